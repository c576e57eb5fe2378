import Derived.Test.YtaffcoiomggpfaaVNfa3
import Derived.Test.YtaffcoiomggpfaaVLang
import Derived.Test.YtaffcoiomggpfaaVNode
import Derived.Test.YtaffcoiomggpfaaFregex
/- Contracts of package nfa (4): Sample. -/
namespace Go.Proofs.Ytaffcoiomggpfaa
open Go.V
attribute [local irreducible] app
set_option linter.constructorNameAsVariable false
set_option linter.unusedVariables false

def lenAt (b i : Nat) (H : Heap) : Nat := match H b with
  | some (Obj.cells c _ _) => match c[i]? with
    | some (Value.slice _ l _) => l
    | _ => 0
  | _ => 0
def valAt (q : OA) (H : Heap) : Nat := match q with
  | some q => match H q.block with
    | some (Obj.cells c _ _) => match c[0]? with
      | some (Value.int _ n) => n.toNat
      | _ => 0
    | _ => 0
  | none => 0
theorem pickOf_le (s : S4) (eol : Bool) : -1 ≤ pickOf s eol ∧ pickOf s eol ≤ 255 := by
  unfold pickOf
  split
  · omega
  split
  · omega
  split
  · rename_i b hb
    have := List.mem_of_find?_eq_some hb
    rw [List.mem_range] at this; omega
  · omega
theorem innerF_end (st : List Nd) {i : Nat} {S : In} (f : Nat) (h : ¬ i < S.L.length) : innerF st f i S = .inr S := by
  cases f with
  | zero => rfl
  | succ f => unfold innerF; rw [if_neg h]
theorem innerF_step (st : List Nd) {i : Nat} {S : In} (f : Nat) (h : i < S.L.length) : innerF st (f + 1) i S = match stepI st S i with
    | .inl t => .inl t
    | .inr S' => innerF st f (i + 1) S' := by
  conv => lhs; unfold innerF
  rw [if_pos h]
  cases stepI st S i <;> rfl
theorem SS.len {B0 B H : Heap} {a mp bl n cs cl cn : Nat} {ps pl pn : OA} {T : List Tl} {L N : List Nat} (h : SS B0 B H a mp bl ps n cs T pl cl L pn cn N) : lenAt a 2 H = T.length ∧ lenAt bl 0 H = L.length := by
  obtain ⟨h1, h2, h3, h4, h5, h6⟩ := h
  have hb := h2.1 _ _ h3
  obtain ⟨_, _, _, _, ⟨pt, ct, g5, _⟩, _⟩ := h2
  constructor
  · unfold lenAt; rw [g5]; rfl
  · unfold lenAt; rw [hb]; rfl
theorem app_nil_get {L r : List Nat} {i k : Nat} (h : L[i]? = some k) : (L ++ r)[i]? = some k := by
  rw [List.getElem?_append_left (List.getElem?_eq_some_iff.1 h).1]; exact h
def IS (st : List Nd) (B B0 Bi H : Heap) (a mp bl : Nat) (p : OA) (c : Nat) (bi i : Nat) (T : List Tl) (pl : OA) (cl : Nat) (L : List Nat) (pn : OA) (cn : Nat) (N : List Nat) (pe : Int) (m0 : Nat) : Prop :=
  Ext B B0 ∧ B0 bi = some (.cells #[.int .i64 (i : Nat)] 3 (0, 0)) ∧ SS B0 Bi H a mp bl p st.length c T pl cl L pn cn N ∧ TOk st.length T ∧ LOk T L ∧ LOk T N ∧ m0 + N.length ≤ T.length ∧ -1 ≤ pe ∧ pe < T.length
def II (st : List Nd) (B : Heap) (a mp bl : Nat) (p : OA) (c : Nat) (m0 : Nat) (R : Sum (List UInt8) In) (x6 : Int) (x7 : OA) (l7 c7 : Nat) (x8 : OA) (H : Heap) : Prop :=
  ∃ (i bi : Nat) (B0 Bi : Heap) (T : List Tl) (pl : OA) (cl : Nat) (L N : List Nat) (f : Nat), x8 = some ⟨bi, 0, none⟩ ∧ l7 = N.length ∧ IS st B B0 Bi H a mp bl p c bi i T pl cl L x7 c7 N x6 m0 ∧ innerF st f i ⟨T, L, N, x6⟩ = R ∧ f + i = 4 * st.length + 1
def iμ (n : Nat) (x6 : Int) (x7 : OA) (l7 c7 : Nat) (x8 : OA) (H : Heap) : Nat := 4 * n + 2 - valAt x8 H
theorem adv_c {st : List Nd} {B B0 Bi H : Heap} {a mp bl bx : Nat} {p : OA} {c bi i : Nat} {T : List Tl} {pl : OA} {cl : Nat} {L : List Nat} {pn : OA} {cn : Nat} {N : List Nat} {pe : Int} {m0 f v : Nat} {R : Sum (List UInt8) In} {nx : Int → HP} {Q : QT} {E : ET}
    (h : IS st B B0 Bi H a mp bl p c bi i T pl cl L pn cn N pe m0) (hR : innerF st f (i + 1) ⟨T, L, N, pe⟩ = R) (hf : f + (i + 1) = 4 * st.length + 1) (hst : st.length ≤ 513) (hv : v = i) :
    zqb2_8 nx (fun x6' x7' l7' c7' x8' H1 => II st B a mp bl p c m0 R x6' x7' l7' c7' x8' H1 ∧ iμ st.length x6' x7' l7' c7' x8' H1 < 4 * st.length + 2 - v) Q E p st.length c (some ⟨bx, 0, none⟩) (some ⟨bl, 0, none⟩) pe pn N.length cn (some ⟨bi, 0, none⟩) H := by
  obtain ⟨h1, h2, h3, h4, h5, h6, h7, h8, h9⟩ := h
  have hbi : H bi = some (.cells #[.int .i64 (i : Nat)] 3 (0, 0)) := h3.2.1.1 _ _ (h3.1 _ _ h2)
  unfold zqb2_8
  simp only [ptr_some]
  refine ldI_at (n := (i : Nat)) hbi rfl ?_
  refine nw_ext fun q H1 hq he1 hc1 => ?_
  refine wr_new hc1 (by simp) rfl (c' := #[.int .i64 (i : Nat)]) rfl fun H2 hc2 hb2 => ?_
  refine ldI_at (n := (i : Nat)) hc2 rfl ?_
  have hw : IntKind.wrap .i64 ((i : Int) + 1) = ((i + 1 : Nat) : Int) := by rw [IntWalk.i64_in _ (by omega)]; omega
  rw [hw]
  refine wr_new hc2 (by simp) rfl (c' := #[.int .i64 ((i + 1 : Nat) : Int)]) rfl fun H3 hc3 hb3 => ?_
  have he3 : Ext H H3 := ext_but (ext_but he1 hq hb2) hq hb3
  obtain ⟨g1, g2⟩ := h3.grow he3
  refine ⟨⟨i + 1, q, _, _, T, pl, cl, L, N, f, rfl, rfl, ⟨h1.trans g2, by rw [beside_free hq]; exact hc3, g1, h4, h5, h6, h7, h8, h9⟩, hR, hf⟩, ?_⟩
  have : valAt (some ⟨q, 0, none⟩) H3 = i + 1 := by
    unfold valAt; simp only [hc3]; rfl
  unfold iμ
  rw [this, hv]; omega
theorem on_i {st : List Nd} {B B0 Bi H : Heap} {a mp bl bx bt : Nat} {p : OA} {c bi i k s : Nat} {T : List Tl} {pl : OA} {cl : Nat} {L : List Nat} {pn : OA} {cn : Nat} {N : List Nat} {pe : Int} {m0 : Nat} {tr : Tl} {eol : Bool} {tx tt : TypeId} {fx ft : Nat × Nat} {Q : QT} {E : ET}
    (h : IS st B B0 Bi H a mp bl p c bi i T pl cl L pn cn N pe m0) (hx : B bx = some (.cells #[.pointer (some ⟨a, 0, none⟩)] tx fx)) (ht : B0 bt = some (.cells tr.cells.toArray tt ft)) (hik : L[i]? = some k) (hst : st.length ≤ 513) (hs : s < st.length)
    (hk : ∀ Bi' H' p' c' r, IS st B B0 Bi' H' a mp bl p c bi i (reachP T L ⟨s, tr.bol, eol, k, -1⟩).1 p' c' (reachP T L ⟨s, tr.bol, eol, k, -1⟩).2 pn cn N pe m0 → (reachP T L ⟨s, tr.bol, eol, k, -1⟩).2 = L ++ r → Q (.tuple #[]) H') :
    Does Pr 65 #[.int .i64 (s : Nat), .bool eol, .pointer (some ⟨bx, 0, none⟩), .pointer (some ⟨bl, 0, none⟩), .pointer (some ⟨bt, 0, none⟩), .pointer (some ⟨bi, 0, none⟩)] H Q E := by
  obtain ⟨h1, h2, h3, h4, h5, h6, h7, h8, h9⟩ := h
  have l1 := h4.len
  have l2 := h5.len
  have hkm := h5.2 k (List.mem_iff_getElem?.2 ⟨i, hik⟩)
  refine son_c (tr := tr) (k := k) (i := i) (s := s) h3 (h1 _ _ hx) ht h2 hik (by omega) (by omega) fun B' H' p' c' h' => ?_
  obtain ⟨f1, f2, ⟨r1, f3⟩, ⟨r, f4⟩, f5⟩ := reachP_facts (t := ⟨s, tr.bol, eol, k, -1⟩) h4 h5 hs ⟨by dsimp only; omega, by dsimp only; omega, by dsimp only; omega⟩
  have hle : T.length ≤ (reachP T L ⟨s, tr.bol, eol, k, -1⟩).1.length := by rw [f3]; simp
  exact hk B' H' p' c' r ⟨h1, h2, h', f1, f2, h6.more hle, by omega, h8, by omega⟩ f4
set_option maxHeartbeats 4000000 in
theorem inner_c {st : List Nd} {B B0 Bi H : Heap} {a mp bl bx : Nat} {p : OA} {c bi i : Nat} {T : List Tl} {pl : OA} {cl : Nat} {L : List Nat} {pn : OA} {cn : Nat} {N : List Nat} {pe : Int} {m0 f : Nat} {R : Sum (List UInt8) In} {nx : Int → HP} {Q : QT} {E : ET} {tx : TypeId} {fx : Nat × Nat}
    (h : IS st B B0 Bi H a mp bl p c bi i T pl cl L pn cn N pe m0) (hR : innerF st f i ⟨T, L, N, pe⟩ = R) (hf : f + i = 4 * st.length + 1) (hN : NV st) (hx : B bx = some (.cells #[.pointer (some ⟨a, 0, none⟩)] tx fx)) (hv : Nds B p st)
    (hi : i < L.length) (hfound : ∀ t, R = .inl t → ∀ H' p' c', Ext B H' → Vec H' 1 p' t.length c' (t.map byteV) → Q (.tuple #[.slice p' t.length c', .bool true]) H') :
    zqb2_32 nx (fun x6' x7' l7' c7' x8' H1 => II st B a mp bl p c m0 R x6' x7' l7' c7' x8' H1 ∧ iμ st.length x6' x7' l7' c7' x8' H1 < 4 * st.length + 2 - i) Q E p st.length c (some ⟨bx, 0, none⟩) (some ⟨bl, 0, none⟩) pe pn N.length cn (some ⟨bi, 0, none⟩) H := by
  obtain ⟨n1, n2, hr, hkind⟩ := hN
  have hh := h
  obtain ⟨h1, h2, h3, h4, h5, h6, h7, h8, h9⟩ := hh
  obtain ⟨s1, s2, s3, s4, s5, s6⟩ := id h3
  have hBH := s2.1
  have l1 := h4.len
  have l2 := h5.len
  have l3 := h6.len
  obtain ⟨k, hik⟩ : ∃ k, L[i]? = some k := ⟨_, List.getElem?_eq_getElem hi⟩
  have hkT := h5.2 k (List.mem_iff_getElem?.2 ⟨i, hik⟩)
  have hbi : H bi = some (.cells #[.int .i64 (i : Nat)] 3 (0, 0)) := hBH _ _ (s1 _ _ h2)
  have hbx : H bx = some (.cells #[.pointer (some ⟨a, 0, none⟩)] tx fx) := hBH _ _ (s1 _ _ (h1 _ _ hx))
  have hbl := hBH _ _ s3
  obtain ⟨_, _, _, _, ⟨pt, ct, g5, g6, g7⟩, _, g9, _⟩ := id s2
  have hxt : T[k]? = some (T.getD k default) := by rw [List.getD_eq_getElem?_getD, List.getElem?_eq_getElem hkT]; rfl
  have hLk : L.getD i 0 = k := by rw [List.getD_eq_getElem?_getD, hik]; rfl
  cases f with
  | zero => omega
  | succ f =>
    rw [innerF_step st f hi] at hR
    unfold stepI at hR
    dsimp only at hR
    rw [hLk] at hR
    have htn := h4.2.1 (T.getD k default) (List.mem_iff_getElem?.2 ⟨k, hxt⟩)
    generalize htr : T.getD k default = tr at hxt hR htn
    have hrx := hr _ (List.mem_iff_getElem?.2 ⟨tr.s, getD_some htn⟩)
    have hkx := hkind _ (List.mem_iff_getElem?.2 ⟨tr.s, getD_some htn⟩)
    have hnode := getD_some htn
    generalize st.getD tr.s default = x at hR hrx hkx hnode
    unfold zqb2_32
    simp only [ptr_some]
    refine ldP_at hbx rfl ?_
    simp only [ptr_some, add_at, Nat.zero_add]
    refine ldSl_at (p := pt) (l := T.length) (m := ct) g5 rfl ?_
    refine ldSl_at (p := pl) (l := L.length) (m := cl) hbl rfl ?_
    refine ldI_at (n := (i : Nat)) hbi rfl ⟨⟨by omega, by omega⟩, ?_⟩
    obtain ⟨lb, ty, cc, rfl, hlb, hcc⟩ := vec_at1 g9 (n := i) (v := natV k) (by simp [hik])
    simp only [ptr_some, add_at, Int.toNat_natCast, Nat.mul_one, Nat.zero_add]
    refine ldI_at (n := (k : Nat)) hlb hcc ⟨⟨by omega, by omega⟩, ?_⟩
    obtain ⟨tb, ty2, cc2, rfl, htb, hcc2⟩ := vec_at5 g6 hxt
    simp only [ptr_some, add_at, Int.toNat_natCast, Nat.zero_add]
    refine ⟨(tr.s : Nat), tr.bol, tr.eol, tr.fr, tr.b, rd_at htb _ (k * 5) 0 fun j hj => by
      rw [Nat.add_zero, hcc2 j hj]; rfl, ?_⟩
    refine nw_ext fun bt H2 hq2 he2 hc2 => ?_
    refine wr_new hc2 (by simp) rfl (c' := tr.cells.toArray) rfl fun H3 hc3 hb3 => ?_
    have he3 : Ext H H3 := ext_but he2 hq2 hb3
    clear hc2 hb3 he2
    unfold zqb2_29
    simp only [ptr_some]
    refine ldI_at (n := (tr.s : Nat)) hc3 rfl ⟨⟨by omega, by omega⟩, ?_⟩
    obtain ⟨pa, rfl, hrd⟩ := (((hv.ext h1).ext (s1.trans hBH)).ext he3) tr.s x hnode
    simp only [ptr_some, Int.toNat_natCast]
    refine ⟨x.k, x.l, x.r, x.a, x.b, x.c, x.d, hrd, ?_⟩
    refine nw_ext fun bs H4 hq4 he4 hc4 => ?_
    refine wr_new hc4 (by simp) rfl (c' := x.cells.toArray) rfl fun H5 hc5 hb5 => ?_
    have he5 : Ext H3 H5 := ext_but he4 hq4 hb5
    clear hc4 hb5 he4
    have hc5 : H5 bs = some (.cells #[.int .i64 x.k, .int .i64 x.l, .int .i64 x.r, .int .u64 x.a, .int .u64 x.b, .int .u64 x.c, .int .u64 x.d] 91 (0, 0)) := hc5
    have heH5 := he3.trans he5
    obtain ⟨q1, q2⟩ := h3.grow heH5
    -- the state with the two new boxes
    have hI : IS st B (beside B0 H H5) (beside Bi H H5) H5 a mp bl (some pa) c bi i T (some ⟨lb, 0, none⟩) cl L pn cn N pe m0 := ⟨h1.trans q2, q2 _ _ h2, q1, h4, h5, h6, h7, h8, h9⟩
    have hbt : (beside B0 H H5) bt = some (.cells tr.cells.toArray 102 (0, 0)) := by rw [beside_free hq2]; exact he5 _ _ hc3
    have hbs : (beside B0 H H5) bs = some (.cells #[.int .i64 x.k, .int .i64 x.l, .int .i64 x.r, .int .u64 x.a, .int .u64 x.b, .int .u64 x.c, .int .u64 x.d] 91 (0, 0)) := by
      rw [beside_free (by cases e : H bs with | none => rfl | some o => rw [he3 _ _ e] at hq4; cases hq4)]; exact hc5
    have hbi5 := heH5 _ _ hbi
    have hbx5 := heH5 _ _ hbx
    have hbl5 := heH5 _ _ hbl
    have hlb5 := heH5 _ _ hlb
    have hbt5 := he5 _ _ hc3
    have hB5 : Ext B H5 := (h1.trans (s1.trans hBH)).trans heH5
    have g55 := heH5 _ _ g5
    generalize beside B0 H H5 = C0 at q1 q2 hI hbt hbs
    generalize beside Bi H H5 = Ci at q1 hI
    unfold zqb2_26 zqb2_23
    simp only [ptr_some]
    refine ldI_at (n := x.k) hc5 rfl ?_
    unfold zqb2_19 zqb2_17
    refine sel_beq (fun k5 => ?_) (fun k5 => ?_)
    · rw [if_pos k5] at hR
      unfold zqb2_12
      simp only [ptr_some, add_at, Nat.zero_add]
      refine ldB_at (n := tr.eol) hbt5 rfl (sel_not (fun he => ?_) (fun he => ?_))
      · rw [if_pos he] at hR
        refine ldP_at hbx5 rfl ?_
        refine ldSl_at (p := some ⟨lb, 0, none⟩) (l := L.length) (m := cl) hbl5 rfl ?_
        refine ldI_at (n := (i : Nat)) hbi5 rfl ⟨⟨by omega, by omega⟩, ?_⟩
        simp only [ptr_some, add_at, Int.toNat_natCast, Nat.mul_one, Nat.zero_add]
        refine ldI_at (n := (k : Nat)) hlb5 hcc ?_
        refine ntext_c hI.2.2.1.2.1 (by omega) h4.2.2 hkT fun H6 p6 c6 he6 _ hv6 _ => ⟨_, _, _, rfl, ?_⟩
        exact hfound _ hR.symm H6 p6 c6 (hB5.trans he6) hv6
      · rw [if_neg (by rw [he]; simp)] at hR
        unfold zqb2_10
        simp only [ptr_some]
        refine ldSl_at (p := some ⟨lb, 0, none⟩) (l := L.length) (m := cl) hbl5 rfl ?_
        refine ldI_at (n := (i : Nat)) hbi5 rfl ⟨⟨by omega, by omega⟩, ?_⟩
        simp only [ptr_some, add_at, Int.toNat_natCast, Nat.mul_one, Nat.zero_add]
        refine ldI_at (n := (k : Nat)) hlb5 hcc ?_
        refine adv_c (pe := if pe < (k : Nat) then (k : Nat) else pe) (f := f) ⟨hI.1, hI.2.1, hI.2.2.1, h4, h5, h6, h7, ?_, ?_⟩ hR (by omega) n2 rfl
        · split <;> omega
        · split <;> omega
    rw [if_neg k5] at hR
    obtain ⟨ol, eol'⟩ : ∃ n : Nat, x.l = (n : Nat) := ⟨x.l.toNat, by omega⟩
    obtain ⟨orr, eor⟩ : ∃ n : Nat, x.r = (n : Nat) := ⟨x.r.toNat, by omega⟩
    have hol : ol < st.length := by omega
    have hor : orr < st.length := by omega
    rw [eol', eor] at hR
    simp only [Int.toNat_natCast] at hR
    unfold zqb2_15
    simp only [ptr_some, add_at, Nat.zero_add]
    refine sel_beq (fun k2 => ?_) (fun k2 => ?_)
    · rw [if_pos k2] at hR
      refine ldI_at (n := x.l) hc5 rfl (ldB_at (n := tr.eol) hbt5 rfl ?_)
      rw [eol']
      refine on_i (s := ol) hI hx hbt hik n2 hol fun B6 H6 p6 c6 r6 h6' e6 => ?_
      have hB6 := h6'.2.2.1.2.1.1
      have hx6 := h6'.2.2.1.1.trans hB6
      refine ldI_at (n := x.r) (hx6 _ _ hbs) rfl (ldB_at (n := tr.eol) (hx6 _ _ hbt) rfl ?_)
      rw [eor]
      have hik6 : (reachP T L ⟨ol, tr.bol, tr.eol, k, -1⟩).2[i]? = some k := by rw [e6]; exact app_nil_get hik
      refine on_i (s := orr) h6' hx hbt hik6 n2 hor fun B7 H7 p7 c7 r7 h7' e7 => ?_
      exact adv_c (f := f) h7' hR (by omega) n2 rfl
    rw [if_neg k2] at hR
    refine sel_beq (fun k3 => ?_) (fun k3 => ?_)
    · rw [if_pos k3] at hR
      refine ldB_at (n := tr.bol) hbt5 rfl (sel_mk (fun hb => ?_) (fun hb => ?_))
      · rw [if_pos hb] at hR
        refine ldI_at (n := x.l) hc5 rfl (ldB_at (n := tr.eol) hbt5 rfl ?_)
        rw [eol']
        refine on_i (s := ol) hI hx hbt hik n2 hol fun B6 H6 p6 c6 r6 h6' e6 => ?_
        exact adv_c (f := f) h6' hR (by omega) n2 rfl
      · rw [if_neg (by rw [hb]; simp)] at hR
        exact adv_c (f := f) hI hR (by omega) n2 rfl
    rw [if_neg k3] at hR
    refine sel_beq (fun k4 => ?_) (fun k4 => ?_)
    · rw [if_pos k4] at hR
      refine ldI_at (n := x.l) hc5 rfl ?_
      rw [eol']
      refine on_i (s := ol) hI hx hbt hik n2 hol fun B6 H6 p6 c6 r6 h6' e6 => ?_
      exact adv_c (f := f) h6' hR (by omega) n2 rfl
    rw [if_neg k4] at hR
    refine sel_beq (fun k1 => ?_) (fun k1 => by omega)
    rw [if_pos k1] at hR
    refine ⟨x.a, x.b, x.c, x.d, rd_at hc5 _ 3 0 fun j hj => by
      simp only [List.length_cons, List.length_nil] at hj
      match j, hj with
      | 0, _ => rfl
      | 1, _ => rfl
      | 2, _ => rfl
      | 3, _ => rfl, ?_⟩
    refine ldB_at (n := tr.eol) hbt5 rfl ?_
    have hpl := pickOf_le x.set tr.eol
    refine pick_c (s := x.set) fun H6 he6 => ⟨_, rfl, ?_⟩
    generalize pickOf x.set tr.eol = b at hR hpl
    refine sel_dec (fun hb => ?_) (fun hb => ?_)
    · rw [if_pos hb] at hR
      obtain ⟨w1, w2⟩ := hI.2.2.1.grow he6
      have hI6 : IS st B (beside C0 H5 H6) (beside Ci H5 H6) H6 a mp bl (some pa) c bi i T (some ⟨lb, 0, none⟩) cl L pn cn N pe m0 := ⟨hI.1.trans w2, w2 _ _ hI.2.1, w1, h4, h5, h6, h7, h8, h9⟩
      refine ldP_at (he6 _ _ hbx5) rfl ?_
      refine ldI_at (n := x.l) (he6 _ _ hc5) rfl ?_
      rw [eol']
      refine ldSl_at (p := some ⟨lb, 0, none⟩) (l := L.length) (m := cl) (he6 _ _ hbl5) rfl ?_
      refine ldI_at (n := (i : Nat)) (he6 _ _ hbi5) rfl ⟨⟨by omega, by omega⟩, ?_⟩
      simp only [ptr_some, add_at, Int.toNat_natCast, Nat.mul_one, Nat.zero_add]
      refine ldI_at (n := (k : Nat)) (he6 _ _ hlb5) hcc ?_
      refine snext_c (t := ⟨ol, b == 10, false, k, b⟩) w1 (by omega) (by omega) fun B7 H7 p7 c7 h7' => ⟨_, _, _, rfl, ?_⟩
      obtain ⟨f1, f2, ⟨r1, f3⟩, ⟨r, f4⟩, f5⟩ := reachP_facts (t := ⟨ol, b == 10, false, k, b⟩) h4 h6 hol ⟨by dsimp only; omega, by dsimp only; omega, by dsimp only; omega⟩
      have hle : T.length ≤ (reachP T N ⟨ol, b == 10, false, k, b⟩).1.length := by rw [f3]; simp
      exact adv_c (f := f) ⟨hI6.1, hI6.2.1, h7', f1, h5.more hle, f2, by omega, h8, by omega⟩ hR (by omega) n2 rfl
    · rw [if_neg hb] at hR
      obtain ⟨w1, w2⟩ := hI.2.2.1.grow he6
      exact adv_c (f := f) ⟨hI.1.trans w2, w2 _ _ hI.2.1, w1, h4, h5, h6, h7, h8, h9⟩ hR (by omega) n2 rfl
end Go.Proofs.Ytaffcoiomggpfaa

/- Contracts of package nfa (5): Sample, the loops. -/
namespace Go.Proofs.Ytaffcoiomggpfaa
open Go.V
attribute [local irreducible] app
set_option linter.constructorNameAsVariable false
set_option linter.unusedVariables false

def OI (st : List Nd) (B : Heap) (a mp bl : Nat) (p : OA) (c : Nat) (x6 : Int) (H : Heap) : Prop :=
  ∃ (B0 Bi : Heap) (T : List Tl) (pl : OA) (cl : Nat) (L : List Nat) (f : Nat), Ext B B0 ∧ SS B0 Bi H a mp bl p st.length c T pl cl L none 0 [] ∧ TOk st.length T ∧ LOk T L ∧ outerF st f T L x6 = sampleOf st ∧
    2 * (4 * st.length + 1 - T.length) + (if L.length = 0 then 0 else 1) < f ∧ -1 ≤ x6 ∧ x6 < 0
def oμ (n a bl : Nat) (x6 : Int) (H : Heap) : Nat := 2 * (4 * n + 1 - lenAt a 2 H) + (if lenAt bl 0 H = 0 then 0 else 1)
theorem outerF_step (st : List Nd) {T : List Tl} {L : List Nat} {pe : Int} (f : Nat) (h : 0 < L.length) : outerF st (f + 1) T L pe = match innerF st (4 * st.length + 1) 0 ⟨T, L, [], pe⟩ with
    | .inl t => some t
    | .inr S => if 0 ≤ S.pe then some (textP S.T S.pe.toNat ++ [10]) else outerF st f S.T S.N S.pe := by
  conv => lhs; unfold outerF
  rw [if_pos h]
  cases innerF st (4 * st.length + 1) 0 ⟨T, L, [], pe⟩ <;> rfl
theorem reach_c' {H0 H : Heap} {a mp n cs cl l : Nat} {ps pl : OA} {T : List Tl} {L : List Nat} {t : Tl} {sv fr b : Int} {bol eol : Bool} {Q : QT} {E : ET} (h : RS H0 H a mp ps n cs T pl cl L) (hT : T.length < 65536) (hL : L.length < 65536)
    (hl : l = L.length) (h1 : sv = (t.s : Nat)) (h2 : fr = t.fr) (h3 : b = t.b) (h4 : bol = t.bol) (h5 : eol = t.eol)
    (hk : ∀ H' p' c', RS H0 H' a mp ps n cs (reachP T L t).1 p' c' (reachP T L t).2 → Q (.slice p' (reachP T L t).2.length c') H') :
    Does Pr 64 #[.pointer (some ⟨a, 0, none⟩), .slice pl l cl, .agg #[.int .i64 sv, .bool bol, .bool eol], .int .i64 fr, .int .i64 b] H Q E := by
  subst hl h1 h2 h3 h4 h5
  exact reach_c h hT hL hk
set_option maxHeartbeats 2000000 in
theorem Sample_c {H : Heap} {p : OA} {c : Nat} {st : List Nd} {Q : QT} {E : ET} (hv : Vec H 7 p st.length c (flat st)) (hN : NV st)
    (hk1 : ∀ t, sampleOf st = some t → ∀ H' p' c', Ext H H' → Vec H' 1 p' t.length c' (t.map byteV) → Q (.tuple #[.slice p' t.length c', .bool true]) H')
    (hk2 : sampleOf st = none → ∀ H', Ext H H' → Q (.tuple #[.slice none 0 0, .bool false]) H') : Does Pr 37 #[.slice p st.length c] H Q E := by
  refine zqb2_fn _ _ _ Q E H ?_
  unfold zqb2 zqb2_67
  refine nvalid_c (Vec.nds hv) hN fun H1 he1 => ⟨_, rfl, sel_ff ?_⟩
  unfold zqb2_64
  refine nw_ext fun mp H2 hmp he2 hc2 => ?_
  refine nw_ext fun a H3 ha he3 hc3 => ?_
  refine nw_ext fun bx H4 hbx he4 hc4 => ?_
  refine wr_new hc4 (by simp) rfl (c' := #[.pointer (some ⟨a, 0, none⟩)]) rfl fun H5 hc5 hb5 => ?_
  have he5 : Ext H3 H5 := ext_but he4 hbx hb5
  have hne : a ≠ mp := fun e => by rw [e, hc2] at ha; cases ha
  have hxa : bx ≠ a := fun e => by rw [e, hc3] at hbx; cases hbx
  have hxm : bx ≠ mp := fun e => by rw [e, he3 _ _ hc2] at hbx; cases hbx
  -- the base: all but the search and its map
  obtain ⟨B, hB⟩ : ∃ B : Heap, B = fun j => if j = a ∨ j = mp then none else H5 j := ⟨_, rfl⟩
  have hHB : Ext H B := fun j o hj => by
    have h1 := he1 j o hj
    have hja : j ≠ a := fun e => by rw [e, he2.free ha] at h1; cases h1
    have hjm : j ≠ mp := fun e => by rw [e, hmp] at h1; cases h1
    rw [hB]; dsimp only
    rw [if_neg (by omega)]
    exact he5 _ _ (he3 _ _ (he2 _ _ h1))
  have hBx : B bx = some (.cells #[.pointer (some ⟨a, 0, none⟩)] 93 (0, 0)) := by rw [hB]; dsimp only; rw [if_neg (by omega)]; exact hc5
  have h6 : RS B H5 a mp p st.length c [] none 0 [] := by
    refine ⟨fun j o hj => ?_, by rw [hB]; dsimp only; rw [if_pos (.inl rfl)], by rw [hB]; dsimp only; rw [if_pos (.inr rfl)], hne, ⟨none, 0, he5 _ _ hc3, Vec.nil _ 5, fun j hj => (by obtain ⟨a, ha, _⟩ := hj; cases ha)⟩, ⟨#[], 0, he5 _ _ (he3 _ _ hc2), rfl, by simp⟩, Vec.nil _ 1, fun j hj => (by obtain ⟨a, ha, _⟩ := hj; cases ha)⟩
    rw [hB] at hj; dsimp only at hj
    split at hj
    · cases hj
    · exact hj
  have hvB : Nds B p st := Vec.nds (hv.ext hHB)
  clear hB hc2 hc3 hc4 hb5
  unfold zqb2_61
  simp only [ptr_some]
  refine ldP_at hc5 rfl ?_
  refine reach_c' (t := t0) h6 (by simp) (by simp) rfl rfl rfl rfl rfl rfl fun H6 p6 c6 h7 => ⟨_, _, _, rfl, ?_⟩
  have er : reachP [] [] t0 = ([t0], [0]) := rfl
  rw [er] at h7 ⊢
  dsimp only at h7 ⊢
  refine nw_ext fun bl H7 hbl he7 hc7 => ?_
  refine wr_new hc7 (by simp) rfl (c' := #[.slice p6 1 c6]) rfl fun H8 hc8 hb8 => ?_
  have hBbl : B bl = none := h7.1.free hbl
  have g7 := h7.grow he7
  have gbl : (beside B H6 H7) bl = some (.cells #[.slice none 0 0] 22 (0, 0)) := by rw [beside_free hbl]; exact hc7
  have e8 : H8 = H7.set bl (.cells #[.slice p6 1 c6] 22 (0, 0)) := by
    funext j
    by_cases e : j = bl
    · subst e; rw [Heap.set_self]; exact hc8
    · rw [Heap.set_ne _ _ e]; exact hb8 j e
  have hS : SS B ((beside B H6 H7).set bl (.cells #[.slice p6 1 c6] 22 (0, 0))) H8 a mp bl p st.length c [t0] p6 c6 [0] none 0 [] := by
    refine ⟨fun j o hj => ?_, by rw [e8]; exact g7.setB (by rw [gbl]; simp) _, Heap.set_self _ _ _, hBbl, Vec.nil _ 1, fun j hj => (by obtain ⟨a, ha, _⟩ := hj; cases ha)⟩
    rw [Heap.set_ne _ _ (fun e => by rw [e, hBbl] at hj; cases hj), beside_some (by rw [hj]; simp)]
    exact he7 _ _ (h7.1 _ _ hj)
  clear e8 gbl g7 hc8 hb8 hc7 he7 hbl h7 h6
  obtain ⟨n1, n2, hr, hkind⟩ := id hN
  have hT0 : TOk st.length [t0] := ⟨by simp, fun t ht => (by obtain rfl := List.mem_singleton.1 ht; show 0 < _; omega), fun i hi => by
    have : i = 0 := by simp at hi; exact hi
    subst this; exact ⟨by decide, by decide, by decide⟩⟩
  have hL0 : LOk [t0] [0] := ⟨by simp, fun k hk => (by obtain rfl := List.mem_singleton.1 hk; simp)⟩
  unfold zqb2_58 zqb2_54
  refine ⟨OI st B a mp bl p c, oμ st.length a bl, ⟨B, _, [t0], p6, c6, [0], _, Ext.refl _, hS, hT0, hL0, rfl, by simp, by omega, by omega⟩, ?_⟩
  rintro x6 H9 ⟨B0, Bi, T, pl, cl, L, f, hB0, hS9, hT, hL, hF, hmu, hx1, hx2⟩
  obtain ⟨s1, s2, s3, s4, s5, s6⟩ := id hS9
  have hbl9 := s2.1 _ _ s3
  obtain ⟨len1, len2⟩ := hS9.len
  have hTl := hT.len
  unfold zqb2_51
  simp only [ptr_some]
  refine ldSl_at (p := pl) (l := L.length) (m := cl) hbl9 rfl ?_
  refine sel_dec (fun hpos => ?_) (fun hneg => ?_)
  · have hpos : 0 < L.length := by omega
    cases f with
    | zero => omega
    | succ f =>
    rw [outerF_step st f hpos] at hF
    unfold zqb2_47 zqb2_43
    refine nw_ext fun bi H10 hbi he10 hc10 => ?_
    refine wr_new hc10 (by simp) rfl (c' := #[.int .i64 ((0 : Nat) : Int)]) rfl fun H11 hc11 hb11 => ?_
    have he11 : Ext H9 H11 := ext_but he10 hbi hb11
    obtain ⟨g1, g2⟩ := hS9.grow he11
    unfold zqb2_40
    have hI0 : IS st B (beside B0 H9 H11) (beside Bi H9 H11) H11 a mp bl p c bi 0 T pl cl L none 0 [] x6 T.length :=
      ⟨hB0.trans g2, by rw [beside_free hbi]; exact hc11, g1, hT, hL, ⟨by simp, by simp⟩, by simp, hx1, by omega⟩
    generalize hRR : innerF st (4 * st.length + 1) 0 ⟨T, L, [], x6⟩ = R at hF
    refine ⟨II st B a mp bl p c T.length R, iμ st.length, ⟨0, bi, _, _, T, pl, cl, L, [], _, rfl, rfl, hI0, hRR, by omega⟩, ?_⟩
    rintro y6 y7 l7 c7 y8 H12 ⟨i, bi2, C0, Ci, T2, pl2, cl2, L2, N2, f2, rfl, rfl, hI, hR2, hf2⟩
    obtain ⟨i1, i2, i3, i4, i5, i6, i7, i8, i9⟩ := id hI
    obtain ⟨t1, t2, t3, t4, t5, t6⟩ := id i3
    have hbi12 := t2.1 _ _ (t1 _ _ i2)
    have hbl12 := t2.1 _ _ t3
    have hbx12 := t2.1 _ _ (t1 _ _ (i1 _ _ hBx))
    have hval : valAt (some ⟨bi2, 0, none⟩) H12 = i := by unfold valAt; simp only [hbi12]; rfl
    have hT2 := i4.len
    unfold zqb2_37
    simp only [ptr_some]
    refine ldI_at (n := (i : Nat)) hbi12 rfl ?_
    refine ldSl_at (p := pl2) (l := L2.length) (m := cl2) hbl12 rfl ?_
    refine sel_dec (fun hlt => ?_) (fun hge => ?_)
    · have hμ : iμ st.length y6 y7 N2.length c7 (some ⟨bi2, 0, none⟩) H12 = 4 * st.length + 2 - i := by unfold iμ; rw [hval]
      rw [hμ]
      refine inner_c (f := f2) hI hR2 hf2 hN hBx hvB (by omega) fun t ht H' p' c' he' hv' => ?_
      rw [ht] at hF
      exact hk1 t hF.symm H' p' c' (hHB.trans he') hv'
    · rw [innerF_end st f2 (by show ¬ i < L2.length; omega)] at hR2
      rw [← hR2] at hF
      dsimp only at hF
      unfold zqb2_5
      simp only [ptr_some]
      refine sel_dec (fun hp => ?_) (fun hn => ?_)
      · rw [if_pos (by omega)] at hF
        obtain ⟨k, rfl⟩ : ∃ k : Nat, y6 = (k : Nat) := ⟨y6.toNat, by omega⟩
        rw [Int.toNat_natCast] at hF
        refine ldP_at hbx12 rfl ?_
        refine ntext_c t2 (by omega) i4.2.2 (by omega) fun H13 p13 c13 he13 hf13 hv13 hl13 => ⟨_, _, _, rfl, ?_⟩
        refine nw_ext fun q H14 hq he14 hc14 => ?_
        have hc14' : Byt H14 (some ⟨q, 0, none⟩) 1 1 [10] := ⟨rfl, Nat.le_refl _, rd_at hc14 _ 0 0 fun j hj => by simp; rfl⟩
        refine app_byt (hv13.ext he14) hc14' (by omega) fun p15 c15 H15 hv15 hs15 hb15 => ?_
        have hE : Ext B H12 := i1.trans (t1.trans t2.1)
        have e15 : Ext H12 H15 := ext_app (he13.trans he14) hf13 hs15
        have hl : (textP T2 k).length + 1 = (textP T2 k ++ [10]).length := by simp
        rw [hl] at hv15 ⊢
        exact hk1 _ hF.symm H15 p15 c15 (hHB.trans (hE.trans e15)) hv15
      · rw [if_neg (by omega)] at hF
        unfold zqb2_3
        simp only [ptr_some]
        refine wr_new hbl12 (by simp) rfl (c' := #[.slice y7 N2.length c7]) rfl fun H13 hc13 hb13 => ?_
        have e13 : H13 = H12.set bl (.cells #[.slice y7 N2.length c7] 22 (0, 0)) := by
          funext j
          by_cases e : j = bl
          · subst e; rw [Heap.set_self]; exact hc13
          · rw [Heap.set_ne _ _ e]; exact hb13 j e
        obtain ⟨B', hS'⟩ := i3.turn e13
        obtain ⟨m1, m2⟩ := hS'.len
        have hmu' : 2 * (4 * st.length + 1 - T2.length) + (if N2.length = 0 then 0 else 1) < 2 * (4 * st.length + 1 - T.length) + (if L.length = 0 then 0 else 1) := by
          rw [if_neg (show ¬ L.length = 0 by omega)]
          split <;> omega
        refine ⟨⟨C0, B', T2, y7, c7, N2, f, i1, hS', i4, i6, hF, by omega, i8, by omega⟩, ?_⟩
        unfold oμ
        rw [len1, len2, m1, m2]
        exact hmu'
  · unfold zqb2_1
    have hL0' : ¬ 0 < L.length := by omega
    have : outerF st f T L x6 = none := by
      cases f with
      | zero => rfl
      | succ f => unfold outerF; rw [if_neg hL0']
    rw [this] at hF
    exact hk2 hF.symm H9 (hHB.trans (hB0.trans (s1.trans s2.1)))
end Go.Proofs.Ytaffcoiomggpfaa

/- Plain laws of the machine: spread is a closure; what was found stays found. -/
namespace Go.Proofs.Ytaffcoiomggpfaa
open Go.V
set_option linter.constructorNameAsVariable false
set_option linter.unusedVariables false

def goes (st : List Nd) (bol eol : Bool) (j : Nat) : List Nat :=
  if (st.getD j default).k = 2 then [(st.getD j default).r.toNat, (st.getD j default).l.toNat]
  else if ((st.getD j default).k = 3 ∧ bol = true) ∨ ((st.getD j default).k = 4 ∧ eol = true) then [(st.getD j default).l.toNat]
  else []
def isM (st : List Nd) (j : Nat) : Bool := decide ((st.getD j default).k = 5)
theorem spreadL_step (st : List Nd) (bol eol : Bool) (f i : Nat) (m : Bool) (l : List Nat) :
    spreadL st bol eol (f + 1) i m l = if i < l.length then spreadL st bol eol f (i + 1) (m || isM st (l.getD i 0)) ((goes st bol eol (l.getD i 0)).foldl addL l) else (l, m) := by
  conv => lhs; unfold spreadL
  split
  · dsimp only
    unfold goes isM
    generalize st.getD (l.getD i 0) default = x
    by_cases h2 : x.k = 2
    · rw [if_pos h2, if_pos h2]
      have : decide (x.k = 5) = false := decide_eq_false (by omega)
      rw [this]; simp
    · rw [if_neg h2, if_neg h2]
      by_cases h3 : (x.k = 3 ∧ bol = true) ∨ (x.k = 4 ∧ eol = true)
      · rw [if_pos h3, if_pos h3]
        have : decide (x.k = 5) = false := decide_eq_false (by omega)
        rw [this]; simp
      · rw [if_neg h3, if_neg h3]
        by_cases h5 : x.k = 5
        · rw [if_pos h5, decide_eq_true h5]; simp
        · rw [if_neg h5, decide_eq_false h5]; simp
  · rfl
theorem mem_addL {l : List Nat} {i j : Nat} : j ∈ addL l i ↔ j ∈ l ∨ j = i := by
  unfold addL
  split
  · rename_i h
    exact ⟨.inl, fun h' => h'.elim id (fun e => e ▸ h)⟩
  · simp
theorem addL_pre (l : List Nat) (i : Nat) : ∃ r, addL l i = l ++ r := by
  unfold addL
  split
  · exact ⟨[], by simp⟩
  · exact ⟨[i], rfl⟩
theorem foldl_addL : ∀ (s l : List Nat), (∃ r, s.foldl addL l = l ++ r) ∧ ∀ j, j ∈ s.foldl addL l ↔ j ∈ l ∨ j ∈ s
  | [], l => ⟨⟨[], by simp⟩, by simp⟩
  | x :: s, l => by
    obtain ⟨⟨r, h1⟩, h2⟩ := foldl_addL s (addL l x)
    obtain ⟨r0, h0⟩ := addL_pre l x
    refine ⟨⟨r0 ++ r, by rw [List.foldl_cons, h1, h0, List.append_assoc]⟩, fun j => ?_⟩
    rw [List.foldl_cons, h2 j, mem_addL, List.mem_cons]
    exact or_assoc
theorem goes_lt {st : List Nd} (hr : InR st) {bol eol : Bool} {j s : Nat} (hj : j < st.length) (hs : s ∈ goes st bol eol j) : s < st.length := by
  have := hr.at (getD_some hj)
  unfold goes at hs
  generalize st.getD j default = x at this hs
  split at hs
  · simp at hs; omega
  · split at hs
    · simp at hs; omega
    · simp at hs
theorem OkL.fold {st : List Nd} : ∀ (s l : List Nat), OkL st.length l → (∀ j ∈ s, j < st.length) → OkL st.length (s.foldl addL l)
  | [], l, h, _ => h
  | x :: s, l, h, hs => OkL.fold s (addL l x) (h.add (hs x (by simp))) fun j hj => hs j (by simp [hj])
theorem spreadL_spec {st : List Nd} (hr : InR st) (bol eol : Bool) : ∀ (f i : Nat) (m : Bool) (l : List Nat), OkL st.length l → i ≤ l.length → st.length < f + i →
    (∀ j ∈ l.take i, ∀ s ∈ goes st bol eol j, s ∈ l) → m = (l.take i).any (isM st) →
    (∃ r, (spreadL st bol eol f i m l).1 = l ++ r) ∧ (∀ j ∈ (spreadL st bol eol f i m l).1, ∀ s ∈ goes st bol eol j, s ∈ (spreadL st bol eol f i m l).1) ∧
    (spreadL st bol eol f i m l).2 = (spreadL st bol eol f i m l).1.any (isM st)
  | 0, i, m, l, ho, hi, hf, _, _ => by have := ho.len; omega
  | f + 1, i, m, l, ho, hi, hf, hc, hm => by
    rw [spreadL_step]
    split
    · rename_i hlt
      have hget : l[i]? = some (l.getD i 0) := by rw [List.getD_eq_getElem?_getD, List.getElem?_eq_getElem hlt]; rfl
      have htk : l.take (i + 1) = l.take i ++ [l.getD i 0] := by rw [List.take_add_one, hget]; rfl
      have hjm : l.getD i 0 ∈ l := List.mem_iff_getElem?.2 ⟨i, hget⟩
      have hjlt := ho.2 _ hjm
      generalize l.getD i 0 = j at hget htk hjm hjlt
      obtain ⟨⟨r, h1⟩, h2⟩ := foldl_addL (goes st bol eol j) l
      have htk2 : ((goes st bol eol j).foldl addL l).take (i + 1) = l.take (i + 1) := by rw [h1, List.take_append_of_le_length (by omega)]
      obtain ⟨⟨r2, e1⟩, e2, e3⟩ := spreadL_spec hr bol eol f (i + 1) (m || isM st j) ((goes st bol eol j).foldl addL l) (ho.fold _ _ fun s hs => goes_lt hr hjlt hs) (by rw [h1]; simp; omega) (by omega)
        (fun k hk s hs => by
          rw [htk2, htk] at hk
          rcases List.mem_append.1 hk with hk | hk
          · exact (h2 s).2 (.inl (hc k hk s hs))
          · simp at hk; subst hk; exact (h2 s).2 (.inr hs))
        (by rw [htk2, htk, List.any_append, ← hm]; simp)
      exact ⟨⟨r ++ r2, by rw [e1, h1, List.append_assoc]⟩, e2, e3⟩
    · have : l.take i = l := List.take_of_length_le (by omega)
      rw [this] at hc hm
      exact ⟨⟨[], by simp⟩, hc, hm⟩
theorem spreadL_closed {st : List Nd} (bol eol : Bool) : ∀ (f i : Nat) (m : Bool) (l : List Nat), l.length ≤ st.length → i ≤ l.length → st.length < f + i → (∀ j ∈ l, ∀ s ∈ goes st bol eol j, s ∈ l) →
    spreadL st bol eol f i m l = (l, m || (l.drop i).any (isM st))
  | 0, i, m, l, hl, hi, hf, _ => by omega
  | f + 1, i, m, l, hl, hi, hf, hc => by
    rw [spreadL_step]
    split
    · rename_i hlt
      have hget : l[i]? = some (l.getD i 0) := by rw [List.getD_eq_getElem?_getD, List.getElem?_eq_getElem hlt]; rfl
      have hjm : l.getD i 0 ∈ l := List.mem_iff_getElem?.2 ⟨i, hget⟩
      have hdr : l.drop i = l.getD i 0 :: l.drop (i + 1) := by
        rw [List.drop_eq_getElem_cons hlt]
        congr 1
        rw [List.getElem?_eq_getElem hlt] at hget
        exact Option.some.inj hget
      generalize l.getD i 0 = j at hget hjm hdr
      have hfold : (goes st bol eol j).foldl addL l = l := by
        have : ∀ s : List Nat, (∀ k ∈ s, k ∈ l) → s.foldl addL l = l := fun s => by
          induction s with
          | nil => intro _; rfl
          | cons x s ih =>
            intro hs
            have hx : addL l x = l := if_pos (hs x (by simp))
            rw [List.foldl_cons, hx]
            exact ih fun k hk => hs k (by simp [hk])
        exact this _ (hc j hjm)
      rw [hfold, spreadL_closed bol eol f (i + 1) _ l hl (by omega) (by omega) hc, hdr]
      simp [Bool.or_assoc]
    · have : l.drop i = [] := List.drop_eq_nil_of_le (by omega)
      rw [this]; simp
theorem spread_again {st : List Nd} (hr : InR st) (bol eol : Bool) {l : List Nat} (ho : OkL st.length l) : spread st bol eol (spread st bol eol l).1 = spread st bol eol l := by
  have h1 := spreadL_spec hr bol eol (st.length + 1) 0 false l ho (by omega) (by omega) (by simp) (by simp)
  have h2 := spreadL_ok hr bol eol (st.length + 1) 0 false l ho
  change (∃ r, (spread st bol eol l).1 = l ++ r) ∧ (∀ j ∈ (spread st bol eol l).1, ∀ s ∈ goes st bol eol j, s ∈ (spread st bol eol l).1) ∧ (spread st bol eol l).2 = (spread st bol eol l).1.any (isM st) at h1
  change OkL st.length (spread st bol eol l).1 at h2
  have h3 := spreadL_closed bol eol (st.length + 1) 0 false (spread st bol eol l).1 h2.len (by omega) (by omega) h1.2.1
  change spread st bol eol (spread st bol eol l).1 = _ at h3
  rw [h3, List.drop_zero, Bool.false_or, ← h1.2.2]
theorem matched_ok {st : List Nd} (hr : InR st) {M : Ma} (ho : OkL st.length M.now) : OkL st.length (M.matched st).now := by
  unfold Ma.matched
  split
  · exact spreadL_ok hr _ _ _ _ _ _ ho
  · exact ho
theorem matched_again {st : List Nd} (hr : InR st) {M : Ma} (ho : OkL st.length M.now) : (M.matched st).matched st = M.matched st := by
  by_cases hf : M.found < 0
  · have h1 : M.matched st = { M with now := (spread st M.bol false M.now).1, found := if (spread st M.bol false M.now).2 = true then M.at_ else M.found } := if_pos hf
    rw [h1]
    unfold Ma.matched
    dsimp only
    rw [spread_again hr _ _ ho]
    by_cases hs : (spread st M.bol false M.now).2 = true
    · rw [if_pos hs]
      rw [if_neg (by omega)]
    · have hs : (spread st M.bol false M.now).2 = false := by simpa using hs
      simp only [hs, Bool.false_eq_true, if_false]
      rw [if_pos hf]
  · have h1 : M.matched st = M := if_neg hf
    rw [h1, h1]
theorem matched_stop {st : List Nd} {M : Ma} (h : 0 ≤ M.found) : M.matched st = M := if_neg (by omega)
theorem read_ok {st : List Nd} (hr : InR st) (hpos : 0 < st.length) (anch : Bool) {M : Ma} (b : Nat) (ho : OkL st.length M.now) : OkL st.length (Ma.read st anch M b).now := by
  have h := readL_ok hr b M.now ho.2 [] (OkL.nil _)
  change OkL st.length (readL st b M.now) at h
  unfold Ma.read
  dsimp only
  refine spreadL_ok hr _ _ _ _ _ _ ?_
  split
  · exact h
  · exact h.add hpos
theorem spread_ok {st : List Nd} (hr : InR st) (bol eol : Bool) {l : List Nat} (ho : OkL st.length l) : OkL st.length (spread st bol eol l).1 := spreadL_ok hr _ _ _ _ _ _ ho
theorem feedL_cons (st : List Nd) (anch : Bool) (c : Nat) (l : List Nat) (M : Ma) : feedL st anch (c :: l) M =
    if 0 ≤ (M.matched st).found then M.matched st
    else if c = 10 ∧ (spread st (M.matched st).bol true (M.matched st).now).2 = true then { M.matched st with now := (spread st (M.matched st).bol true (M.matched st).now).1, found := (M.matched st).at_ + 1 }
    else feedL st anch l (Ma.read st anch (if c = 10 then { M.matched st with now := (spread st (M.matched st).bol true (M.matched st).now).1 } else M.matched st) c) := by
  conv => lhs; unfold feedL
  split
  · rfl
  · by_cases hc : c = 10
    · rw [if_pos hc, if_pos hc]
      dsimp only
      by_cases hs : (spread st (M.matched st).bol true (M.matched st).now).2 = true
      · rw [if_pos hs, if_pos ⟨hc, hs⟩]
      · rw [if_neg hs, if_neg (fun h => hs h.2)]
    · rw [if_neg hc, if_neg hc, if_neg (fun h => hc h.1)]
def stepM (st : List Nd) (anch : Bool) (M : Ma) (c : Nat) : Ma := Ma.read st anch (if c = 10 then { M.matched st with now := (spread st (M.matched st).bol true (M.matched st).now).1 } else M.matched st) c
theorem stepM_facts {st : List Nd} (hr : InR st) (hpos : 0 < st.length) (anch : Bool) {M : Ma} (c : Nat) (ho : OkL st.length M.now) :
    OkL st.length (stepM st anch M c).now ∧ (stepM st anch M c).at_ = M.at_ + 1 ∧ (stepM st anch M c).found = (M.matched st).found := by
  have hm := matched_ok hr ho
  have ha := (M.matched_at st).1
  unfold stepM
  split
  · exact ⟨read_ok hr hpos anch c (spread_ok hr _ _ hm), by show (M.matched st).at_ + 1 = _; rw [ha], rfl⟩
  · exact ⟨read_ok hr hpos anch c hm, by show (M.matched st).at_ + 1 = _; rw [ha], rfl⟩
theorem feedL_ok {st : List Nd} (hr : InR st) (hpos : 0 < st.length) (anch : Bool) : ∀ (t : List Nat) (M : Ma), OkL st.length M.now → OkL st.length (feedL st anch t M).now
  | [], M, h => h
  | c :: t, M, h => by
    rw [feedL_cons]
    split
    · exact matched_ok hr h
    · split
      · exact spread_ok hr _ _ (matched_ok hr h)
      · exact feedL_ok hr hpos anch t _ (stepM_facts hr hpos anch c h).1
theorem start_ok {st : List Nd} (hr : InR st) (hpos : 0 < st.length) (bol : Bool) : OkL st.length (startM st bol).now :=
  spread_ok hr _ _ ⟨by simp, fun i hi => by simp at hi; omega⟩
end Go.Proofs.Ytaffcoiomggpfaa

/- Plain laws of a matcher that is fed in pieces. -/
namespace Go.Proofs.Ytaffcoiomggpfaa
open Go.V
set_option linter.constructorNameAsVariable false
set_option linter.unusedVariables false

section
variable {st : List Nd} (hr : InR st) (hpos : 0 < st.length)
include hr hpos
end
end Go.Proofs.Ytaffcoiomggpfaa

/- Contracts of package regex (1): the small functions. -/
namespace Go.Proofs.Ytaffcoiomggpfaa
open Go.V
attribute [local irreducible] app
set_option linter.constructorNameAsVariable false
set_option linter.unusedVariables false

structure RP where
  s : ByteArray
  at_ : Nat
  op : Nat
  nds : List Nd
  e : Int
def RP.cells (r : RP) (p : OA) (c : Nat) : Array Value := #[.string r.s, .int .i64 r.at_, .int .i64 r.op, .slice p r.nds.length c, .int .i64 r.e]
def RPs (H0 H : Heap) (b : Nat) (r : RP) : Prop :=
  Ext H0 H ∧ H0 b = none ∧ r.at_ ≤ r.s.size ∧ r.s.size ≤ 4096 ∧
  ∃ p c t, H b = some (.cells (r.cells p c) t (0, 0)) ∧ Vec H 7 p r.nds.length c (flat r.nds) ∧ ∀ i, blk p i → H0 i = none ∧ i ≠ b

theorem RPs.ext {H0 H H' : Heap} {b : Nat} {r : RP} (h : RPs H0 H b r) (he : Ext H H') : RPs H0 H' b r := by
  obtain ⟨h1, h2, h3, h4, p, c, t, h5, h6, h7⟩ := h
  exact ⟨h1.trans he, h2, h3, h4, p, c, t, he _ _ h5, h6.ext he, h7⟩
theorem RPs.base {H0 H : Heap} {b : Nat} {r : RP} {i : Nat} {o : Obj} (h : RPs H0 H b r) (hi : H i = some o) (hn : i ≠ b) (hp : ∀ p c t, H b = some (.cells (r.cells p c) t (0, 0)) → ¬ blk p i) : RPs (H0.set i o) H b r := by
  obtain ⟨h1, h2, h3, h4, p, c, t, h5, h6, h7⟩ := h
  refine ⟨h1.base hi, by rw [Heap.set_ne _ _ (Ne.symm hn)]; exact h2, h3, h4, p, c, t, h5, h6, fun j hj => ⟨?_, (h7 j hj).2⟩⟩
  rw [Heap.set_ne _ _ (fun e => hp p c t h5 (by rw [← e]; exact hj))]; exact (h7 j hj).1
theorem RPs.new {H0 H : Heap} {b : Nat} {r : RP} {i : Nat} (h : RPs H0 H b r) (hi : H i = none) (o : Obj) : RPs (H0.set i o) (H.set i o) b r := by
  have hb : b ≠ i := by obtain ⟨_, _, _, _, p, c, t, h5, _⟩ := h; exact ne_of h5 hi
  refine (h.ext (Ext.new hi o)).base (Heap.set_self _ _ _) (Ne.symm hb) fun p c t hc hp => ?_
  obtain ⟨_, _, _, _, p', c', t', h5, h6, _⟩ := h
  rw [Heap.set_ne _ _ hb, h5] at hc
  have : p' = p := by
    simp only [Option.some.injEq, Obj.cells.injEq, RP.cells] at hc
    have := congrArg (fun a => a[3]?) hc.1
    simp at this; exact this.1
  subst this
  exact h6.known hp hi
theorem RPs.old {H0 H : Heap} {b : Nat} {r : RP} {i : Nat} {o : Obj} (hi : H0 i = none) (h : RPs (H0.set i o) H b r) : RPs H0 H b r := by
  obtain ⟨h1, h2, h3, h4, p, c, t, h5, h6, h7⟩ := h
  have hl : ∀ j, (H0.set i o) j = none → H0 j = none := fun j hj => by
    by_cases e : j = i
    · subst e; exact hi
    · rwa [Heap.set_ne _ _ e] at hj
  exact ⟨h1.of_set hi, hl _ h2, h3, h4, p, c, t, h5, h6, fun j hj => ⟨hl _ (h7 j hj).1, (h7 j hj).2⟩⟩

def RP.fail (r : RP) (e : Int) : RP := if r.e = 0 then { r with e := e } else r
def RP.next (r : RP) : Nat × Bool := if r.e ≠ 0 ∨ r.s.size ≤ r.at_ then (0, false) else (byteAt r.s r.at_, true)
def RP.put (r : RP) (x : Nd) : RP := { r with nds := r.nds ++ [x] }

def single (b : Nat) : Nat × Bool :=
  if b = 110 then (10, true) else if b = 116 then (9, true) else if b = 114 then (13, true)
  else if 33 ≤ b ∧ b ≤ 47 ∨ 58 ≤ b ∧ b ≤ 64 ∨ 91 ≤ b ∧ b ≤ 96 ∨ 123 ≤ b ∧ b ≤ 126 then (b, true) else (0, false)
def digits : S4 := S4.zero.with_ 48 57
def blanks : ByteArray := ⟨[32, 9, 13, 10].toArray⟩
def named (c : Nat) : S4 × Bool :=
  if c = 100 then (digits, true) else if c = 119 then (((digits.with_ 97 122).with_ 65 90).with_ 95 95, true)
  else if c = 115 then (S4.bytesN blanks 4, true) else (S4.zero, false)
theorem RPs.st1 {H0 H : Heap} {b a : Nat} {r : RP} {v : Int} {K : Heap → Prop} (h : RPs H0 H b r) (hv : v = (a : Nat)) (ha : a ≤ r.s.size) (hk : ∀ H', RPs H0 H' b { r with at_ := a } → K H') :
    wr (Addr.add ⟨b, 0, none⟩ 1) [.int .i64 v] H K := by
  subst hv
  obtain ⟨h1, h2, h3, h4, p, c, t, h5, h6, h7⟩ := h
  rw [add_at]
  refine wr_at h5 (by simp [RP.cells]) rfl ?_
  exact hk _ ⟨h1.set h2 _, h2, ha, h4, p, c, t, Heap.set_self _ _ _, h6.keep fun i hi _ => Heap.set_ne _ _ (h7 i hi).2, h7⟩
theorem RPs.upd {H0 H : Heap} {b i : Nat} {r : RP} {o : Obj} (h : RPs (H0.set i o) H b r) (o' : Obj) : RPs (H0.set i o') (H.set i o') b r := by
  obtain ⟨h1, h2, h3, h4, p, c, t, h5, h6, h7⟩ := h
  have hne : ∀ {j}, (H0.set i o) j = none → j ≠ i ∧ H0 j = none := fun {j} hj => by
    by_cases e : j = i
    · subst e; rw [Heap.set_self] at hj; cases hj
    · rw [Heap.set_ne _ _ e] at hj; exact ⟨e, hj⟩
  have hset : ∀ {j}, (H0.set i o) j = none → (H0.set i o') j = none := fun {j} hj => by rw [Heap.set_ne _ _ (hne hj).1]; exact (hne hj).2
  refine ⟨fun j x hj => ?_, hset h2, h3, h4, p, c, t, by rw [Heap.set_ne _ _ (hne h2).1]; exact h5, h6.keep fun j hj _ => Heap.set_ne _ _ (hne (h7 j hj).1).1, fun j hj => ⟨hset (h7 j hj).1, (h7 j hj).2⟩⟩
  by_cases e : j = i
  · subst e; rw [Heap.set_self] at hj ⊢; exact hj
  · rw [Heap.set_ne _ _ e] at hj ⊢; exact h1 j x (by rw [Heap.set_ne _ _ e]; exact hj)
theorem RPs.bound {H0 H : Heap} {b : Nat} {r : RP} (h : RPs H0 H b r) : r.at_ ≤ r.s.size ∧ r.s.size ≤ 4096 := ⟨h.2.2.1, h.2.2.2.1⟩
def RP.inc (r : RP) : RP := { r with at_ := r.at_ + 1 }
theorem RP.next_some {r : RP} {c : Nat} (h : r.next = (c, true)) : r.e = 0 ∧ r.at_ < r.s.size ∧ c = byteAt r.s r.at_ ∧ c ≤ 255 := by
  unfold RP.next at h
  split at h
  · cases h
  · cases h; exact ⟨by omega, by omega, rfl, byteAt_le _ _⟩
theorem RP.next_none {r : RP} {c : Nat} (h : r.next = (c, false)) : c = 0 ∧ (r.e ≠ 0 ∨ r.s.size ≤ r.at_) := by
  unfold RP.next at h
  split at h
  · cases h; exact ⟨rfl, by assumption⟩
  · cases h
/-! ### Escapes, members -/
def RP.escape (r : RP) : (Nat × S4 × Bool) × RP :=
  match r.inc.next with
  | (c, false) => ((0, S4.zero, false), r.inc.fail 82)
  | (c, true) => match named c with
    | (s, true) => ((0, s, true), r.inc.inc)
    | (_, false) => match single c with
      | (n, k) => ((n, S4.zero.with_ n n, false), if k = true then r.inc.inc else r.inc.inc.fail 82)
theorem RPs.atOf {H0 H : Heap} {b : Nat} {r : RP} (h : RPs H0 H b r) : atOf b H = r.at_ := by
  obtain ⟨_, _, _, _, p, c, t, h5, _⟩ := h
  simp [Proofs.Ytaffcoiomggpfaa.atOf, h5, RP.cells]
def RP.member (r : RP) : (Nat × S4 × Bool) × RP :=
  match r.next with
  | (_, false) => ((0, S4.zero, false), r.fail 80)
  | (c, true) => if c = 93 ∨ c = 94 ∨ c = 45 then ((0, S4.zero, false), r.fail 80) else if c = 92 then r.escape else ((c, S4.zero.with_ c c, false), r.inc)
structure RP.Le (r r' : RP) : Prop where
  s : r'.s = r.s
  at_ : r.at_ ≤ r'.at_
  e : r.e ≠ 0 → r'.e = r.e
  op : r'.op = r.op
  nds : r'.nds = r.nds
theorem RP.Le.refl (r : RP) : RP.Le r r := ⟨rfl, Nat.le_refl _, fun _ => rfl, rfl, rfl⟩
theorem RP.Le.trans {a b c : RP} (h : a.Le b) (g : b.Le c) : a.Le c := ⟨g.s.trans h.s, Nat.le_trans h.at_ g.at_, fun x => (g.e (by rw [h.e x]; exact x)).trans (h.e x), g.op.trans h.op, g.nds.trans h.nds⟩
theorem RP.Le.fail (r : RP) (e : Int) (he : e ≠ 0) : r.Le (r.fail e) := by
  unfold RP.fail; split
  · exact ⟨rfl, Nat.le_refl _, fun h => absurd ‹r.e = 0› h, rfl, rfl⟩
  · exact .refl _
theorem RP.Le.inc (r : RP) : r.Le r.inc := ⟨rfl, Nat.le_succ _, fun _ => rfl, rfl, rfl⟩
theorem RP.fail_e (r : RP) {e : Int} (he : e ≠ 0) : (r.fail e).e ≠ 0 := by
  unfold RP.fail; split
  · exact he
  · assumption
theorem escape_le {r r' : RP} {x} (h : r.escape = (x, r')) : r.inc.Le r' := by
  unfold RP.escape at h
  split at h
  · cases h; exact .fail _ _ (by decide)
  · split at h
    · cases h; exact .inc _
    · split at h
      cases h
      split
      · exact .inc _
      · exact (RP.Le.inc _).trans (.fail _ _ (by decide))
theorem member_le {r r' : RP} {x} (h : r.member = (x, r')) : r.Le r' ∧ (r'.e = 0 → r.at_ < r'.at_) := by
  unfold RP.member at h
  split at h
  · cases h; exact ⟨.fail _ _ (by decide), fun h => absurd h (RP.fail_e _ (by decide))⟩
  · split at h
    · cases h; exact ⟨.fail _ _ (by decide), fun h => absurd h (RP.fail_e _ (by decide))⟩
    · split at h
      · exact ⟨(RP.Le.inc _).trans (escape_le h), fun _ => (escape_le h).at_⟩
      · cases h; exact ⟨.inc _, fun _ => Nat.lt_succ_self _⟩
end Go.Proofs.Ytaffcoiomggpfaa

/- Contracts of package regex (2): classes. -/
namespace Go.Proofs.Ytaffcoiomggpfaa
open Go.V
attribute [local irreducible] app
set_option linter.constructorNameAsVariable false
set_option linter.unusedVariables false

def RP.elem (r1 : RP) (first : Nat) (set : S4) (many : Bool) : S4 × RP :=
  if r1.next = (45, true) then
    match (if many = true then r1.inc.fail 80 else r1.inc).member with
    | ((last, _, many2), r4) => (set.with_ first last, if many2 = true ∨ last < first then r4.fail 80 else r4)
  else (set, r1)
def RP.classLoop : Nat → Bool → S4 → RP → (S4 × Bool) × RP
  | 0, _, _, r => ((S4.zero, false), r)
  | n + 1, some_, out, r =>
    if r.next = (93, true) ∧ some_ = true then ((out, true), r.inc)
    else match r.member with
      | ((first, set, many), r1) => match r1.elem first set many with
        | (set', r5) => if r5.e ≠ 0 then ((S4.zero, false), r5) else classLoop n true (out.or set') r5
def classOut (c : Nat) : (S4 × Bool) × RP → S4 × RP
  | ((out, true), r') => (if c = 94 then out.not else out, r')
  | ((_, false), r') => (S4.zero, r')
def RP.class (r : RP) : S4 × RP := classOut r.next.1 ((if r.next.1 = 94 then r.inc else r).classLoop (r.s.size + 1) false S4.zero)
theorem elem_le {r1 r5 : RP} {first : Nat} {set set' : S4} {many : Bool} (h : r1.elem first set many = (set', r5)) : r1.Le r5 := by
  unfold RP.elem at h
  split at h
  · split at h
    rename_i last s2 many2 r4 hm
    cases h
    have h1 : r1.Le (if many = true then r1.inc.fail 80 else r1.inc) := by
      split
      · exact (RP.Le.inc _).trans (.fail _ _ (by decide))
      · exact .inc _
    refine h1.trans ((member_le hm).1.trans ?_)
    split
    · exact .fail _ _ (by decide)
    · exact .refl _
  · cases h; exact .refl _
end Go.Proofs.Ytaffcoiomggpfaa

/- Contracts of package regex (3): the parser. -/
namespace Go.Proofs.Ytaffcoiomggpfaa
open Go.V
attribute [local irreducible] app
set_option linter.constructorNameAsVariable false
set_option linter.unusedVariables false

theorem classLoop_le : ∀ (n : Nat) (x : Bool) (out : S4) (r : RP), r.Le (r.classLoop n x out).2
  | 0, _, _, r => .refl _
  | n + 1, x, out, r => by
    unfold RP.classLoop
    split
    · exact .inc _
    · split
      rename_i first set many r1 hm
      split
      rename_i set' r5 he
      have h := (member_le hm).1.trans (elem_le he)
      split
      · exact h
      · exact h.trans (classLoop_le n true _ r5)
theorem class_le (r : RP) : r.Le r.class.2 := by
  have h1 : r.Le (if r.next.1 = 94 then r.inc else r) := by
    split
    · exact .inc _
    · exact .refl _
  have h2 := h1.trans (classLoop_le (r.s.size + 1) false S4.zero _)
  unfold RP.class
  generalize (if r.next.1 = 94 then r.inc else r).classLoop (r.s.size + 1) false S4.zero = R at h2
  obtain ⟨⟨out, k⟩, r'⟩ := R
  cases k <;> exact h2

def nd (k : Int) (l r : Nat) (s : S4) : Nd := ⟨k, l, r, s.a, s.b, s.c, s.d⟩
def RP.putN (r : RP) (x : Nd) : Nat × RP := (r.nds.length, r.put x)
def newline : ByteArray := ⟨[10].toArray⟩
def RP.up (r : RP) : RP := { r with op := r.op + 1 }
def RP.down (r : RP) : RP := { r with op := r.op - 1 }
def atomOf (pat : RP → Nat × RP) (c : Nat) (r : RP) : Nat × RP :=
  if c = 46 then r.inc.putN (nd 2 0 0 (S4.bytesN newline 1).not)
  else if c = 94 then r.inc.putN (nd 8 0 0 S4.zero)
  else if c = 36 then r.inc.putN (nd 9 0 0 S4.zero)
  else if c = 91 then r.inc.class.2.putN (nd 2 0 0 r.inc.class.1)
  else if c = 93 then (0, r.inc.fail 80)
  else if c = 42 ∨ c = 43 ∨ c = 63 then (0, r.inc.fail 81)
  else if c = 92 then r.escape.2.putN (nd 2 0 0 r.escape.1.2.1)
  else if c = 40 then
    if 24 < r.op + 1 then (0, r.inc.up.fail 84)
    else
      let x := pat r.inc.up
      (x.1, (if x.2.next = (41, true) then x.2.inc else x.2.fail 83).down)
  else r.inc.putN (nd 2 0 0 (S4.zero.with_ c c))
def signs : Nat → Nat → RP → Nat × RP
  | 0, n, r => (n, r)
  | f + 1, n, r => if signOf r.next.1 = 0 then (n, r) else
    signs f r.nds.length (r.inc.put (nd (signOf r.next.1) n 0 S4.zero))
def partOf (pat : RP → Nat × RP) (c : Nat) (r : RP) : Nat × RP := signs (r.s.size + 1) (atomOf pat c r).1 (atomOf pat c r).2
def altLoop (pat : RP → Nat × RP) : Nat → Option Nat → RP → Nat × RP
  | 0, n, r => (0, r)
  | f + 1, n, r =>
    if r.next.2 = false ∨ r.next.1 = 124 ∨ r.next.1 = 41 then
      let r1 := if r.next = (41, true) ∧ r.op = 0 then r.fail 83 else r
      match n with
      | none => r1.putN (nd 1 0 0 S4.zero)
      | some m => (m, r1)
    else
      let x := partOf pat r.next.1 r
      match n with
      | none => altLoop pat f (some x.1) x.2
      | some k => altLoop pat f (some x.2.nds.length) (x.2.put (nd 3 k x.1 S4.zero))
def altOf (pat : RP → Nat × RP) (r : RP) : Nat × RP := altLoop pat (r.s.size + 1) none r
def patLoop (pat : RP → Nat × RP) : Nat → Nat → RP → Nat × RP
  | 0, n, r => (n, r)
  | f + 1, n, r => if r.next = (124, true) then
      let x := altOf pat r.inc
      patLoop pat f x.2.nds.length (x.2.put (nd 4 n x.1 S4.zero))
    else (n, r)
def patOf (pat : RP → Nat × RP) (r : RP) : Nat × RP := patLoop pat (r.s.size + 1) (altOf pat r).1 (altOf pat r).2
def patN : Nat → RP → Nat × RP
  | 0, r => (0, r)
  | n + 1, r => patOf (patN n) r

structure Up (r r' : RP) (d : Int) (m : Nat) : Prop where
  s : r'.s = r.s
  at_ : r.at_ + m ≤ r'.at_
  lo : r.op ≤ r'.op
  hi : r'.op ≤ r.op + 1
  op : (r'.e = 0 ∨ r.e ≠ 0) → r'.op = r.op
  e : r.e ≠ 0 → r'.e = r.e
  nds : (r'.nds.length : Int) + 2 * r.at_ ≤ r.nds.length + 2 * r'.at_ + d
theorem RP.Le.up {r r' : RP} (h : r.Le r') : Up r r' 0 0 :=
  ⟨h.s, h.at_, by rw [h.op]; exact Nat.le_refl _, by rw [h.op]; exact Nat.le_succ _, fun _ => h.op, h.e, by rw [h.nds]; have := h.at_; omega⟩
theorem Up.trans {a b c : RP} {d d' : Int} {m m' : Nat} (h : Up a b d m) (g : Up b c d' m') : Up a c (d + d') (m + m') := by
  have h1 := h.op; have h2 := g.op; have h3 := h.e; have h4 := g.e
  refine ⟨g.s.trans h.s, by have := h.at_; have := g.at_; omega, Nat.le_trans h.lo g.lo, ?_, ?_, fun x => (h4 (by rw [h3 x]; exact x)).trans (h3 x), by have := h.nds; have := g.nds; omega⟩
  · by_cases hb : b.e = 0
    · rw [← h1 (.inl hb)]; exact g.hi
    · rw [h2 (.inr hb)]; exact h.hi
  · rintro (hc | ha)
    · have hb : b.e = 0 := by
        by_cases hb : b.e = 0
        · exact hb
        · exact absurd hc (by rw [h4 hb]; exact hb)
      rw [h2 (.inl hc), h1 (.inl hb)]
    · rw [h2 (.inr (by rw [h3 ha]; exact ha)), h1 (.inr ha)]
theorem Up.put {a b : RP} {d : Int} {m : Nat} (h : Up a b d m) (x : Nd) : Up a (b.put x) (d + 1) m :=
  ⟨h.s, h.at_, h.lo, h.hi, h.op, h.e, by have := h.nds; simp only [RP.put, List.length_append, List.length_singleton]; omega⟩
theorem Up.inc {a b : RP} {d : Int} {m : Nat} (h : Up a b d m) : Up a b.inc (d - 2) (m + 1) :=
  ⟨h.s, by have := h.at_; simp only [RP.inc]; omega, h.lo, h.hi, h.op, h.e, by have := h.nds; simp only [RP.inc]; omega⟩
theorem Up.weak {a b : RP} {d d' : Int} {m m' : Nat} (h : Up a b d m) (hd : d ≤ d') (hm : m' ≤ m) : Up a b d' m' := ⟨h.s, by have := h.at_; omega, h.lo, h.hi, h.op, h.e, by have := h.nds; omega⟩
theorem Up.refl (r : RP) : Up r r 0 0 := (RP.Le.refl r).up
theorem Up.fail {a b : RP} {d : Int} {m : Nat} (h : Up a b d m) {e : Int} (he : e ≠ 0) : Up a (b.fail e) d m := by
  have := h.trans (RP.Le.fail b e he).up
  simpa using this
theorem fail_op (r : RP) (e : Int) : (r.fail e).op = r.op ∧ (r.fail e).nds = r.nds ∧ (r.fail e).at_ = r.at_ ∧ (r.fail e).s = r.s := by
  unfold RP.fail; split <;> simp
theorem atomOf_up {pat : RP → Nat × RP} (hp : ∀ r, Up r (pat r).2 1 0) (c : Nat) (r : RP) (he : r.e = 0) : Up r (atomOf pat c r).2 (-1) 1 := by
  have h0 := (Up.refl r).inc
  unfold atomOf
  split
  · exact (h0.put _).weak (by omega) (by omega)
  split
  · exact (h0.put _).weak (by omega) (by omega)
  split
  · exact (h0.put _).weak (by omega) (by omega)
  split
  · exact ((h0.trans (class_le _).up).put _).weak (by omega) (by omega)
  split
  · exact (h0.fail (by decide)).weak (by omega) (by omega)
  split
  · exact (h0.fail (by decide)).weak (by omega) (by omega)
  split
  · exact ((h0.trans (escape_le (x := r.escape.1) rfl).up).put _).weak (by omega) (by omega)
  split
  · split
    · obtain ⟨f1, f2, f3, f4⟩ := fail_op r.inc.up 84
      have fe := RP.fail_e r.inc.up (e := 84) (by decide)
      refine ⟨f4, by rw [f3]; simp [RP.up, RP.inc], by rw [f1]; simp [RP.up, RP.inc], by rw [f1]; simp [RP.up, RP.inc], fun h => ?_, fun h => absurd he h, by rw [f2, f3]; simp only [RP.up, RP.inc]; omega⟩
      rcases h with h | h
      · exact absurd h fe
      · exact absurd he h
    · have h := hp r.inc.up
      dsimp only
      generalize (pat r.inc.up).2 = q at h ⊢
      have h2 : Up r.inc.up (if q.next = (41, true) then q.inc else q.fail 83) 1 0 := by
        split
        · exact h.inc.weak (by omega) (by omega)
        · exact h.fail (by decide)
      generalize (if q.next = (41, true) then q.inc else q.fail 83) = q2 at h2 ⊢
      obtain ⟨a1, a2, a3, a4, a5, a6, a7⟩ := h2
      simp only [RP.up, RP.inc] at a1 a2 a3 a4 a5 a7
      refine ⟨a1, by simp only [RP.down]; omega, by simp only [RP.down]; omega, by simp only [RP.down]; omega, fun h => ?_, fun h => absurd he h, by simp only [RP.down]; omega⟩
      rcases h with h | h
      · have := a5 (.inl h); simp only [RP.down]; omega
      · exact absurd he h
  · exact (h0.put _).weak (by omega) (by omega)
theorem signs_up : ∀ (f n : Nat) (r : RP), Up r (signs f n r).2 0 0
  | 0, n, r => .refl r
  | f + 1, n, r => by
    unfold signs
    split
    · exact .refl r
    · exact (((Up.refl r).inc.put _).trans (signs_up f _ _)).weak (by omega) (by omega)
theorem partOf_up {pat : RP → Nat × RP} (hp : ∀ r, Up r (pat r).2 1 0) (c : Nat) (r : RP) (he : r.e = 0) : Up r (partOf pat c r).2 (-1) 1 :=
  ((atomOf_up hp c r he).trans (signs_up _ _ _)).weak (by omega) (by omega)
theorem next_e {r : RP} (h : ¬ (r.next.2 = false)) : r.e = 0 := by
  have : r.next = (r.next.1, true) := Prod.ext rfl (by simpa using h)
  exact (RP.next_some this).1
theorem altLoop_up {pat : RP → Nat × RP} (hp : ∀ r, Up r (pat r).2 1 0) : ∀ (f : Nat) (n : Option Nat) (r : RP), Up r (altLoop pat f n r).2 (if n.isSome then 0 else 1) 0
  | 0, n, r => (Up.refl r).weak (by split <;> omega) (by omega)
  | f + 1, n, r => by
    unfold altLoop
    split
    · have h1 : Up r (if r.next = (41, true) ∧ r.op = 0 then r.fail 83 else r) 0 0 := by
        split
        · exact (Up.refl r).fail (by decide)
        · exact .refl r
      cases n with
      | none => exact (h1.put _).weak (by simp) (by omega)
      | some m => exact h1.weak (by simp) (by omega)
    · rename_i hno
      have he := next_e (fun h => hno (.inl h))
      have h1 := partOf_up hp r.next.1 r he
      cases n with
      | none => exact (h1.trans (altLoop_up hp f (some _) _)).weak (by simp) (by omega)
      | some k => exact ((h1.put _).trans (altLoop_up hp f (some _) _)).weak (by simp) (by omega)
theorem altOf_up {pat : RP → Nat × RP} (hp : ∀ r, Up r (pat r).2 1 0) (r : RP) : Up r (altOf pat r).2 1 0 := altLoop_up hp _ none r
theorem patLoop_up {pat : RP → Nat × RP} (hp : ∀ r, Up r (pat r).2 1 0) : ∀ (f n : Nat) (r : RP), Up r (patLoop pat f n r).2 0 0
  | 0, n, r => .refl r
  | f + 1, n, r => by
    unfold patLoop
    split
    · exact ((((Up.refl r).inc.trans (altOf_up hp r.inc)).put _).trans (patLoop_up hp f _ _)).weak (by omega) (by omega)
    · exact .refl r
theorem patN_up : ∀ (n : Nat) (r : RP), Up r (patN n r).2 1 0
  | 0, r => (Up.refl r).weak (by omega) (by omega)
  | n + 1, r => ((altOf_up (patN_up n) r).trans (patLoop_up (patN_up n) _ _ _)).weak (by omega) (by omega)
end Go.Proofs.Ytaffcoiomggpfaa
