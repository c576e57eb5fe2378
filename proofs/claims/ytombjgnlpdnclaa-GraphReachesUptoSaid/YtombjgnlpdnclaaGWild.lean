import Derived.Test.YtombjgnlpdnclaaGSort
import Derived.Test.YtombjgnlpdnclaaFgraph
import Derived.Test.YtombjgnlpdnclaaFl07
/- Contracts of package graph: Index, Needs, all. -/
namespace Go.Proofs.Ytombjgnlpdnclaa
open Go.V
attribute [local irreducible] app
set_option linter.constructorNameAsVariable false
set_option linter.unusedVariables false

theorem sl22 : SlT Pr 22 1 := .of (by kernel_rfl)
abbrev Jb := ByteArray × List ByteArray
instance : Inhabited Jb := ⟨(⟨#[]⟩, [])⟩
def jcells (nm : ByteArray) (q : OA) (n c : Nat) : List Value := [.string nm, .string ⟨#[]⟩, .slice none 0 0, .slice q n c, .bool false, .string ⟨#[]⟩, .int .i64 0, .int .u64 0, .int .u64 0, .int .u64 0, .int .i64 0, .int .u64 0, .slice none 0 0, .int .i64 0, .int .i64 0]
def Jbs (H : Heap) (p : OA) (J : List Jb) : Prop := ∀ (i : Nat) (x : Jb), J[i]? = some x → ∃ (a : Addr) (q : OA) (c : Nat), p = some a ∧ H.rd (a.add (i * 15)) 0 (jcells x.1 q x.2.length c) ∧ H.rdS q (x.2.map Value.string)
theorem Jbs.ext {H H' : Heap} {p : OA} {J : List Jb} (h : Jbs H p J) (he : Ext H H') : Jbs H' p J := fun i x hx => by
  obtain ⟨a, q, c, h1, h2, h3⟩ := h i x hx
  exact ⟨a, q, c, h1, rd_ext he h2, rdS_ext he h3⟩
def nmIs (J : List Jb) (nm : ByteArray) (i : Nat) : Bool := (J.getD i default).1.toList == nm.toList
def idxJ (J : List Jb) (nm : ByteArray) : Option Nat := (List.range J.length).find? (nmIs J nm)
def optI : Option Nat → Int
  | some k => (k : Nat)
  | none => -1
theorem findR_idx {n : Nat} {g : Nat → Bool} {r : Int} (h : FindR n (fun i => g i = true) r) : r = optI ((List.range n).find? g) := by
  rcases h with ⟨rfl, hno⟩ | ⟨k, hk, rfl, hg, hno⟩
  · have : (List.range n).find? g = none := by
      rw [List.find?_eq_none]
      intro x hx
      exact hno x (List.mem_range.1 hx)
    rw [this]; rfl
  · have : (List.range n).find? g = some k := by
      rw [List.find?_range_eq_some]
      refine ⟨hg, List.mem_range.2 hk, fun j hj => ?_⟩
      have := hno j hj
      simpa using this
    rw [this]; rfl
theorem idxJ_lt {J : List Jb} {nm : ByteArray} {k : Nat} (h : idxJ J nm = some k) : k < J.length := List.mem_range.1 (List.mem_of_find?_eq_some h)
def needsOf (J : List Jb) (i : Nat) : List Nat := d2 (s2 ((J.getD i default).2.filterMap (idxJ J)))
theorem getD_job {J : List Jb} {i : Nat} {x : Jb} (h : J[i]? = some x) : J.getD i default = x := by rw [List.getD_eq_getElem?_getD, h]; rfl
section
variable {H : Heap} {p : OA} {n c : Nat} {J : List Jb} {Q : QT} {E : ET}
theorem Index_c {nm : ByteArray} (h : Jbs H p J) (hl : J.length = n) (hn : n ≤ 1048576) (hk : ∀ H', Ext H H' → Q (.int .i64 (optI (idxJ J nm))) H') : Does Pr 24 #[.slice p n c, .string nm] H Q E := by
  refine graph_Index_fn _ _ _ _ Q E H ?_
  unfold graph_Index
  refine nw_ext fun b H1 hb he1 hc1 => ?_
  refine slices_IndexFunc_api_Job_api_Job_fn _ _ _ _ _ _ _ ?_
  unfold slices_IndexFunc_api_Job_api_Job slices_IndexFunc_api_Job_api_Job_17 slices_IndexFunc_api_Job_api_Job_14
  refine ⟨fun x H' => ∃ k : Nat, x = (k : Nat) ∧ k ≤ n ∧ Ext H1 H' ∧ ∀ i, i < k → ¬ nmIs J nm i = true, fun x _ => ((n : Int) - x).toNat, ⟨0, rfl, by omega, Ext.refl _, fun i hi => by omega⟩, ?_⟩
  rintro x H2 ⟨k, rfl, hkn, he2, hno⟩
  unfold slices_IndexFunc_api_Job_api_Job_11 slices_IndexFunc_api_Job_api_Job_8
  refine sel_dec (fun hlt => ?_) (fun hge => ?_)
  · have hlt : k < J.length := by omega
    have hx : J[k]? = some J[k] := List.getElem?_eq_getElem hlt
    generalize J[k] = w at hx
    obtain ⟨a, q, c', rfl, hr, _⟩ := (h.ext (he1.trans he2)) k w hx
    unfold slices_IndexFunc_api_Job_api_Job_5
    simp only [ptr_some, Int.toNat_natCast]
    refine ⟨⟨by omega, by omega⟩, w.1, ⟨#[]⟩, none, 0, 0, q, w.2.length, c', false, ⟨#[]⟩, 0, 0, 0, 0, 0, 0, none, 0, 0, 0, 0, hr, ?_⟩
    refine callV_func ?_
    refine graph_Index_c1_fn _ _ _ _ _ _ _ _ _ _ _ _ _ _ _ _ _ _ _ _ _ _ _ _ _ ?_
    unfold graph_Index_c1
    refine nw_ext fun b3 H3 hb3 he3 hc3 => ?_
    refine ldS_at (n := w.1) hc3 rfl ?_
    simp only [ptr_some]
    refine ldS_at (n := nm) (he3 _ _ (he2 _ _ hc1)) rfl ?_
    have hg : nmIs J nm k = (w.1.toList == nm.toList) := by unfold nmIs; rw [getD_job hx]
    refine ⟨_, rfl, sel_mk (fun ht => ?_) (fun hff => ?_)⟩
    · refine ⟨_, rfl, ?_⟩
      have hf : FindR n (fun i => nmIs J nm i = true) (k : Nat) := .inr ⟨k, by omega, rfl, (by show nmIs J nm k = true; rw [hg]; exact ht), hno⟩
      have := findR_idx hf
      have hi : idxJ J nm = (List.range n).find? (nmIs J nm) := by unfold idxJ; rw [hl]
      rw [this, ← hi]
      exact hk H3 ((he1.trans he2).trans he3)
    · unfold slices_IndexFunc_api_Job_api_Job_3
      rw [wrap_succ (by omega)]
      refine ⟨⟨k + 1, rfl, by omega, he2.trans he3, fun i hi => ?_⟩, by omega⟩
      by_cases e : i = k
      · subst e; rw [hg, hff]; simp
      · exact hno i (by omega)
  · unfold slices_IndexFunc_api_Job_api_Job_1
    refine ⟨_, rfl, ?_⟩
    have hf : FindR n (fun i => nmIs J nm i = true) (-1) := .inl ⟨rfl, fun i hi => hno i (by omega)⟩
    have := findR_idx hf
    have hi : idxJ J nm = (List.range n).find? (nmIs J nm) := by unfold idxJ; rw [hl]
    rw [this, ← hi]
    exact hk H2 (he1.trans he2)
theorem filterMap_take {α β : Type} (f : α → Option β) {l : List α} {k : Nat} {x : α} (h : l[k]? = some x) : (l.take (k + 1)).filterMap f = (l.take k).filterMap f ++ (f x).toList := by
  rw [List.take_add_one, h, List.filterMap_append]
  simp only [Option.toList_some, List.filterMap_cons, List.filterMap_nil]
  cases f x <;> rfl
theorem filterMap_len {α β : Type} (f : α → Option β) (l : List α) : (l.filterMap f).length ≤ l.length := List.length_filterMap_le ..
theorem Needs_c {i : Nat} (h : Jbs H p J) (hl : J.length = n) (hn : n ≤ 1048576) (hi : i < n) (h2 : (J.getD i default).2.length ≤ 2)
    (hk : ∀ H' q c', Ext H H' → Vec H' 1 q (needsOf J i).length c' ((needsOf J i).map natV) → (∀ j, blk q j → H j = none) → Q (.slice q (needsOf J i).length c') H') : Does Pr 10 #[.slice p n c, .int .i64 (i : Nat)] H Q E := by
  refine graph_Needs_fn _ _ _ _ Q E H ?_
  unfold graph_Needs graph_Needs_26
  refine sel_dec (fun hlt => absurd hlt (by omega)) (fun _ => ?_)
  unfold graph_Needs_24
  refine sel_dec (fun hge => absurd hge (by omega)) (fun _ => ?_)
  unfold graph_Needs_21 graph_Needs_17
  have hx : J[i]? = some (J[i]'(by omega)) := List.getElem?_eq_getElem (by omega)
  generalize J[i]'(by omega) = w at hx
  rw [getD_job hx] at h2
  have hno : needsOf J i = d2 (s2 (w.2.filterMap (idxJ J))) := by unfold needsOf; rw [getD_job hx]
  rw [hno] at hk
  obtain ⟨a, q, c', rfl, hr, hs⟩ := h i w hx
  simp only [ptr_some, Int.toNat_natCast]
  refine ⟨⟨by omega, by omega⟩, q, w.2.length, c', ?_, ?_⟩
  · have := rd_get (j := 3) (v := .slice q w.2.length c') hr rfl
    rwa [Nat.zero_add] at this
  unfold graph_Needs_14
  refine ⟨fun x5 l5 c5 x H' => ∃ k : Nat, x = (k : Nat) ∧ k ≤ w.2.length ∧ l5 = ((w.2.take k).filterMap (idxJ J)).length ∧ Vec H' 1 x5 l5 c5 (((w.2.take k).filterMap (idxJ J)).map natV) ∧ Ext H H' ∧ ∀ j, blk x5 j → H j = none,
    fun _ _ _ x _ => ((w.2.length : Int) - x).toNat, ⟨0, rfl, by omega, rfl, Vec.nil _ 1, Ext.refl _, fun j hj => (by obtain ⟨a, ha, _⟩ := hj; cases ha)⟩, ?_⟩
  rintro x5 l5 c5 x H1 ⟨k, rfl, hkn, rfl, hv, he1, hf⟩
  unfold graph_Needs_11 graph_Needs_8
  refine sel_dec (fun hlt => ?_) (fun hge => ?_)
  · have hlt : k < w.2.length := by omega
    have hxn : w.2[k]? = some w.2[k] := List.getElem?_eq_getElem hlt
    generalize w.2[k] = nm at hxn
    have htk := filterMap_take (idxJ J) hxn
    unfold graph_Needs_5
    refine ⟨⟨by omega, by omega⟩, ?_⟩
    rw [Int.toNat_natCast]
    refine rdS_cell (K := fun a => ldS a H1 _) (v := .string nm) (rdS_ext he1 hs) (by rw [List.getElem?_map, hxn]; rfl) fun ad hcell => ⟨_, hcell, ?_⟩
    refine Index_c (h.ext he1) hl hn fun H2 he2 => ⟨_, rfl, ?_⟩
    cases hi2 : idxJ J nm with
    | none =>
      rw [hi2] at htk
      refine sel_dec (fun h => absurd h (by simp [optI])) (fun _ => ?_)
      unfold graph_Needs_3
      rw [wrap_succ (by omega)]
      refine ⟨⟨k + 1, rfl, by omega, by rw [htk]; simp, ?_, he1.trans he2, hf⟩, by dsimp only; omega⟩
      rw [htk]
      simpa using hv.ext he2
    | some m =>
      rw [hi2] at htk
      refine sel_dec (fun _ => ?_) (fun h => absurd (by simp [optI]) h)
      refine nw_ext fun b3 H3 hb3 he3 hc3 => ?_
      have hlen := filterMap_len (idxJ J) (w.2.take k)
      rw [List.length_take] at hlen
      refine app_one (sz := 1) (ws := [natV m]) sl22 (hv.ext (he2.trans he3)) hc3 rfl rfl (by omega) (by omega) fun p4 c4 H4 hv4 hs4 hb4 => ?_
      unfold graph_Needs_3
      rw [wrap_succ (by omega)]
      refine ⟨⟨k + 1, rfl, by omega, by rw [htk]; simp, ?_, ext_app ((he1.trans he2).trans he3) hf hs4, fresh_app ((he1.trans he2).trans he3) hf hb4⟩, by dsimp only; omega⟩
      rw [htk]
      simpa using hv4
  · have hkl : k = w.2.length := by omega
    rw [hkl, List.take_length] at hv ⊢
    unfold graph_Needs_1
    have hlen := filterMap_len (idxJ J) w.2
    refine Sort_c hv (by omega) fun H2 hv2 hf2 => ?_
    have hs2 : (s2 (w.2.filterMap (idxJ J))).length = (w.2.filterMap (idxJ J)).length := by
      generalize w.2.filterMap (idxJ J) = L
      match L with
      | [] => rfl
      | [a] => rfl
      | [a, b] =>
        have : s2 [a, b] = if b < a then [b, a] else [a, b] := rfl
        rw [this]; split <;> rfl
      | _ :: _ :: _ :: _ => rfl
    have he2 : Ext H H2 := fun j o hj => by rw [hf2 j fun hb => by rw [hf j hb] at hj; cases hj]; exact he1 j o hj
    refine Compact_c hv2 (by omega) fun H3 hv3 hf3 => ⟨_, _, _, rfl, ?_⟩
    have he3 : Ext H H3 := fun j o hj => by rw [hf3 j fun hb => by rw [hf j hb] at hj; cases hj]; exact he2 j o hj
    exact hk H3 x5 c5 he3 hv3 hf
end
end Go.Proofs.Ytombjgnlpdnclaa

/- The plain laws of orders and cycles of jobs that need each other. -/
namespace Go.Proofs.Ytombjgnlpdnclaa
open Go.V
set_option linter.constructorNameAsVariable false
set_option linter.unusedVariables false

theorem nodup_len : ∀ (n : Nat) (l : List Nat), l.Nodup → (∀ i ∈ l, i < n) → l.length ≤ n
  | 0, l, h, hb => by
    cases l with
    | nil => simp
    | cons x l => exact absurd (hb x (by simp)) (by omega)
  | n + 1, l, h, hb => by
    have ih := nodup_len n (l.erase n) (h.erase n) fun i hi => by
      have h1 := (List.Nodup.mem_erase_iff h).1 hi
      have := hb i h1.2
      have := h1.1
      omega
    have := List.length_erase (a := n) (l := l)
    split at this <;> omega
theorem nodup_get {l : List Nat} (h : l.Nodup) {i j x : Nat} (hi : l[i]? = some x) (hj : l[j]? = some x) : i = j := by
  obtain ⟨hi1, hi2⟩ := List.getElem?_eq_some_iff.1 hi
  obtain ⟨hj1, hj2⟩ := List.getElem?_eq_some_iff.1 hj
  have hp := List.pairwise_iff_getElem.1 h
  rcases Nat.lt_trichotomy i j with hlt | he | hlt
  · exact absurd (hi2.trans hj2.symm) (hp i j hi1 hj1 hlt)
  · exact he
  · exact absurd (hj2.trans hi2.symm) (hp j i hj1 hi1 hlt)
def Rdy (N : List (List Nat)) (o : List Nat) (j : Nat) : Prop := j ∉ o ∧ ∀ m ∈ N.getD j [], m ∈ o
def OrdI (N : List (List Nat)) (o : List Nat) (T : List Bool) : Prop :=
  T.length = N.length ∧ (∀ i, T.getD i false = true ↔ i ∈ o) ∧ o.Nodup ∧ ∀ k i, o[k]? = some i → i < N.length ∧ (∀ m ∈ N.getD i [], m ∈ o.take k) ∧ ∀ j, j < i → ¬ Rdy N (o.take k) j
def Ord (N : List (List Nat)) (o : List Nat) (T : List Bool) : Prop := OrdI N o T ∧ ∀ j, j < N.length → ¬ Rdy N o j
theorem OrdI.nil (N : List (List Nat)) : OrdI N [] (List.replicate N.length false) := by
  refine ⟨by simp, fun i => ?_, by simp, fun k i h => by simp at h⟩
  rw [List.getD_eq_getElem?_getD, List.getElem?_replicate]
  split <;> simp
theorem OrdI.lt {N : List (List Nat)} {o : List Nat} {T : List Bool} (h : OrdI N o T) {i : Nat} (hi : i ∈ o) : i < N.length := by
  obtain ⟨k, hk, rfl⟩ := List.mem_iff_getElem.1 hi
  exact (h.2.2.2 k _ (List.getElem?_eq_getElem hk)).1
theorem OrdI.len {N : List (List Nat)} {o : List Nat} {T : List Bool} (h : OrdI N o T) : o.length ≤ N.length := nodup_len _ _ h.2.2.1 fun i hi => h.lt hi
theorem OrdI.step {N : List (List Nat)} {o : List Nat} {T : List Bool} (h : OrdI N o T) {i : Nat} (hi : i < N.length) (hr : Rdy N o i) (hf : ∀ j, j < i → ¬ Rdy N o j) : OrdI N (o ++ [i]) (T.set i true) := by
  obtain ⟨h1, h2, h3, h4⟩ := h
  refine ⟨by rw [List.length_set]; exact h1, fun j => ?_, ?_, fun k j hk => ?_⟩
  · rw [List.getD_eq_getElem?_getD, List.getElem?_set, List.mem_append, List.mem_singleton]
    by_cases e : i = j
    · subst e
      rw [if_pos rfl, if_pos (by omega)]; simp
    · rw [if_neg e, ← List.getD_eq_getElem?_getD, h2 j]
      exact ⟨.inl, fun h => h.elim id fun h => absurd h.symm e⟩
  · rw [List.nodup_append]
    refine ⟨h3, by simp, fun a ha b hb => ?_⟩
    simp at hb; subst hb
    exact fun e => hr.1 (e ▸ ha)
  · by_cases hkl : k < o.length
    · rw [List.getElem?_append_left hkl] at hk
      rw [List.take_append_of_le_length (by omega)]
      exact h4 k j hk
    · have hk2 : k = o.length := by
        have := (List.getElem?_eq_some_iff.1 hk).1
        simp at this; omega
      subst hk2
      simp at hk; subst hk
      rw [List.take_left']
      · exact ⟨hi, hr.2, hf⟩
      · rfl
theorem Ord.sub {N : List (List Nat)} {o o' : List Nat} {T T' : List Bool} (h : Ord N o T) (h' : Ord N o' T') : ∀ (k i : Nat), o[k]? = some i → i ∈ o' := by
  intro k
  induction k using Nat.strongRecOn with
  | ind k ih =>
    intro i hk
    obtain ⟨g1, g2, _⟩ := h.1.2.2.2 k i hk
    refine Classical.byContradiction fun hn => h'.2 i g1 ⟨hn, fun m hm => ?_⟩
    obtain ⟨q, hq, rfl⟩ := List.mem_iff_getElem.1 (g2 m hm)
    rw [List.length_take] at hq
    rw [List.getElem_take]
    exact ih q (by omega) _ (List.getElem?_eq_getElem (by omega))
theorem Ord.mem {N : List (List Nat)} {o o' : List Nat} {T T' : List Bool} (h : Ord N o T) (h' : Ord N o' T') (i : Nat) : i ∈ o ↔ i ∈ o' := by
  constructor
  · intro hi
    obtain ⟨k, hk, rfl⟩ := List.mem_iff_getElem.1 hi
    exact h.sub h' k _ (List.getElem?_eq_getElem hk)
  · intro hi
    obtain ⟨k, hk, rfl⟩ := List.mem_iff_getElem.1 hi
    exact h'.sub h k _ (List.getElem?_eq_getElem hk)
theorem full_len {n : Nat} {o : List Nat} (hd : o.Nodup) (hb : ∀ i ∈ o, i < n) : o.length = n ↔ ∀ i, i < n → i ∈ o := by
  constructor
  · intro hl i hi
    refine Classical.byContradiction fun hn => ?_
    have := nodup_len n (i :: o) (List.nodup_cons.2 ⟨hn, hd⟩) fun j hj => by
      rcases List.mem_cons.1 hj with rfl | hj
      · exact hi
      · exact hb j hj
    simp at this; omega
  · intro h
    have h1 := nodup_len n o hd hb
    have h2 : n ≤ o.length := by
      have : ∀ (n : Nat) (o : List Nat), (∀ i, i < n → i ∈ o) → n ≤ o.length := by
        intro n
        induction n with
        | zero => intro o _; omega
        | succ n ih =>
          intro o h
          have hm := h n (by omega)
          have := ih (o.erase n) fun i hi => (List.mem_erase_of_ne (by omega)).2 (h i (by omega))
          rw [List.length_erase, if_pos hm] at this
          have : 0 < o.length := List.length_pos_of_mem hm
          omega
      exact this n o h
    omega
/-! ### Cycles -/
def WF (N : List (List Nat)) : Prop := ∀ i, ∀ m ∈ N.getD i [], m < N.length
def WayI (N : List (List Nat)) (T : List Bool) (w : List Nat) (a : Nat) : Prop :=
  w.Nodup ∧ (∀ i ∈ w, i < N.length ∧ T.getD i false = false) ∧ (a < N.length ∧ T.getD a false = false) ∧ (∀ k x y, w[k]? = some x → w[k + 1]? = some y → y ∈ N.getD x []) ∧ ∀ x, w[w.length - 1]? = some x → a ∈ N.getD x []
theorem WayI.len {N : List (List Nat)} {T : List Bool} {w : List Nat} {a : Nat} (h : WayI N T w a) : w.length ≤ N.length := nodup_len _ _ h.1 fun i hi => (h.2.1 i hi).1
theorem WayI.step {N : List (List Nat)} {T : List Bool} {w : List Nat} {a b : Nat} (h : WayI N T w a) (ha : a ∉ w) (hb : b ∈ N.getD a []) (hbl : b < N.length) (hT : T.getD b false = false) : WayI N T (w ++ [a]) b := by
  obtain ⟨h1, h2, h3, h4, h5⟩ := h
  refine ⟨?_, fun i hi => ?_, ⟨hbl, hT⟩, fun k x y hx hy => ?_, fun x hx => ?_⟩
  · rw [List.nodup_append]
    refine ⟨h1, by simp, fun i hi j hj => ?_⟩
    simp at hj; subst hj
    exact fun e => ha (e ▸ hi)
  · rcases List.mem_append.1 hi with h | h
    · exact h2 i h
    · simp at h; subst h; exact h3
  · by_cases hk : k + 1 < w.length
    · rw [List.getElem?_append_left (by omega)] at hx
      rw [List.getElem?_append_left hk] at hy
      exact h4 k x y hx hy
    · have hlen := (List.getElem?_eq_some_iff.1 hy).1
      rw [List.length_append, List.length_singleton] at hlen
      have hk2 : k + 1 = w.length := by omega
      rw [List.getElem?_append_left (by omega), show k = w.length - 1 by omega] at hx
      rw [List.getElem?_append_right (by omega), hk2, Nat.sub_self] at hy
      simp at hy; subst hy
      exact h5 x hx
  · rw [List.length_append, List.length_singleton, Nat.add_sub_cancel, List.getElem?_append_right (Nat.le_refl _), Nat.sub_self] at hx
    simp at hx; subst hx; exact hb
def CycP (N : List (List Nat)) (c : List Nat) : Prop := ∀ k i, c[k]? = some i → i < N.length ∧ i ∉ c.take k ∧ ∃ x, c[(k + 1) % c.length]? = some x ∧ x ∈ N.getD i []
theorem WayI.cyc {N : List (List Nat)} {T : List Bool} {w : List Nat} {a r : Nat} (h : WayI N T w a) (hr : w[r]? = some a) : CycP N (w.drop r) := by
  obtain ⟨h1, h2, h3, h4, h5⟩ := h
  have hrl := (List.getElem?_eq_some_iff.1 hr).1
  intro k i hk
  rw [List.getElem?_drop] at hk
  have hkl := (List.getElem?_eq_some_iff.1 hk).1
  have hnd : (w.drop r).Nodup := List.Sublist.nodup (List.drop_sublist r w) h1
  refine ⟨(h2 i (List.mem_iff_getElem?.2 ⟨_, hk⟩)).1, fun hm => ?_, ?_⟩
  · obtain ⟨q, hq, e⟩ := List.mem_iff_getElem.1 hm
    rw [List.length_take, List.length_drop] at hq
    rw [List.getElem_take] at e
    have hk' : (w.drop r)[k]? = some i := by rw [List.getElem?_drop]; exact hk
    have hq' : (w.drop r)[q]? = some i := by rw [List.getElem?_eq_getElem (by rw [List.length_drop]; omega), e]
    have := nodup_get hnd hq' hk'
    omega
  · rw [List.length_drop]
    by_cases hlast : k + 1 < w.length - r
    · rw [Nat.mod_eq_of_lt hlast, List.getElem?_drop]
      have hy : w[r + (k + 1)]? = some (w[r + (k + 1)]'(by omega)) := List.getElem?_eq_getElem (by omega)
      exact ⟨_, hy, h4 (r + k) i _ hk (by rw [show r + k + 1 = r + (k + 1) by omega]; exact hy)⟩
    · have e : k + 1 = w.length - r := by omega
      rw [e, Nat.mod_self, List.getElem?_drop, Nat.add_zero]
      exact ⟨a, hr, h5 i (by rw [show w.length - 1 = r + k by omega]; exact hk)⟩
end Go.Proofs.Ytombjgnlpdnclaa

/- Contracts of package graph: all, order, Order. -/
namespace Go.Proofs.Ytombjgnlpdnclaa
open Go.V
attribute [local irreducible] app
set_option linter.constructorNameAsVariable false
set_option linter.unusedVariables false

def NN (H : Heap) (p : OA) (n c : Nat) (N : List (List Nat)) : Prop :=
  N.length = n ∧ n ≤ c ∧ ∃ vs : List Value, vs.length = n ∧ H.rdS p vs ∧ ∀ (i : Nat) (L : List Nat), N[i]? = some L → ∃ (q : OA) (m cc : Nat), vs[i]? = some (Value.slice q m cc) ∧ NL H q m cc L
theorem NN.ext {H H' : Heap} {p : OA} {n c : Nat} {N : List (List Nat)} (h : NN H p n c N) (he : Ext H H') : NN H' p n c N := by
  obtain ⟨h1, h2, vs, h3, h4, h5⟩ := h
  refine ⟨h1, h2, vs, h3, rdS_ext he h4, fun i bs hb => ?_⟩
  obtain ⟨q, m, cc, e1, e2⟩ := h5 i bs hb
  exact ⟨q, m, cc, e1, e2.ex he⟩
theorem NN.get {H : Heap} {p : OA} {n c i : Nat} {N : List (List Nat)} {K : OA → Nat → Nat → Prop} (h : NN H p n c N) (hi : i < n) (hK : ∀ q cc, NL H q (N.getD i []).length cc (N.getD i []) → K q (N.getD i []).length cc) :
    (0 ≤ (i : Int) ∧ (i : Int) < ((n : Nat) : Int)) ∧ ptr p fun a => ldSl (Addr.add a ((i : Int).toNat * 1)) H K := by
  obtain ⟨h1, h2, vs, h3, h4, h5⟩ := h
  refine ⟨⟨by omega, by omega⟩, ?_⟩
  have hx : N[i]? = some (N[i]'(by omega)) := List.getElem?_eq_getElem (by omega)
  have hd : N.getD i [] = N[i]'(by omega) := by rw [List.getD_eq_getElem?_getD, hx]; rfl
  rw [hd] at hK
  generalize N[i]'(by omega) = L at hx hK
  obtain ⟨q, m, cc, e1, e2⟩ := h5 i L hx
  rw [Int.toNat_natCast]
  refine rdS_cell (K := fun a => ldSl a H K) h4 e1 fun a ha => ⟨q, m, cc, ha, ?_⟩
  have hm := e2.1
  subst hm
  exact hK q cc e2
def but1 (H : Heap) (b : Nat) : Heap := fun j => if j = b then none else H j
theorem but1_ne {H : Heap} {b j : Nat} (h : j ≠ b) : but1 H b j = H j := if_neg h
theorem but1_at (H : Heap) (b : Nat) : but1 H b b = none := if_pos rfl
theorem but1_ext {H H' : Heap} {b : Nat} (h : ∀ j, j ≠ b → H' j = H j) : Ext (but1 H b) H' := fun j o hj => by
  by_cases e : j = b
  · subst e; rw [but1_at] at hj; cases hj
  · rw [but1_ne e] at hj; rw [h j e]; exact hj
theorem ext_but1 {A H : Heap} {b : Nat} (h : Ext A H) (hb : A b = none) : Ext A (but1 H b) := fun j o hj => by
  rw [but1_ne (fun e => by rw [e, hb] at hj; cases hj)]; exact h j o hj
def Ns (J : List Jb) : List (List Nat) := (List.range J.length).map (needsOf J)
theorem Ns_len (J : List Jb) : (Ns J).length = J.length := by simp [Ns]
theorem Ns_get {J : List Jb} {i : Nat} (h : i < J.length) : (Ns J)[i]? = some (needsOf J i) := by simp [Ns, h]
theorem Ns_getD {J : List Jb} {i : Nat} (h : i < J.length) : (Ns J).getD i [] = needsOf J i := by rw [List.getD_eq_getElem?_getD, Ns_get h]; rfl
theorem d2_mem {L : List Nat} {x : Nat} (h : x ∈ d2 L) : x ∈ L := by
  match L with
  | [] => exact h
  | [a] => exact h
  | [a, b] =>
    have e : d2 [a, b] = if a = b then [a] else [a, b] := rfl
    rw [e] at h
    split at h
    · simp at h; simp [h]
    · exact h
  | _ :: _ :: _ :: _ => exact h
theorem s2_mem {L : List Nat} {x : Nat} (h : x ∈ s2 L) : x ∈ L := by
  match L with
  | [] => exact h
  | [a] => exact h
  | [a, b] =>
    have e : s2 [a, b] = if b < a then [b, a] else [a, b] := rfl
    rw [e] at h
    split at h
    · simp at h ⊢; exact h.symm
    · exact h
  | _ :: _ :: _ :: _ => exact h
theorem s2_len (L : List Nat) : (s2 L).length = L.length := by
  match L with
  | [] => rfl
  | [a] => rfl
  | [a, b] =>
    have e : s2 [a, b] = if b < a then [b, a] else [a, b] := rfl
    rw [e]; split <;> rfl
  | _ :: _ :: _ :: _ => rfl
theorem d2_len (L : List Nat) : (d2 L).length ≤ L.length := by
  match L with
  | [] => exact Nat.le_refl _
  | [a] => exact Nat.le_refl _
  | [a, b] =>
    have e : d2 [a, b] = if a = b then [a] else [a, b] := rfl
    rw [e]; split <;> simp
  | _ :: _ :: _ :: _ => exact Nat.le_refl _
theorem needsOf_lt {J : List Jb} {i m : Nat} (h : m ∈ needsOf J i) : m < J.length := by
  have := s2_mem (d2_mem h)
  rw [List.mem_filterMap] at this
  obtain ⟨nm, _, hn⟩ := this
  exact idxJ_lt hn
def Two (J : List Jb) : Prop := ∀ i, (J.getD i default).2.length ≤ 2
theorem needsOf_len {J : List Jb} (h : Two J) (i : Nat) : (needsOf J i).length ≤ 2 := by
  unfold needsOf
  have h1 := d2_len (s2 ((J.getD i default).2.filterMap (idxJ J)))
  rw [s2_len] at h1
  have h2 := filterMap_len (idxJ J) (J.getD i default).2
  have := h i
  omega
theorem Ns_wf (J : List Jb) : WF (Ns J) := fun i m hm => by
  rw [Ns_len]
  by_cases hi : i < J.length
  · rw [Ns_getD hi] at hm; exact needsOf_lt hm
  · rw [List.getD_eq_getElem?_getD, List.getElem?_eq_none (by rw [Ns_len]; omega)] at hm
    simp at hm
theorem Ns_two {J : List Jb} (h : Two J) (i : Nat) : ((Ns J).getD i []).length ≤ 2 := by
  by_cases hi : i < J.length
  · rw [Ns_getD hi]; exact needsOf_len h i
  · rw [List.getD_eq_getElem?_getD, List.getElem?_eq_none (by rw [Ns_len]; omega)]
    simp
theorem rep1_toList {α : Type} (n : Nat) (x : α) : rep n [x] = List.replicate n x := by
  induction n with
  | zero => rfl
  | succ n ih => show [x] ++ rep n [x] = _; rw [ih]; rfl
section
variable {H : Heap} {p : OA} {n c : Nat} {J : List Jb} {Q : QT} {E : ET}
theorem all_c (h : Jbs H p J) (hl : J.length = n) (hn : n ≤ 1048576) (h2 : Two J) (hk : ∀ H' q, Ext H H' → NN H' q n n (Ns J) → Q (.slice q n n) H') : Does Pr 18 #[.slice p n c] H Q E := by
  refine graph_all_fn _ _ _ Q E H ?_
  unfold graph_all graph_all_18
  refine ⟨⟨by omega, by omega, by omega, by omega⟩, ?_⟩
  refine nw_ext fun bo H1 hbo he1 hc1 => ?_
  rw [Int.toNat_natCast, rep1_toList] at hc1
  rw [Int.toNat_natCast]
  unfold graph_all_14 graph_all_11
  refine ⟨fun x H' => ∃ (k : Nat) (vs : List Value) (B : Heap), x = (k : Nat) ∧ k ≤ n ∧ Vec H' 1 (some ⟨bo, 0, none⟩) n n vs ∧ Ext H B ∧ B bo = none ∧ Ext B H' ∧ ∀ i, i < k → ∃ (q : OA) (cc : Nat), vs[i]? = some (Value.slice q (needsOf J i).length cc) ∧ NL B q (needsOf J i).length cc (needsOf J i),
    fun x _ => ((n : Int) - x).toNat, ⟨0, List.replicate n (.slice none 0 0), H, rfl, by omega, ⟨by simp, Nat.le_refl _, bo, _, _, rfl, hc1, by simp, fun j hj => List.getElem?_toArray ..⟩, Ext.refl _, hbo, he1, fun i hi => by omega⟩, ?_⟩
  rintro x H2 ⟨k, vs, B, rfl, hkn, hv, heB, hBo, hB2, hel⟩
  unfold graph_all_8 graph_all_5
  refine sel_dec (fun hlt => ?_) (fun hge => ?_)
  · unfold graph_all_3
    refine Needs_c (h.ext (heB.trans hB2)) hl hn (by omega) (h2 k) fun H3 q cc he3 hv3 hf3 => ⟨_, _, _, rfl, ?_⟩
    have hbo2 : H2 bo ≠ none := hv.known ⟨_, rfl, rfl⟩
    have hv' := hv.ext he3
    refine Vec.put hv' (i := k) (v := .slice q (needsOf J k).length cc) (by omega) rfl fun H4 hv4 hf4 => ?_
    rw [wrap_succ (by omega)]
    have hB3 : Ext B (but1 H3 bo) := ext_but1 (hB2.trans he3) hBo
    have hv3' : Vec (but1 H3 bo) 1 q (needsOf J k).length cc ((needsOf J k).map natV) := hv3.keep fun j hj _ => but1_ne fun e => by subst e; exact hbo2 (hf3 _ hj)
    refine ⟨⟨k + 1, _, but1 H3 bo, rfl, by omega, hv4, heB.trans hB3, but1_at _ _, but1_ext fun j hj => hf4 j fun hb => by obtain ⟨a, ha, e⟩ := hb; cases ha; exact hj e, fun i hi => ?_⟩, by dsimp only; omega⟩
    by_cases e : i = k
    · subst e
      exact ⟨q, cc, by rw [List.getElem?_set_self (by have := hv.1; omega)], Vec.nl hv3'⟩
    · obtain ⟨q', cc', e1, e2⟩ := hel i (by omega)
      exact ⟨q', cc', by rw [List.getElem?_set_ne (fun h => e h.symm)]; exact e1, e2.ex hB3⟩
  · have hkn' : k = n := by omega
    subst hkn'
    unfold graph_all_1
    refine hk H2 (some ⟨bo, 0, none⟩) (heB.trans hB2) ⟨by rw [Ns_len]; exact hl, Nat.le_refl _, vs, by have := hv.1; omega, hv.rdS, fun i L hL => ?_⟩
    have hi : i < J.length := by have := (List.getElem?_eq_some_iff.1 hL).1; rw [Ns_len] at this; exact this
    rw [Ns_get hi] at hL
    cases hL
    obtain ⟨q, cc, e1, e2⟩ := hel i (by omega)
    exact ⟨q, _, cc, e1, e2.ex hB2⟩
end
end Go.Proofs.Ytombjgnlpdnclaa

/- Contracts of package graph: order, Order. -/
namespace Go.Proofs.Ytombjgnlpdnclaa
open Go.V
attribute [local irreducible] app
set_option linter.constructorNameAsVariable false
set_option linter.unusedVariables false

theorem T_get {H : Heap} {p : OA} {n c m : Nat} {T : List Bool} {K : Bool → Prop} (h : Vec H 1 p n c (T.map Value.bool)) (hm : m < n) (hK : K (T.getD m false)) :
    (0 ≤ (m : Int) ∧ (m : Int) < ((n : Nat) : Int)) ∧ ptr p fun q => ldB (Addr.add q ((m : Int).toNat * 1)) H K := by
  refine ⟨⟨by omega, by omega⟩, ?_⟩
  have hl : T.length = n := by have := h.1; simpa using this
  have hx : T[m]? = some (T[m]'(by omega)) := List.getElem?_eq_getElem (by omega)
  have hd : T.getD m false = T[m]'(by omega) := by rw [List.getD_eq_getElem?_getD, hx]; rfl
  rw [hd] at hK
  rw [Int.toNat_natCast]
  exact rdS_cell (K := fun a => ldB a H K) h.rdS (v := .bool (T[m]'(by omega))) (by rw [List.getElem?_map, hx]; rfl) fun a ha => ⟨_, ha, hK⟩
def tk (T : List Bool) (m : Nat) : Bool := !(T.getD m false)
section
variable {H : Heap} {bt bT n m : Nat} {T : List Bool} {Q : QT} {E : ET}
theorem oc1_c (hb : H bt = some (.cells #[.slice (some ⟨bT, 0, none⟩) n n] 41 (0, 0))) (hv : Vec H 1 (some ⟨bT, 0, none⟩) n n (T.map Value.bool)) (hm : m < n) (hk : Q (.bool (tk T m)) H) :
    Does Pr 28 #[.int .i64 (m : Nat), .pointer (some ⟨bt, 0, none⟩)] H Q E := by
  refine graph_order_c1_fn _ _ Q E H ?_
  unfold graph_order_c1
  simp only [ptr_some]
  exact ldSl_at hb rfl (T_get hv hm hk)
theorem cc1_c (hb : H bt = some (.cells #[.slice (some ⟨bT, 0, none⟩) n n] 41 (0, 0))) (hv : Vec H 1 (some ⟨bT, 0, none⟩) n n (T.map Value.bool)) (hm : m < n) (hk : Q (.bool (tk T m)) H) :
    Does Pr 22 #[.int .i64 (m : Nat), .pointer (some ⟨bt, 0, none⟩)] H Q E := by
  refine graph_Cycle_c1_fn _ _ Q E H ?_
  unfold graph_Cycle_c1
  simp only [ptr_some]
  exact ldSl_at hb rfl (T_get hv hm hk)
end
def OS (H0 H : Heap) (N : List (List Nat)) (bT bt n : Nat) (p4 : OA) (l4 c4 : Nat) (o : List Nat) (T : List Bool) : Prop :=
  Ext H0 H ∧ H0 bT = none ∧ H0 bt = none ∧ bT ≠ bt ∧ H bt = some (.cells #[.slice (some ⟨bT, 0, none⟩) n n] 41 (0, 0)) ∧ Vec H 1 (some ⟨bT, 0, none⟩) n n (T.map Value.bool) ∧ l4 = o.length ∧ Vec H 1 p4 l4 c4 (o.map natV) ∧
  (∀ j, blk p4 j → H0 j = none ∧ j ≠ bT ∧ j ≠ bt) ∧ OrdI N o T
theorem rdy_any {N : List (List Nat)} {o : List Nat} {T : List Bool} (h : OrdI N o T) (i : Nat) : Rdy N o i ↔ T.getD i false = false ∧ (N.getD i []).any (tk T) = false := by
  unfold Rdy tk
  have e : ∀ m, T.getD m false = false ↔ m ∉ o := fun m => by
    rw [← h.2.1 m]; simp
  rw [e i, List.any_eq_false]
  refine and_congr Iff.rfl ⟨fun hm x hx => ?_, fun hm x hx => ?_⟩
  · rw [(h.2.1 x).2 (hm x hx)]; simp
  · have := hm x hx
    rw [← h.2.1 x]
    simpa using this
section
variable {H : Heap} {p : OA} {n c : Nat} {N : List (List Nat)} {Q : QT} {E : ET}
theorem order_c (h : NN H p n c N) (hn : n ≤ 1048575) (hw : WF N) (h2 : ∀ i, (N.getD i []).length ≤ 2)
    (hk : ∀ H' q cc bT o T, Ext H H' → Ord N o T → Vec H' 1 q o.length cc (o.map natV) → Vec H' 1 (some ⟨bT, 0, none⟩) n n (T.map Value.bool) → (∀ j, blk q j → H j = none) → H bT = none → Q (.tuple #[.slice q o.length cc, .slice (some ⟨bT, 0, none⟩) n n]) H') : Does Pr 17 #[.slice p n c] H Q E := by
  refine graph_order_fn _ _ _ Q E H ?_
  unfold graph_order graph_order_41 graph_order_38
  refine ⟨⟨by omega, by omega, by omega, by omega⟩, ?_⟩
  refine nw_ext fun bT H1 hbT he1 hc1 => ?_
  rw [Int.toNat_natCast, rep1_toList] at hc1
  rw [Int.toNat_natCast]
  refine nw_ext fun bt H2 hbt he2 hc2 => ?_
  have hne : bT ≠ bt := fun e => by rw [e] at hc1; rw [hc1] at hbt; cases hbt
  refine wr_new hc2 (by simp) rfl (c' := #[.slice (some ⟨bT, 0, none⟩) n n]) rfl fun H3 hc3 hb3 => ?_
  have he3 : Ext H H3 := ext_but (he1.trans he2) (he1.free hbt) hb3
  have hlN := h.1
  have hT3 : Vec H3 1 (some ⟨bT, 0, none⟩) n n ((List.replicate n false).map Value.bool) := by
    refine ⟨by simp, Nat.le_refl _, bT, _, _, rfl, by rw [hb3 bT hne]; exact he2 _ _ hc1, by simp, fun j hj => ?_⟩
    rw [List.map_replicate]; exact List.getElem?_toArray ..
  unfold graph_order_35 graph_order_32
  refine ⟨fun x4 l4 c4 H' => ∃ o T, OS H H' N bT bt n x4 l4 c4 o T, fun _ l4 _ _ => n - l4, ⟨[], List.replicate n false, he3, hbT, he1.free hbt, hne, hc3, hT3, rfl, Vec.nil _ 1, fun j hj => (by obtain ⟨a, ha, _⟩ := hj; cases ha), by rw [← hlN]; exact OrdI.nil N⟩, ?_⟩
  rintro x4 l4 c4 H4 ⟨o, T, hos⟩
  have hos' := hos
  obtain ⟨g1, g2, g3, g4, g5, g6, rfl, g8, g9, g10⟩ := hos'
  have hlo := g10.len
  have hlT := g10.1
  have hN4 := h.ext g1
  unfold graph_order_27 graph_order_24
  refine ⟨fun a b d x H' => a = x4 ∧ b = o.length ∧ d = c4 ∧ H' = H4 ∧ ∃ k : Nat, x = (k : Nat) ∧ k ≤ n ∧ ∀ j, j < k → ¬ Rdy N o j, fun _ _ _ x _ => ((n : Int) - x).toNat, ⟨rfl, rfl, rfl, rfl, 0, rfl, by omega, fun j hj => by omega⟩, ?_⟩
  rintro a b d x H5 ⟨rfl, rfl, rfl, rfl, k, rfl, hkn, hno⟩
  unfold graph_order_21 graph_order_18
  refine sel_dec (fun hlt => ?_) (fun hge => ?_)
  · have hlt : k < n := by omega
    have next : ¬ Rdy N o k → graph_order_3 (fun x4' l4' c4' H1 => (∃ o T, OS H H1 N bT bt n x4' l4' c4' o T) ∧ n - l4' < n - o.length)
        (fun a' b' d' x' H' => (a' = a ∧ b' = o.length ∧ d' = d ∧ H' = H5 ∧ ∃ k : Nat, x' = (k : Nat) ∧ k ≤ n ∧ ∀ j, j < k → ¬ Rdy N o j) ∧ ((n : Int) - x').toNat < ((n : Int) - (k : Nat)).toNat) Q E p n c a o.length d (some ⟨bt, 0, none⟩) p n c n k H5 := by
      intro hr
      unfold graph_order_3
      rw [wrap_succ (by omega)]
      refine ⟨⟨rfl, rfl, rfl, rfl, k + 1, rfl, by omega, fun j hj => ?_⟩, by omega⟩
      by_cases e : j = k
      · subst e; exact hr
      · exact hno j (by omega)
    unfold graph_order_13
    refine hN4.get hlt fun q cc hq => ?_
    unfold graph_order_9
    simp only [ptr_some]
    refine ldSl_at g5 rfl ?_
    have := T_get (K := fun b101 => sel b101
        (graph_order_7 (fun x4' l4' c4' H1 => (∃ o T, OS H H1 N bT bt n x4' l4' c4' o T) ∧ n - l4' < n - o.length)
          (fun a' b' d' x' H' => (a' = a ∧ b' = o.length ∧ d' = d ∧ H' = H5 ∧ ∃ k : Nat, x' = (k : Nat) ∧ k ≤ n ∧ ∀ j, j < k → ¬ Rdy N o j) ∧ ((n : Int) - x').toNat < ((n : Int) - (k : Nat)).toNat) Q E p n c a o.length d (some ⟨bt, 0, none⟩) k p n c n k true H5)
        (Does Pr 27 #[(.slice q (N.getD k []).length cc), (.func (.func 28) #[] #[(.pointer (some ⟨bt, 0, none⟩))])] H5 (fun v102 H103 =>
          ∃ b104 : Bool, v102 = (.bool b104) ∧ graph_order_7 (fun x4' l4' c4' H1 => (∃ o T, OS H H1 N bT bt n x4' l4' c4' o T) ∧ n - l4' < n - o.length)
          (fun a' b' d' x' H' => (a' = a ∧ b' = o.length ∧ d' = d ∧ H' = H5 ∧ ∃ k : Nat, x' = (k : Nat) ∧ k ≤ n ∧ ∀ j, j < k → ¬ Rdy N o j) ∧ ((n : Int) - x').toNat < ((n : Int) - (k : Nat)).toNat) Q E p n c a o.length d (some ⟨bt, 0, none⟩) k p n c n k b104 H103) E)) g6 hlt ?_
    · exact this
    · refine sel_mk (fun ht => ?_) (fun hf => ?_)
      · unfold graph_order_7
        exact sel_tt (next fun hr => by rw [((rdy_any g10 k).1 hr).1] at ht; cases ht)
      · have h2k := h2 k
        refine ContFn_c hq (by omega) (g := tk T) (fun m hm K hK => callV_func (oc1_c g5 g6 (by rw [← hlN]; exact hw k m hm) hK)) ⟨_, rfl, ?_⟩
        unfold graph_order_7
        refine sel_mk (fun hb => next fun hr => by rw [((rdy_any g10 k).1 hr).2] at hb; cases hb) (fun hb => ?_)
        have hr : Rdy N o k := (rdy_any g10 k).2 ⟨hf, hb⟩
        unfold graph_order_5
        simp only [ptr_some]
        refine ldSl_at g5 rfl ?_
        refine Vec.put g6 (i := k) (v := .bool true) hlt rfl fun H6 hv6 hf6 => ?_
        have fr6 : ∀ j, j ≠ bT → H6 j = H5 j := fun j hj => hf6 j fun hb => by obtain ⟨a, ha, e⟩ := hb; cases ha; exact hj e
        have hT6 : Vec H6 1 (some ⟨bT, 0, none⟩) n n ((T.set k true).map Value.bool) := by rw [List.map_set]; exact hv6
        have g8' : Vec H6 1 a o.length d (o.map natV) := g8.keep fun j hj _ => fr6 j (g9 j hj).2.1
        refine nw_ext fun b7 H7 hb7 he7 hc7 => ?_
        refine app_one (sz := 1) (ws := [natV k]) sl22 (g8'.ext he7) hc7 rfl rfl (by omega) (by omega) fun p8 c8 H8 hv8 hs8 hb8 => ?_
        have hstep := g10.step (by omega : k < N.length) hr hno
        have hlen' := hstep.len
        rw [List.length_append, List.length_singleton] at hlen'
        have e06 : Ext H H6 := fun j o' hj => by rw [fr6 j fun e => by rw [e, g2] at hj; cases hj]; exact g1 j o' hj
        have kT : H6 bT ≠ none := hT6.known ⟨_, rfl, rfl⟩
        have kt : H6 bt ≠ none := by rw [fr6 bt (Ne.symm g4), g5]; simp
        have e7T : H8 bT = H7 bT := hs8 bT (fun hb => (g9 bT hb).2.1 rfl) (fun e => kT (he7.free e))
        refine ⟨⟨o ++ [k], T.set k true, ext_app (e06.trans he7) (fun j hj => (g9 j hj).1) hs8, g2, g3, g4, ?_, ?_, by simp, by simpa using hv8, fun j hj => ?_, hstep⟩, by omega⟩
        · rw [hs8 bt (fun hb => (g9 bt hb).2.2 rfl) (fun e => kt (he7.free e))]
          exact he7 _ _ (by rw [fr6 bt (Ne.symm g4)]; exact g5)
        · exact (hT6.ext he7).keep fun j hj _ => by obtain ⟨a, ha, e⟩ := hj; cases ha; rw [e]; exact e7T
        · rcases hb8 j hj with h | h
          · exact g9 j h
          · exact ⟨(e06.trans he7).free h, fun e => by rw [e] at h; exact kT (he7.free h), fun e => by rw [e] at h; exact kt (he7.free h)⟩
  · unfold graph_order_1
    simp only [ptr_some]
    refine ldSl_at g5 rfl ?_
    exact hk H5 a d bT o T g1 ⟨g10, fun j hj => hno j (by omega)⟩ g8 g6 (fun j hj => (g9 j hj).1) g2
end
end Go.Proofs.Ytombjgnlpdnclaa

/- Contracts of package graph: Order, Cycle. -/
namespace Go.Proofs.Ytombjgnlpdnclaa
open Go.V
attribute [local irreducible] app
set_option linter.constructorNameAsVariable false
set_option linter.unusedVariables false

section
variable {H : Heap} {p : OA} {n c : Nat} {J : List Jb} {Q : QT} {E : ET}
theorem Order_c (h : Jbs H p J) (hl : J.length = n) (hn : n ≤ 1048575) (h2 : Two J)
    (hk : ∀ H' q cc o T, Ext H H' → Ord (Ns J) o T → Vec H' 1 q o.length cc (o.map natV) → (∀ j, blk q j → H j = none) → Q (.slice q o.length cc) H') : Does Pr 8 #[.slice p n c] H Q E := by
  refine graph_Order_fn _ _ _ Q E H ?_
  unfold graph_Order
  refine all_c h hl (by omega) h2 fun H1 q1 he1 hN => ⟨_, _, _, rfl, ?_⟩
  refine order_c hN hn (Ns_wf J) (Ns_two h2) fun H2 q cc bT o T he2 hO hv hvT hf hbT => ⟨_, _, _, _, _, _, rfl, ?_⟩
  exact hk H2 q cc o T (he1.trans he2) hO hv fun j hj => he1.free (hf j hj)
theorem NL.drop {H : Heap} {p : OA} {n c k : Nat} {L : List Nat} (h : NL H p n c L) (hk : k < n) : NL H (if c = k then p else Option.map (fun a => Addr.add a (k * 1)) p) (n - k) (c - k) (L.drop k) := by
  obtain ⟨h1, h2, h3⟩ := h
  rw [if_neg (by omega)]
  refine ⟨by rw [List.length_drop]; omega, by omega, ?_⟩
  cases p with
  | none =>
    have : L.map natV = [] := h3
    simp at this; subst this; simp at h1; omega
  | some a =>
    have add2 : ∀ (a : Addr) (i j : Nat), (a.add i).add j = a.add (i + j) := fun a i j => by
      unfold Addr.add
      by_cases hi : i = 0
      · subst hi; simp
      · by_cases hj : j = 0
        · subst hj; simp [hi]
        · simp [hi, hj, Nat.add_assoc]
    have key : ∀ (vs : List Value) (i j : Nat), H.rd a i vs → H.rd (a.add (i + j)) 0 (vs.drop j) := by
      have sh : ∀ (vs : List Value) (b : Addr) (i j : Nat), H.rd b (i + j) vs → H.rd (b.add i) j vs := fun vs => by
        induction vs with
        | nil => intro b i j _; trivial
        | cons v vs ih => intro b i j h; exact ⟨by rw [add2]; exact h.1, ih b i (j + 1) h.2⟩
      have dr : ∀ (j : Nat) (vs : List Value) (i : Nat), H.rd a i vs → H.rd a (i + j) (vs.drop j) := fun j => by
        induction j with
        | zero => intro vs i h; exact h
        | succ j ih =>
          intro vs i h
          cases vs with
          | nil => trivial
          | cons v vs => have := ih vs (i + 1) h.2; rw [show i + (j + 1) = i + 1 + j by omega]; exact this
      intro vs i j h
      exact sh (vs.drop j) a (i + j) 0 (dr j vs i h)
    have := key (L.map natV) 0 k h3
    rw [Nat.zero_add, ← List.map_drop] at this
    show H.rd (a.add (k * 1)) 0 _
    rw [Nat.mul_one]; exact this
theorem Cycle_c (h : Jbs H p J) (hl : J.length = n) (hn : n ≤ 1048575) (h2 : Two J)
    (hk : ∀ H' q m cc w o T, Ext H H' → Ord (Ns J) o T → (m = 0 ↔ ∀ i, i < n → i ∈ o) → CycP (Ns J) w → NL H' q m cc w → Q (.slice q m cc) H') : Does Pr 9 #[.slice p n c] H Q E := by
  refine graph_Cycle_fn _ _ _ Q E H ?_
  unfold graph_Cycle graph_Cycle_24
  refine all_c h hl (by omega) h2 fun H1 q1 he1 hN => ⟨_, _, _, rfl, ?_⟩
  unfold graph_Cycle_21
  have hw := Ns_wf J
  have h2N := Ns_two h2
  have hlN : (Ns J).length = n := by rw [Ns_len]; exact hl
  refine order_c hN hn hw h2N fun H2 qo co bT o T he2 hO hv hvT hf hbT => ⟨_, _, _, _, _, _, rfl, ?_⟩
  have hN2 := hN.ext he2
  have hlT : T.length = n := by rw [hO.1.1]; exact hlN
  clear hN hv hf
  revert hk
  generalize Ns J = N at *
  intro hk
  refine nw_ext fun bt H3 hbt he3 hc3 => ?_
  refine wr_new hc3 (by simp) rfl (c' := #[.slice (some ⟨bT, 0, none⟩) n n]) rfl fun H4 hc4 hb4 => ?_
  have he4 : Ext H2 H4 := ext_but he3 hbt hb4
  have hvT4 := hvT.ext he4
  have he14 : Ext H H4 := (he1.trans he2).trans he4
  have hN4 := hN2.ext he4
  unfold graph_Cycle_18
  simp only [ptr_some]
  refine ldSl_at hc4 rfl ?_
  refine IdxB_c hlT hvT4.rdS (by omega) fun r hr => ⟨_, rfl, ?_⟩
  unfold graph_Cycle_15
  have eT : ∀ i, i < n → (T.getD i true = false ↔ i ∉ o) := fun i hi => by
    rw [← hO.1.2.1 i, List.getD_eq_getElem?_getD, List.getD_eq_getElem?_getD, List.getElem?_eq_getElem (by omega : i < T.length)]
    simp
  rcases hr with ⟨rfl, hno⟩ | ⟨at0, ha1, rfl, ha2, _⟩
  · refine sel_dec (fun _ => ?_) (fun h => absurd (by omega) h)
    refine hk H4 none 0 0 [] o T he14 hO ⟨fun _ i hi => Classical.byContradiction fun hn => hno i hi ((eT i hi).2 hn), fun _ => rfl⟩ (fun k i h => by simp at h) ⟨rfl, Nat.le_refl _, rfl⟩
  · refine sel_dec (fun h => absurd h (by omega)) (fun _ => ?_)
    have hnf : ¬ ∀ i, i < n → i ∈ o := fun h => (eT at0 ha1).1 ha2 (h at0 ha1)
    unfold graph_Cycle_12 graph_Cycle_8
    have fT : ∀ i, T.getD i false = false ↔ i ∉ o := fun i => by rw [← hO.1.2.1 i]; simp
    refine ⟨fun x6 x7 l7 c7 H' => ∃ (a : Nat) (w : List Nat), x6 = (a : Nat) ∧ l7 = w.length ∧ Vec H' 1 x7 l7 c7 (w.map natV) ∧ Ext H4 H' ∧ (∀ j, blk x7 j → H4 j = none) ∧ WayI N T w a, fun _ _ l7 _ _ => n - l7,
      ⟨at0, [], rfl, rfl, Vec.nil _ 1, Ext.refl _, fun j hj => (by obtain ⟨a, ha, _⟩ := hj; cases ha), by simp, by simp, ⟨by omega, (fT at0).2 ((eT at0 ha1).1 ha2)⟩, fun k x y h => by simp at h, fun x h => by simp at h⟩, ?_⟩
    rintro x6 x7 l7 c7 H5 ⟨a, w, rfl, rfl, hvw, he5, hf5, hw5⟩
    have hwl := hw5.len
    unfold graph_Cycle_5
    refine Cont_c (Vec.nl hvw) (by omega) ⟨_, rfl, ?_⟩
    refine sel_not (fun hin => ?_) (fun hin => ?_)
    · have hin := of_decide_eq_false hin
      unfold graph_Cycle_3
      refine nw_ext fun b6 H6 hb6 he6 hc6 => ?_
      refine app_one (sz := 1) (ws := [natV a]) sl22 (hvw.ext he6) hc6 rfl rfl (by omega) (by omega) fun p7 c7' H7 hv7 hs7 hb7 => ?_
      have he57 : Ext H4 H7 := ext_app (he5.trans he6) hf5 hs7
      have hf7 := fresh_app (he5.trans he6) hf5 hb7
      have hal : a < n := by have := hw5.2.2.1.1; omega
      refine (hN4.ext he57).get hal fun qa ca hqa => ?_
      have h2a := h2N a
      refine IdxFn_c hqa (by omega) (g := tk T) (fun m hm K hK => callV_func (cc1_c (he57 _ _ hc4) (hvT4.ext he57) (by rw [← hlN]; exact hw a m hm) hK)) fun r hr => ⟨_, rfl, ?_⟩
      refine (hN4.ext he57).get hal fun qa' ca' hqa' => ?_
      rcases hr with ⟨rfl, hno⟩ | ⟨k, hk1, rfl, hk2, _⟩
      · exfalso
        refine hO.2 a (by omega) ⟨(fT a).1 hw5.2.2.1.2, fun m hm => ?_⟩
        obtain ⟨i, hi, rfl⟩ := List.mem_iff_getElem.1 hm
        have this : ¬ tk T ((N.getD a []).getD i 0) = true := hno i hi
        rw [getD_of (List.getElem?_eq_getElem hi)] at this
        rw [← hO.1.2.1]
        unfold tk at this
        simpa using this
      · have hx : (N.getD a [])[k]? = some (N.getD a [])[k] := List.getElem?_eq_getElem hk1
        have hmem : (N.getD a [])[k] ∈ N.getD a [] := List.getElem_mem hk1
        have hk2 : tk T ((N.getD a []).getD k 0) = true := hk2
        rw [getD_of hx] at hk2
        generalize (N.getD a [])[k] = b at hx hmem hk2
        refine hqa'.get hx ?_
        have hTb : T.getD b false = false := by unfold tk at hk2; simpa using hk2
        have hs := hw5.step hin hmem (hw a b hmem) hTb
        have := hs.len
        rw [List.length_append, List.length_singleton] at this
        exact ⟨⟨b, w ++ [a], rfl, by simp, by simpa using hv7, he57, hf7, hs⟩, by dsimp only; omega⟩
    · have hin := of_decide_eq_true hin
      unfold graph_Cycle_1
      refine Idx_c (Vec.nl hvw) (by omega) fun r hr => ⟨_, rfl, ?_⟩
      rcases hr with ⟨rfl, hno⟩ | ⟨k, hk1, rfl, hk2, _⟩
      · exfalso
        obtain ⟨i, hi, rfl⟩ := List.mem_iff_getElem.1 hin
        exact hno i hi (getD_of (List.getElem?_eq_getElem hi))
      · refine ⟨⟨by omega, by omega⟩, ?_⟩
        rw [Int.toNat_natCast]
        have hx : w[k]? = some w[k] := List.getElem?_eq_getElem hk1
        have hk2 : w.getD k 0 = a := hk2
        rw [getD_of hx] at hk2
        rw [hk2] at hx
        exact hk H5 _ _ _ _ o T (he14.trans he5) hO ⟨fun h0 => absurd h0 (by omega), fun h => absurd h hnf⟩ (hw5.cyc hx) (NL.drop (Vec.nl hvw) hk1)
end
end Go.Proofs.Ytombjgnlpdnclaa

/- Contracts of package jobmuxlaw07: wild. -/
namespace Go.Proofs.Ytombjgnlpdnclaa
open Go.V
attribute [local irreducible] app
set_option linter.constructorNameAsVariable false
set_option linter.unusedVariables false

theorem sl24 : SlT Pr 24 15 := .of (by kernel_rfl)
theorem sl31 : SlT Pr 31 1 := .of (by kernel_rfl)
theorem byte_of (z : Int) : ∃ b : UInt8, Value.int .u8 (IntKind.wrap .u8 z) = byteV b := by
  refine ⟨UInt8.ofNat (IntKind.wrap .u8 z).toNat, ?_⟩
  unfold byteV
  congr 1
  rw [IntKind.wrap_u8, UInt8.toNat_ofNat']
  omega
abbrev Jr := Jb × OA × Nat
def Jr.cells (r : Jr) : List Value := jcells r.1.1 r.2.1 r.1.2.length r.2.2
theorem Jr.len (r : Jr) : r.cells.length = 15 := rfl
def jflat (R : List Jr) : List Value := R.flatMap Jr.cells
theorem addr_add (a : Addr) (i j : Nat) : (a.add i).add j = a.add (i + j) := by
  unfold Addr.add
  by_cases hi : i = 0
  · subst hi; simp
  · by_cases hj : j = 0
    · subst hj; simp [hi]
    · simp [hi, hj, Nat.add_assoc]
theorem rd_app {H : Heap} {a : Addr} : ∀ (vs ws : List Value) (i : Nat), H.rd a i (vs ++ ws) → H.rd a i vs ∧ H.rd a (i + vs.length) ws
  | [], ws, i, h => ⟨trivial, h⟩
  | v :: vs, ws, i, h => by
    obtain ⟨h1, h2⟩ := rd_app vs ws (i + 1) h.2
    exact ⟨⟨h.1, h1⟩, by rw [List.length_cons, show i + (vs.length + 1) = i + 1 + vs.length by omega]; exact h2⟩
theorem rd_sh {H : Heap} : ∀ (vs : List Value) (b : Addr) (i j : Nat), H.rd b (i + j) vs → H.rd (b.add i) j vs
  | [], _, _, _, _ => trivial
  | v :: vs, b, i, j, h => ⟨by rw [addr_add]; exact h.1, rd_sh vs b i (j + 1) h.2⟩
theorem jflat_rd {H : Heap} {a : Addr} : ∀ (R : List Jr) (o n : Nat) (r : Jr), H.rd a o (jflat R) → R[n]? = some r → H.rd a (o + n * 15) r.cells
  | [], _, _, _, _, h => by simp at h
  | x :: R, o, 0, r, h, hx => by
    simp at hx; subst hx
    rw [Nat.zero_mul, Nat.add_zero]
    exact (rd_app x.cells (jflat R) o h).1
  | x :: R, o, n + 1, r, h, hx => by
    have h2 := (rd_app x.cells (jflat R) o h).2
    rw [Jr.len] at h2
    have := jflat_rd R (o + 15) n r h2 (by simpa using hx)
    rw [show o + (n + 1) * 15 = o + 15 + n * 15 by omega]; exact this
open Classical in
noncomputable def butP (H : Heap) (P : Nat → Prop) : Heap := fun j => if P j then none else H j
theorem butP_in {H : Heap} {P : Nat → Prop} {j : Nat} (h : P j) : butP H P j = none := if_pos h
theorem butP_out {H : Heap} {P : Nat → Prop} {j : Nat} (h : ¬ P j) : butP H P j = H j := if_neg h
theorem butP_ext (H : Heap) (P : Nat → Prop) : Ext (butP H P) H := fun j o hj => by
  by_cases h : P j
  · rw [butP_in h] at hj; cases hj
  · rw [butP_out h] at hj; exact hj
def WI (H H' : Heap) (d : Nat) (xs : List Int) (p4 : OA) (l4 c4 i : Nat) (R : List Jr) : Prop :=
  ∃ (k : Nat) (B : Heap), l4 = R.length ∧ R.length ≤ i ∧ i ≤ 6 ∧ Vec H' 15 p4 R.length c4 (jflat R) ∧ Deck H H' d xs k ∧ Ext H B ∧ Ext B H' ∧ B d = none ∧ (∀ j, blk p4 j → B j = none ∧ j ≠ d) ∧
    ∀ r ∈ R, B.rdS r.2.1 (r.1.2.map Value.string) ∧ r.1.2.length ≤ 2
def JI (H H2 H' : Heap) (d : Nat) (xs : List Int) (bj : Nat) (nm : ByteArray) (nds : List ByteArray) (q : OA) (c : Nat) : Prop :=
  ∃ k, Ext H H2 ∧ (∀ j, j ≠ d → H2 j ≠ none → H' j = H2 j) ∧ Deck H H' d xs k ∧ H2 bj = none ∧ bj ≠ d ∧ H' bj = some (.cells (jcells nm q nds.length c).toArray 36 (0, 0)) ∧
    Vec H' 1 q nds.length c (nds.map Value.string) ∧ (∀ j, blk q j → H2 j = none ∧ j ≠ bj ∧ j ≠ d)
theorem JI.ext {H H2 H' H3 : Heap} {d bj c : Nat} {xs : List Int} {nm : ByteArray} {nds : List ByteArray} {q : OA} (h : JI H H2 H' d xs bj nm nds q c) (he : Ext H' H3) (hd : H2 d ≠ none) : JI H H2 H3 d xs bj nm nds q c := by
  obtain ⟨k, h0, h1, h2, h3, h4, h5, h6, h7⟩ := h
  refine ⟨k, h0, fun j hj hn => ?_, h2.ext he, h3, h4, he _ _ h5, h6.ext he, h7⟩
  cases e : H2 j with
  | none => exact absurd e hn
  | some o =>
    have := h1 j hj hn
    rw [e] at this
    exact he j o this
theorem JI.next {H H2 H' : Heap} {d bj c : Nat} {xs : List Int} {nm : ByteArray} {nds : List ByteArray} {q : OA} {b : Int} {Q : QT} {E : ET} (h : JI H H2 H' d xs bj nm nds q c) (hb : b ≠ 0)
    (hk : ∀ H3 k, JI H H2 H3 d xs bj nm nds q c → (∀ i, i ≠ d → H3 i = H' i) → Q (.int .i64 (drawOf xs k b)) H3) : Does Pr 16 #[.pointer (some ⟨d, 0, none⟩), .int .i64 b] H' Q E := by
  obtain ⟨k, h0, h1, h2, h3, h4, h5, h6, h7⟩ := h
  refine Next_c h2 hb fun H3 hd3 hf3 => hk H3 k ⟨_, h0, fun j hj hn => by rw [hf3 j hj]; exact h1 j hj hn, hd3, h3, h4, by rw [hf3 bj h4]; exact h5, h6.keep fun j hj _ => hf3 j (h7 j hj).2.2, h7⟩ hf3
theorem drawOf_bounds {xs : List Int} {k n : Nat} (hn : 0 < n) (hn2 : n ≤ 1048576) : 0 ≤ drawOf xs k n ∧ drawOf xs k n < n := by
  unfold drawOf
  split
  · exact modOf_bounds hn hn2
  · omega
end Go.Proofs.Ytombjgnlpdnclaa
