import Derived.Test.YtaffcoiomggpfaaVPats
/- Contracts of package nfa (2): a search's reach and text. -/
namespace Go.Proofs.Ytaffcoiomggpfaa
open Go.V
attribute [local irreducible] app
set_option linter.constructorNameAsVariable false
set_option linter.unusedVariables false

structure Tl where
  s : Nat
  bol : Bool
  eol : Bool
  fr : Int
  b : Int
  deriving DecidableEq, Inhabited
def Tl.cells (t : Tl) : List Value := [.int .i64 (t.s : Nat), .bool t.bol, .bool t.eol, .int .i64 t.fr, .int .i64 t.b]
def spotV (s : Nat) (bol eol : Bool) : Value := .agg #[.int .i64 (s : Nat), .bool bol, .bool eol]
def Tl.spot (t : Tl) : Value := spotV t.s t.bol t.eol
def flatT (T : List Tl) : List Value := T.flatMap Tl.cells
theorem flatT_length (T : List Tl) : (flatT T).length = T.length * 5 := by
  induction T with
  | nil => rfl
  | cons x l ih => simp [flatT, Tl.cells] at ih ⊢; omega
theorem flatT_get : ∀ {T : List Tl} {n j : Nat} {t : Tl}, T[n]? = some t → j < 5 → (flatT T)[n * 5 + j]? = t.cells[j]?
  | [], n, j, t, h, hj => by simp at h
  | x :: T, 0, j, t, h, hj => by
    simp at h; subst h
    show (x.cells ++ flatT T)[0 * 5 + j]? = _
    rw [List.getElem?_append_left (by simp [Tl.cells]; omega)]
    congr 1; omega
  | x :: T, n + 1, j, t, h, hj => by
    have h : T[n]? = some t := by simpa using h
    show (x.cells ++ flatT T)[(n + 1) * 5 + j]? = _
    have hl : x.cells.length = 5 := rfl
    rw [List.getElem?_append_right (by omega), hl, show (n + 1) * 5 + j - 5 = n * 5 + j by omega]
    exact flatT_get h hj
theorem vec_at5 {H : Heap} {p : OA} {l c : Nat} {T : List Tl} (h : Vec H 5 p l c (flatT T)) {n : Nat} {t : Tl} (hx : T[n]? = some t) :
    ∃ b ty cs, p = some ⟨b, 0, none⟩ ∧ H b = some (.cells cs ty (0, 0)) ∧ ∀ j, j < 5 → cs[n * 5 + j]? = t.cells[j]? := by
  obtain ⟨v1, v2, v3⟩ := h
  have hn : n < T.length := (List.getElem?_eq_some_iff.1 hx).1
  rw [flatT_length] at v1
  cases p with
  | none => simp only [] at v3; omega
  | some a =>
    obtain ⟨b, cs, t', rfl, hb, hcs, hget⟩ := v3
    refine ⟨b, t', cs, rfl, hb, fun j hj => ?_⟩
    rw [hget _ (by omega), flatT_get hx hj]
def inT (T : List Tl) (s : Nat) (bol eol : Bool) : Bool := T.any fun t => decide (t.s = s) && decide (t.bol = bol) && decide (t.eol = eol)
def SeenAt (H : Heap) (mp : Nat) (T : List Tl) : Prop := ∃ (es : Array MapEntry) (clk : Nat), H mp = some (.map es clk) ∧ es.toList.map (·.key) = T.map Tl.spot ∧ ∀ e ∈ es.toList, e.val = .bool true
theorem spot_ok (s : Nat) (bol eol : Bool) : keyOkB Pr 100 (spotV s bol eol) = true := by kernel_rfl
theorem spot_eq {s s' : Nat} {b b' e e' : Bool} : eqVs (spotV s b e).cells.toList (spotV s' b' e').cells.toList = true ↔ s' = s ∧ b' = b ∧ e' = e := by
  simp [spotV, Value.cells, eqVs, eqV]
  constructor
  · rintro ⟨h1, h2, h3⟩; exact ⟨by omega, h2.symm, h3.symm⟩
  · rintro ⟨rfl, rfl, rfl⟩; exact ⟨rfl, rfl, rfl⟩
theorem seen_keys {es : Array MapEntry} {T : List Tl} (h : es.toList.map (·.key) = T.map Tl.spot) : ∀ e ∈ es.toList, keyOkB Pr 100 e.key = true := fun e he => by
  have : e.key ∈ T.map Tl.spot := by rw [← h]; exact List.mem_map_of_mem he
  obtain ⟨t, _, ht⟩ := List.mem_map.1 this
  rw [← ht]; exact spot_ok _ _ _
theorem find_seen {s : Nat} {bol eol : Bool} : ∀ (es : List MapEntry) (T : List Tl) (i : Nat), es.map (·.key) = T.map Tl.spot → (∀ e ∈ es, e.val = .bool true) →
    (inT T s bol eol = true ∧ ∃ j, findC (spotV s bol eol).cells.toList es i = some (j, .bool true)) ∨ (inT T s bol eol = false ∧ findC (spotV s bol eol).cells.toList es i = none)
  | [], [], i, _, _ => .inr ⟨rfl, rfl⟩
  | [], _ :: _, i, h, _ => by simp at h
  | _ :: _, [], i, h, _ => by simp at h
  | e :: es, t :: T, i, h, hv => by
    rw [List.map_cons, List.map_cons] at h
    obtain ⟨h1, h2⟩ := List.cons.inj h
    unfold findC inT
    rw [List.any_cons]
    have ih := find_seen (s := s) (bol := bol) (eol := eol) es T (i + 1) h2 fun e he => hv e (by simp [he])
    unfold inT at ih
    have hk : e.key = spotV t.s t.bol t.eol := h1
    by_cases hq : eqVs (spotV s bol eol).cells.toList e.key.cells.toList = true
    · rw [if_pos hq, hv e (by simp)]
      rw [hk] at hq
      obtain ⟨a, b, c⟩ := spot_eq.1 hq
      exact .inl ⟨by rw [decide_eq_true a, decide_eq_true b, decide_eq_true c]; rfl, i, rfl⟩
    · rw [if_neg hq]
      have hno : (decide (t.s = s) && decide (t.bol = bol) && decide (t.eol = eol)) = false := by
        rw [Bool.eq_false_iff]
        intro hh
        simp only [Bool.and_eq_true, decide_eq_true_eq] at hh
        exact hq (by rw [hk]; exact spot_eq.2 ⟨hh.1.1, hh.1.2, hh.2⟩)
      rw [hno, Bool.false_or]
      exact ih
def RS (H0 H : Heap) (a mp : Nat) (ps : OA) (n cs : Nat) (T : List Tl) (pl : OA) (cl : Nat) (L : List Nat) : Prop :=
  Ext H0 H ∧ H0 a = none ∧ H0 mp = none ∧ a ≠ mp ∧ (∃ (pt : OA) (ct : Nat), H a = some (.cells #[.slice ps n cs, .map (some mp), .slice pt T.length ct] 97 (0, 0)) ∧ Vec H 5 pt T.length ct (flatT T) ∧
    ∀ j, blk pt j → H0 j = none ∧ j ≠ a ∧ j ≠ mp ∧ ¬ blk pl j) ∧ SeenAt H mp T ∧ Vec H 1 pl L.length cl (L.map natV) ∧ ∀ j, blk pl j → H0 j = none ∧ j ≠ a ∧ j ≠ mp
theorem RS.ext {H0 H H' : Heap} {a mp n cs cl : Nat} {ps pl : OA} {T : List Tl} {L : List Nat} (h : RS H0 H a mp ps n cs T pl cl L) (he : Ext H H') : RS H0 H' a mp ps n cs T pl cl L := by
  obtain ⟨h1, h2, h3, h4, ⟨pt, ct, h5, h6, h7⟩, ⟨es, clk, s1, s2, s3⟩, h9, h10⟩ := h
  exact ⟨h1.trans he, h2, h3, h4, ⟨pt, ct, he _ _ h5, h6.ext he, h7⟩, ⟨es, clk, he _ _ s1, s2, s3⟩, h9.ext he, h10⟩
def reachP (T : List Tl) (L : List Nat) (t : Tl) : List Tl × List Nat := if inT T t.s t.bol t.eol = true then (T, L) else (T ++ [t], L ++ [T.length])
theorem sl95 : SlT Pr 95 5 := .of (by kernel_rfl)
set_option maxHeartbeats 1000000 in
theorem reach_c {H0 H : Heap} {a mp n cs cl : Nat} {ps pl : OA} {T : List Tl} {L : List Nat} {t : Tl} {Q : QT} {E : ET} (h : RS H0 H a mp ps n cs T pl cl L) (hT : T.length < 65536) (hL : L.length < 65536)
    (hk : ∀ H' p' c', RS H0 H' a mp ps n cs (reachP T L t).1 p' c' (reachP T L t).2 → Q (.slice p' (reachP T L t).2.length c') H') :
    Does Pr 64 #[.pointer (some ⟨a, 0, none⟩), .slice pl L.length cl, .agg #[.int .i64 (t.s : Nat), .bool t.bol, .bool t.eol], .int .i64 t.fr, .int .i64 t.b] H Q E := by
  refine zqn1_fn _ _ _ _ _ _ _ _ _ Q E H ?_
  unfold zqn1
  refine nw_ext fun i H1 hi he1 hc1 => ?_
  replace h := h.ext he1
  obtain ⟨h1, h2, h3, h4, ⟨pt, ct, h5, h6, h7⟩, ⟨es, clk, s1, s2, s3⟩, h9, h10⟩ := id h
  unfold zqn1_3
  simp only [ptr_some, add_at, Nat.zero_add]
  refine ⟨some mp, cell_at h5 rfl, ?_⟩
  refine ⟨(t.s : Nat), t.bol, t.eol, rd_at hc1 _ 0 0 fun j hj => by simp, ?_⟩
  have hf := find_seen (s := t.s) (bol := t.bol) (eol := t.eol) es.toList T 0 s2 s3
  rcases hf with ⟨hin, j, hj⟩ | ⟨hin, hj⟩
  · refine ⟨true, true, ⟨es, clk, s1, seen_keys s2, ?_⟩, sel_tt ?_⟩
    · have hj' : findC (Value.agg #[.int .i64 (t.s : Nat), .bool t.bol, .bool t.eol]).cells.toList es.toList 0 = some (j, .bool true) := hj
      rw [hj']
    · have : reachP T L t = (T, L) := if_pos hin
      rw [this] at hk
      exact hk H1 pl cl h
  refine ⟨false, false, ⟨es, clk, s1, seen_keys s2, ?_⟩, sel_ff ?_⟩
  · have hj' : findC (Value.agg #[.int .i64 (t.s : Nat), .bool t.bol, .bool t.eol]).cells.toList es.toList 0 = none := hj
    rw [hj']
  have hr : reachP T L t = (T ++ [t], L ++ [T.length]) := if_neg (by rw [hin]; simp)
  rw [hr] at hk
  dsimp only at hk
  unfold zqn1_1
  simp only [ptr_some, add_at, Nat.zero_add]
  refine ⟨some mp, cell_at h5 rfl, ?_⟩
  refine ⟨(t.s : Nat), t.bol, t.eol, rd_at hc1 _ 0 0 fun j hj => by simp, ?_⟩
  refine ⟨mp, es, clk, rfl, s1, seen_keys s2, ?_⟩
  have hput : mput es clk (.agg #[.int .i64 (t.s : Nat), .bool t.bol, .bool t.eol]) (.bool true) = .map (es.push { key := t.spot, val := .bool true, born := clk }) (clk + 1) := by
    unfold mput
    have hj' : findC (Value.agg #[.int .i64 (t.s : Nat), .bool t.bol, .bool t.eol]).cells.toList es.toList 0 = none := hj
    rw [hj']; rfl
  rw [hput]
  have him : i ≠ mp := fun e => by rw [e, s1] at hc1; cases hc1
  have hia : i ≠ a := fun e => by rw [e, h5] at hc1; cases hc1
  have hset : ∀ j, j ≠ mp → (H1.set mp (.map (es.push { key := t.spot, val := .bool true, born := clk }) (clk + 1))) j = H1 j := fun j hj => Heap.set_ne _ _ hj
  have hself : (H1.set mp (.map (es.push { key := t.spot, val := .bool true, born := clk }) (clk + 1))) mp = some (.map (es.push { key := t.spot, val := .bool true, born := clk }) (clk + 1)) := Heap.set_self _ _ _
  generalize H1.set mp (.map (es.push { key := t.spot, val := .bool true, born := clk }) (clk + 1)) = H2 at hset hself
  have a2 : H2 a = some (.cells #[.slice ps n cs, .map (some mp), .slice pt T.length ct] 97 (0, 0)) := by rw [hset a h4]; exact h5
  have i2 : H2 i = some (.cells #[.int .i64 (t.s : Nat), .bool t.bol, .bool t.eol] 100 (0, 0)) := by rw [hset i him]; exact hc1
  have pt2 : Vec H2 5 pt T.length ct (flatT T) := h6.keep fun j hj _ => hset j (h7 j hj).2.2.1
  have pl2 : Vec H2 1 pl L.length cl (L.map natV) := h9.keep fun j hj _ => hset j (h10 j hj).2.2
  have e02 : Ext H0 H2 := fun j o hj => by rw [hset j (fun e => by rw [e, h3] at hj; cases hj)]; exact h1 j o hj
  refine ldSl_at (p := pt) (l := T.length) (m := ct) a2 rfl ?_
  refine ⟨(t.s : Nat), t.bol, t.eol, rd_at i2 _ 0 0 fun j hj => by simp, ?_⟩
  refine nw_ext fun q H3 hq he3 hc3 => ?_
  refine app_one (sz := 5) (ws := t.cells) sl95 (pt2.ext he3) hc3 rfl rfl (by omega) (by omega) fun p4 c4 H4 hv4 hs4 hb4 => ?_
  have ha4 : ¬ blk pt a := fun hb => (h7 a hb).2.1 rfl
  have hm4 : ¬ blk pt mp := fun hb => (h7 mp hb).2.2.1 rfl
  have a4 : H4 a = some (.cells #[.slice ps n cs, .map (some mp), .slice pt T.length ct] 97 (0, 0)) := by rw [hs4 a ha4 (by rw [he3 _ _ a2]; simp)]; exact he3 _ _ a2
  have m4 : H4 mp = some (.map (es.push { key := t.spot, val := .bool true, born := clk }) (clk + 1)) := by rw [hs4 mp hm4 (by rw [he3 _ _ hself]; simp)]; exact he3 _ _ hself
  have pl4 : Vec H4 1 pl L.length cl (L.map natV) := (pl2.ext he3).keep fun j hj hn => hs4 j (fun hb => (h7 j hb).2.2.2 hj) hn
  have e04 : Ext H0 H4 := ext_app (e02.trans he3) (fun j hj => (h7 j hj).1) hs4
  have f4 : ∀ j, blk p4 j → H0 j = none ∧ j ≠ a ∧ j ≠ mp ∧ ¬ blk pl j := fun j hj => by
    rcases hb4 j hj with hh | hh
    · exact h7 j hh
    · refine ⟨(e02.trans he3).free hh, fun e => ?_, fun e => ?_, fun hb => (pl2.ext he3).known hb hh⟩
      · rw [e, he3 _ _ a2] at hh; cases hh
      · rw [e, he3 _ _ hself] at hh; cases hh
  refine wr_new a4 (by simp) rfl (c' := #[.slice ps n cs, .map (some mp), .slice p4 (T.length + 1) c4]) rfl fun H5 hc5 hb5 => ?_
  have m5 : H5 mp = some (.map (es.push { key := t.spot, val := .bool true, born := clk }) (clk + 1)) := by rw [hb5 mp (Ne.symm h4)]; exact m4
  have pt5 : Vec H5 5 p4 (T.length + 1) c4 (flatT T ++ t.cells) := hv4.keep fun j hj _ => hb5 j (f4 j hj).2.1
  have pl5 : Vec H5 1 pl L.length cl (L.map natV) := pl4.keep fun j hj _ => hb5 j (h10 j hj).2.1
  have e05 : Ext H0 H5 := ext_but e04 h2 hb5
  refine ldSl_at (p := p4) (l := T.length + 1) (m := c4) hc5 rfl ?_
  have hw : IntKind.wrap .i64 (((T.length + 1 : Nat) : Int) - 1) = ((T.length : Nat) : Int) := by rw [IntWalk.i64_in _ (by omega)]; omega
  rw [hw]
  refine nw_ext fun z H6 hz he6 hc6 => ?_
  refine app_one (sz := 1) (ws := [natV T.length]) sl22 (pl5.ext he6) hc6 rfl rfl (by omega) (by omega) fun p7 c7 H7 hv7 hs7 hb7 => ?_
  have ha7 : ¬ blk pl a := fun hb => (h10 a hb).2.1 rfl
  have hm7 : ¬ blk pl mp := fun hb => (h10 mp hb).2.2 rfl
  have hlen : (L ++ [T.length]).length = L.length + 1 := by simp
  have hlenT : (T ++ [t]).length = T.length + 1 := by simp
  have := hk H7 p7 c7
  rw [hlen] at this
  refine this ⟨ext_app (e05.trans he6) (fun j hj => (h10 j hj).1) hs7, h2, h3, h4, ⟨p4, c4, ?_, ?_, fun j hj => ⟨(f4 j hj).1, (f4 j hj).2.1, (f4 j hj).2.2.1, fun hb => ?_⟩⟩, ⟨es.push { key := t.spot, val := .bool true, born := clk }, clk + 1, ?_, ?_, ?_⟩, ?_, fun j hj => ?_⟩
  · rw [hs7 a ha7 (by rw [he6 _ _ hc5]; simp), hlenT]; exact he6 _ _ hc5
  · rw [hlenT]
    have e : flatT T ++ t.cells = flatT (T ++ [t]) := by simp [flatT]
    rw [← e]
    exact (pt5.ext he6).keep fun j hj hn => hs7 j (f4 j hj).2.2.2 hn
  · rcases hb7 j hb with hh | hh
    · exact (f4 j hj).2.2.2 hh
    · exact (pt5.ext he6).known hj hh
  · rw [hs7 mp hm7 (by rw [he6 _ _ m5]; simp)]; exact he6 _ _ m5
  · rw [Array.toList_push, List.map_append, List.map_append, s2]; rfl
  · intro e he
    rw [Array.toList_push] at he
    rcases List.mem_append.1 he with he | he
    · exact s3 e he
    · obtain rfl := List.mem_singleton.1 he; rfl
  · rw [hlen, List.map_append]; exact hv7
  · rcases hb7 j hj with hh | hh
    · exact h10 j hh
    · refine ⟨(e05.trans he6).free hh, fun e => ?_, fun e => ?_⟩
      · rw [e, he6 _ _ hc5] at hh; cases hh
      · rw [e, he6 _ _ m5] at hh; cases hh
def textF (T : List Tl) : Nat → Int → List UInt8 → List UInt8
  | 0, _, acc => acc
  | f + 1, i, acc => if 0 ≤ i then textF T f (T.getD i.toNat default).fr (if 0 ≤ (T.getD i.toNat default).b then UInt8.ofNat (T.getD i.toNat default).b.toNat :: acc else acc) else acc
def textP (T : List Tl) (i : Nat) : List UInt8 := textF T (T.length + 1) i []
def TW (T : List Tl) : Prop := ∀ i, i < T.length → (T.getD i default).fr < i ∧ -1 ≤ (T.getD i default).fr ∧ (T.getD i default).b ≤ 255
set_option maxHeartbeats 1000000 in
theorem ntext_c {H0 H : Heap} {a mp n cs cl i : Nat} {ps pl : OA} {T : List Tl} {L : List Nat} {Q : QT} {E : ET} (h : RS H0 H a mp ps n cs T pl cl L) (hT : T.length < 65536) (hw : TW T) (hi : i < T.length)
    (hk : ∀ H' p' c', Ext H H' → (∀ j, blk p' j → H j = none) → Vec H' 1 p' (textP T i).length c' ((textP T i).map byteV) → (textP T i).length ≤ T.length → Q (.slice p' (textP T i).length c') H') :
    Does Pr 66 #[.pointer (some ⟨a, 0, none⟩), .int .i64 (i : Nat)] H Q E := by
  refine zqp1_fn _ _ Q E H ?_
  unfold zqp1 zqp1_15 zqp1_11
  refine ⟨fun x p l c H' => ∃ (f : Nat) (acc : List UInt8), l = acc.length ∧ textF T f x acc = textP T i ∧ x < f ∧ (x < T.length ∧ -1 ≤ x) ∧ (acc.length : Int) + x < T.length ∧ Ext H H' ∧ Vec H' 1 p acc.length c (acc.map byteV) ∧ ∀ j, blk p j → H j = none, fun x _ _ _ _ => (x + 1).toNat,
    ⟨T.length + 1, [], rfl, rfl, by omega, ⟨by omega, by omega⟩, by simp; omega, Ext.refl _, Vec.nil _ 1, fun j hj => (by obtain ⟨a, ha, _⟩ := hj; cases ha)⟩, ?_⟩
  rintro x p l c H1 ⟨f, acc, rfl, hF, hxf, ⟨hx1, hx2⟩, hal, he1, hv, hfr⟩
  unfold zqp1_8
  refine sel_dec (fun hpos => ?_) (fun hneg => ?_)
  · obtain ⟨k, rfl⟩ : ∃ k : Nat, x = (k : Nat) := ⟨x.toNat, by omega⟩
    have hkl : k < T.length := by omega
    obtain ⟨w1, w2, w3⟩ := hw k hkl
    obtain ⟨_, _, _, _, ⟨pt, ct, h5, h6, h7⟩, _⟩ := h
    have hxt : T[k]? = some (T.getD k default) := by rw [List.getD_eq_getElem?_getD, List.getElem?_eq_getElem hkl]; rfl
    cases f with
    | zero => omega
    | succ f =>
      unfold textF at hF
      rw [if_pos (by omega), Int.toNat_natCast] at hF
      generalize T.getD k default = t at w1 w2 w3 hF hxt
      have next : ∀ (acc' : List UInt8) (p' : OA) (c' : Nat) (H' : Heap), textF T f t.fr acc' = textP T i → acc'.length ≤ acc.length + 1 → Ext H1 H' → Vec H' 1 p' acc'.length c' (acc'.map byteV) → (∀ j, blk p' j → H j = none) →
          zqp1_3 (fun x' p' l' c' H' => (∃ (f : Nat) (acc : List UInt8), l' = acc.length ∧ textF T f x' acc = textP T i ∧ x' < f ∧ (x' < T.length ∧ -1 ≤ x') ∧ (acc.length : Int) + x' < T.length ∧ Ext H H' ∧ Vec H' 1 p' acc.length c' (acc.map byteV) ∧ ∀ j, blk p' j → H j = none) ∧ (x' + 1).toNat < ((k : Int) + 1).toNat)
            Q E (some ⟨a, 0, none⟩) k p' acc'.length c' H' := by
        intro acc' p' c' H' g1 g2 g3 g4 g5
        unfold zqp1_3
        simp only [ptr_some, add_at, Nat.zero_add]
        refine ldSl_at (p := pt) (l := T.length) (m := ct) (g3 _ _ (he1 _ _ h5)) rfl ⟨⟨by omega, by omega⟩, ?_⟩
        obtain ⟨bb, ty, cc, rfl, hbb, hcc⟩ := vec_at5 ((h6.ext he1).ext g3) hxt
        simp only [ptr_some, add_at, Int.toNat_natCast, Nat.zero_add]
        refine ldI_at (n := t.fr) hbb (by rw [hcc 3 (by omega)]; rfl) ?_
        exact ⟨⟨f, acc', rfl, g1, by omega, ⟨by omega, w2⟩, by omega, he1.trans g3, g4, g5⟩, by omega⟩
      unfold zqp1_5
      simp only [ptr_some, add_at, Nat.zero_add]
      refine ldSl_at (p := pt) (l := T.length) (m := ct) (he1 _ _ h5) rfl ⟨⟨by omega, by omega⟩, ?_⟩
      obtain ⟨bb, ty, cc, rfl, hbb, hcc⟩ := vec_at5 (h6.ext he1) hxt
      simp only [ptr_some, add_at, Int.toNat_natCast, Nat.zero_add]
      refine ldI_at (n := t.b) hbb (by rw [hcc 4 (by omega)]; rfl) ?_
      refine sel_dec (fun hb => ?_) (fun hb => ?_)
      · rw [if_pos (by omega)] at hF
        obtain ⟨w, hw'⟩ : ∃ w : Nat, t.b = (w : Nat) := ⟨t.b.toNat, by omega⟩
        rw [hw'] at hF w3
        rw [Int.toNat_natCast] at hF
        rw [hw', u8_nat w (by omega)]
        have hbv : (Value.int .u8 (w : Nat)) = byteV (UInt8.ofNat w) := by
          unfold byteV
          have : (UInt8.ofNat w).toNat = w := by rw [UInt8.toNat_ofNat']; omega
          rw [this]
        refine nw_ext fun q H2 hq he2 hc2 => ?_
        rw [hbv] at hc2
        have v2 : Vec H2 1 (some ⟨q, 0, none⟩) 1 1 ([UInt8.ofNat w].map byteV) := ⟨rfl, Nat.le_refl _, q, _, 5, rfl, hc2, rfl, fun j hj => by simp⟩
        refine app_byt v2 (vec_byt (hv.ext he2)) (by omega) fun p3 c3 H3 hv3 hs3 hb3 => ?_
        have e13 : Ext H1 H3 := ext_app he2 (fresh_blk hq) hs3
        have f13 := fresh_app he2 (fresh_blk hq) hb3
        have hl : 1 + acc.length = (UInt8.ofNat w :: acc).length := by simp; omega
        rw [hl] at hv3 ⊢
        exact next (UInt8.ofNat w :: acc) p3 c3 H3 hF (by simp) e13 hv3 (fun j hj => he1.free (f13 j hj))
      · rw [if_neg (by omega)] at hF
        exact next acc p c H1 hF (by omega) (Ext.refl _) hv hfr
  · have hx : textF T f x acc = acc := by
      cases f with
      | zero => rfl
      | succ f => unfold textF; rw [if_neg (by omega)]
    rw [hx] at hF
    unfold zqp1_1
    rw [← hF] at hk
    exact hk H1 p c he1 hfr hv (by omega)
end Go.Proofs.Ytaffcoiomggpfaa

/- Contracts of package nfa (3): the state of Sample; what it computes. -/
namespace Go.Proofs.Ytaffcoiomggpfaa
open Go.V
attribute [local irreducible] app
set_option linter.constructorNameAsVariable false
set_option linter.unusedVariables false

structure In where
  T : List Tl
  L : List Nat
  N : List Nat
  pe : Int
def stepI (st : List Nd) (S : In) (i : Nat) : Sum (List UInt8) In :=
  let k := S.L.getD i 0
  let t := S.T.getD k default
  let x := st.getD t.s default
  if x.k = 5 then (if t.eol = false then .inl (textP S.T k) else .inr { S with pe := if S.pe < k then k else S.pe })
  else if x.k = 2 then
    let q := reachP S.T S.L ⟨x.l.toNat, t.bol, t.eol, k, -1⟩
    let q' := reachP q.1 q.2 ⟨x.r.toNat, t.bol, t.eol, k, -1⟩
    .inr { S with T := q'.1, L := q'.2 }
  else if x.k = 3 then (if t.bol = true then
    let q := reachP S.T S.L ⟨x.l.toNat, t.bol, t.eol, k, -1⟩
    .inr { S with T := q.1, L := q.2 } else .inr S)
  else if x.k = 4 then
    let q := reachP S.T S.L ⟨x.l.toNat, t.bol, true, k, -1⟩
    .inr { S with T := q.1, L := q.2 }
  else if x.k = 1 then (if 0 ≤ pickOf x.set t.eol then
    let q := reachP S.T S.N ⟨x.l.toNat, pickOf x.set t.eol == 10, false, k, pickOf x.set t.eol⟩
    .inr { S with T := q.1, N := q.2 } else .inr S)
  else .inr S
def innerF (st : List Nd) : Nat → Nat → In → Sum (List UInt8) In
  | 0, _, S => .inr S
  | f + 1, i, S => if i < S.L.length then (match stepI st S i with
    | .inl t => .inl t
    | .inr S' => innerF st f (i + 1) S') else .inr S
def outerF (st : List Nd) : Nat → List Tl → List Nat → Int → Option (List UInt8)
  | 0, _, _, _ => none
  | f + 1, T, L, pe => if 0 < L.length then (match innerF st (4 * st.length + 1) 0 ⟨T, L, [], pe⟩ with
    | .inl t => some t
    | .inr S => if 0 ≤ S.pe then some (textP S.T S.pe.toNat ++ [10]) else outerF st f S.T S.N S.pe) else none
def t0 : Tl := ⟨0, true, false, -1, -1⟩
def sampleOf (st : List Nd) : Option (List UInt8) := outerF st (2 * (4 * st.length) + 8) [t0] [0] (-1)
/-! ### Trails -/
def Tl.code (t : Tl) : Nat := t.s * 4 + (if t.bol = true then 2 else 0) + (if t.eol = true then 1 else 0)
def TOk (n : Nat) (T : List Tl) : Prop := (T.map Tl.code).Nodup ∧ (∀ t ∈ T, t.s < n) ∧ TW T
def LOk (T : List Tl) (L : List Nat) : Prop := L.Nodup ∧ ∀ k ∈ L, k < T.length
theorem code_eq {t u : Tl} (h : t.code = u.code) : t.s = u.s ∧ t.bol = u.bol ∧ t.eol = u.eol := by
  obtain ⟨s, b, e, _, _⟩ := t
  obtain ⟨s', b', e', _, _⟩ := u
  unfold Tl.code at h
  dsimp only at h ⊢
  cases b <;> cases e <;> cases b' <;> cases e' <;> simp at h ⊢ <;> omega
theorem TOk.len {n : Nat} {T : List Tl} (h : TOk n T) : T.length ≤ 4 * n := by
  have := nodup_len (4 * n) (T.map Tl.code) h.1 fun c hc => by
    obtain ⟨t, ht, rfl⟩ := List.mem_map.1 hc
    have := h.2.1 t ht
    unfold Tl.code
    split <;> split <;> omega
  rwa [List.length_map] at this
theorem LOk.len {T : List Tl} {L : List Nat} (h : LOk T L) : L.length ≤ T.length := nodup_len _ _ h.1 h.2
theorem LOk.more {T T' : List Tl} {L : List Nat} (h : LOk T L) (hl : T.length ≤ T'.length) : LOk T' L := ⟨h.1, fun k hk => Nat.lt_of_lt_of_le (h.2 k hk) hl⟩
theorem inT_iff {T : List Tl} {s : Nat} {b e : Bool} : inT T s b e = true ↔ ∃ t ∈ T, t.s = s ∧ t.bol = b ∧ t.eol = e := by
  unfold inT
  rw [List.any_eq_true]
  constructor
  · rintro ⟨t, h1, h2⟩
    simp only [Bool.and_eq_true, decide_eq_true_eq] at h2
    exact ⟨t, h1, h2.1.1, h2.1.2, h2.2⟩
  · rintro ⟨t, h1, h2, h3, h4⟩
    exact ⟨t, h1, by simp [h2, h3, h4]⟩
theorem reachP_facts {n : Nat} {T : List Tl} {L : List Nat} {t : Tl} (hT : TOk n T) (hL : LOk T L) (hs : t.s < n) (hf : t.fr < T.length ∧ -1 ≤ t.fr ∧ t.b ≤ 255) :
    TOk n (reachP T L t).1 ∧ LOk (reachP T L t).1 (reachP T L t).2 ∧ (∃ r, (reachP T L t).1 = T ++ r) ∧ (∃ r, (reachP T L t).2 = L ++ r) ∧ (reachP T L t).2.length + T.length = L.length + (reachP T L t).1.length := by
  unfold reachP
  split
  · exact ⟨hT, hL, ⟨[], by simp⟩, ⟨[], by simp⟩, rfl⟩
  · rename_i hno
    refine ⟨⟨?_, ?_, ?_⟩, ⟨?_, ?_⟩, ⟨[t], rfl⟩, ⟨[T.length], rfl⟩, by simp; omega⟩
    · show ((T ++ [t]).map Tl.code).Nodup
      rw [List.map_append, List.nodup_append]
      refine ⟨hT.1, by simp, fun a ha b hb => ?_⟩
      simp at hb; subst hb
      obtain ⟨u, hu, rfl⟩ := List.mem_map.1 ha
      intro e
      exact hno (inT_iff.2 ⟨u, hu, code_eq e⟩)
    · intro u hu
      rcases List.mem_append.1 hu with hu | hu
      · exact hT.2.1 u hu
      · simp at hu; subst hu; exact hs
    · intro i hi
      show ((T ++ [t]).getD i default).fr < i ∧ _
      by_cases h : i < T.length
      · rw [List.getD_eq_getElem?_getD, List.getElem?_append_left h, ← List.getD_eq_getElem?_getD]; exact hT.2.2 i h
      · have hi : i < (T ++ [t]).length := hi
        have : i = T.length := by simp at hi; omega
        subst this
        rw [List.getD_eq_getElem?_getD]; simp; exact hf
    · show (L ++ [T.length]).Nodup
      rw [List.nodup_append]
      refine ⟨hL.1, by simp, fun a ha b hb => ?_⟩
      simp at hb; subst hb
      have := hL.2 a ha; omega
    · intro k hk
      show k < (T ++ [t]).length
      rw [List.length_append, List.length_singleton]
      rcases List.mem_append.1 hk with hk | hk
      · have := hL.2 k hk; omega
      · simp at hk; omega
/-! ### The heap -/
theorem RS.setB {B H : Heap} {a mp n cs cl j : Nat} {ps pl : OA} {T : List Tl} {L : List Nat} (h : RS B H a mp ps n cs T pl cl L) (hj : B j ≠ none) (o : Obj) : RS (B.set j o) (H.set j o) a mp ps n cs T pl cl L := by
  obtain ⟨h1, h2, h3, h4, ⟨pt, ct, h5, h6, h7⟩, ⟨es, clk, s1, s2, s3⟩, h9, h10⟩ := h
  have ne : ∀ x, B x = none → x ≠ j := fun x hx e => hj (e ▸ hx)
  refine ⟨fun x o' hx => ?_, by rw [Heap.set_ne _ _ (ne a h2)]; exact h2, by rw [Heap.set_ne _ _ (ne mp h3)]; exact h3, h4, ⟨pt, ct, by rw [Heap.set_ne _ _ (ne a h2)]; exact h5, h6.keep fun x hx _ => Heap.set_ne _ _ (ne x (h7 x hx).1), fun x hx => ?_⟩,
    ⟨es, clk, by rw [Heap.set_ne _ _ (ne mp h3)]; exact s1, s2, s3⟩, h9.keep fun x hx _ => Heap.set_ne _ _ (ne x (h10 x hx).1), fun x hx => ?_⟩
  · by_cases e : x = j
    · subst e; rw [Heap.set_self] at hx ⊢; exact hx
    · rw [Heap.set_ne _ _ e] at hx ⊢; exact h1 x o' hx
  · rw [Heap.set_ne _ _ (ne x (h7 x hx).1)]; exact h7 x hx
  · rw [Heap.set_ne _ _ (ne x (h10 x hx).1)]; exact h10 x hx
theorem RS.grow {B H H' : Heap} {a mp n cs cl : Nat} {ps pl : OA} {T : List Tl} {L : List Nat} (h : RS B H a mp ps n cs T pl cl L) (he : Ext H H') : RS (beside B H H') H' a mp ps n cs T pl cl L := by
  obtain ⟨h1, h2, h3, h4, ⟨pt, ct, h5, h6, h7⟩, ⟨es, clk, s1, s2, s3⟩, h9, h10⟩ := h
  exact ⟨beside_ext _ _ _, beside_priv h2 (by rw [h5]; simp), beside_priv h3 (by rw [s1]; simp), h4, ⟨pt, ct, he _ _ h5, h6.ext he, fun x hx => ⟨beside_priv (h7 x hx).1 (h6.known hx), (h7 x hx).2⟩⟩, ⟨es, clk, he _ _ s1, s2, s3⟩, h9.ext he,
    fun x hx => ⟨beside_priv (h10 x hx).1 (h9.known hx), (h10 x hx).2⟩⟩
open Classical in
noncomputable def swapB (B H : Heap) (pl pn : OA) : Heap := fun j => if blk pn j then none else if blk pl j then H j else B j
theorem swapB_out {B H : Heap} {pl pn : OA} {x : Nat} (h1 : ¬ blk pn x) (h2 : ¬ blk pl x) : swapB B H pl pn x = B x := by
  unfold swapB; rw [if_neg h1, if_neg h2]
theorem RS.swap {B H : Heap} {a mp n cs cl cn : Nat} {ps pl pn : OA} {T : List Tl} {L N : List Nat} (h : RS B H a mp ps n cs T pl cl L) (hn : Vec B 1 pn N.length cn (N.map natV)) :
    RS (swapB B H pl pn) H a mp ps n cs T pn cn N ∧ Vec (swapB B H pl pn) 1 pl L.length cl (L.map natV) := by
  obtain ⟨h1, h2, h3, h4, ⟨pt, ct, h5, h6, h7⟩, hs, h9, h10⟩ := h
  have nn : ∀ x, B x = none → ¬ blk pn x := fun x hx hb => hn.known hb hx
  have eq : ∀ x, B x = none → ¬ blk pl x → swapB B H pl pn x = none := fun x hx hp => by unfold swapB; rw [if_neg (nn x hx), if_neg hp]; exact hx
  refine ⟨⟨fun x o hx => ?_, eq a h2 (fun hb => (h10 a hb).2.1 rfl), eq mp h3 (fun hb => (h10 mp hb).2.2 rfl), h4, ⟨pt, ct, h5, h6, fun x hx => ⟨eq x (h7 x hx).1 (h7 x hx).2.2.2, (h7 x hx).2.1, (h7 x hx).2.2.1, nn x (h7 x hx).1⟩⟩, hs, hn.ext h1, fun x hx => ⟨?_, ?_, ?_⟩⟩, h9.keep fun x hx _ => ?_⟩
  · unfold swapB at hx
    split at hx
    · cases hx
    · split at hx
      · exact hx
      · exact h1 x o hx
  · unfold swapB; rw [if_pos hx]
  · intro e; subst e; exact nn _ h2 hx
  · intro e; subst e; exact nn _ h3 hx
  · unfold swapB; rw [if_neg (nn x (h10 x hx).1), if_pos hx]
def SS (B0 B H : Heap) (a mp bl : Nat) (ps : OA) (n cs : Nat) (T : List Tl) (pl : OA) (cl : Nat) (L : List Nat) (pn : OA) (cn : Nat) (N : List Nat) : Prop :=
  Ext B0 B ∧ RS B H a mp ps n cs T pl cl L ∧ B bl = some (.cells #[.slice pl L.length cl] 22 (0, 0)) ∧ B0 bl = none ∧ Vec B 1 pn N.length cn (N.map natV) ∧ ∀ j, blk pn j → B0 j = none ∧ j ≠ bl
theorem SS.grow {B0 B H H' : Heap} {a mp bl n cs cl cn : Nat} {ps pl pn : OA} {T : List Tl} {L N : List Nat} (h : SS B0 B H a mp bl ps n cs T pl cl L pn cn N) (he : Ext H H') :
    SS (beside B0 H H') (beside B H H') H' a mp bl ps n cs T pl cl L pn cn N ∧ Ext B0 (beside B0 H H') := by
  obtain ⟨h1, h2, h3, h4, h5, h6⟩ := h
  have hB := h2.1
  have keep : ∀ x, B x ≠ none → beside B H H' x = B x := fun x hx => by
    rw [beside_some hx]
    cases e : B x with
    | none => exact absurd e hx
    | some o => exact he _ _ (hB _ _ e)
  refine ⟨⟨fun x o hx => ?_, h2.grow he, by rw [keep bl (by rw [h3]; simp)]; exact h3, beside_priv h4 (by rw [hB _ _ h3]; simp), h5.keep fun x hx hn => keep x hn, fun x hx => ⟨beside_priv (h6 x hx).1 (fun e => ?_), (h6 x hx).2⟩⟩, fun x o hx => ?_⟩
  · by_cases e : B0 x = none
    · by_cases e2 : H x = none
      · rw [beside_free e2] at hx ⊢; exact hx
      · rw [beside_priv e e2] at hx; cases hx
    · rw [beside_some e] at hx
      rw [beside_some (fun e2 => by
        cases e3 : B0 x with
        | none => exact e e3
        | some o' => rw [h1 _ _ e3] at e2; cases e2)]
      exact hx
  · cases e2 : B x with
    | none => exact h5.known hx e2
    | some o => rw [hB _ _ e2] at e; cases e
  · rw [beside_some (by rw [hx]; simp)]; exact he _ _ (hB _ _ (h1 _ _ hx))
theorem son_c {B0 B H : Heap} {a mp bl bx bt bi n cs cl cn i k s : Nat} {ps pl pn : OA} {T : List Tl} {L N : List Nat} {tr : Tl} {eol : Bool} {tx tt ti : TypeId} {fx ft fi : Nat × Nat} {Q : QT} {E : ET}
    (h : SS B0 B H a mp bl ps n cs T pl cl L pn cn N) (hx : B0 bx = some (.cells #[.pointer (some ⟨a, 0, none⟩)] tx fx)) (ht : B0 bt = some (.cells tr.cells.toArray tt ft)) (hi : B0 bi = some (.cells #[.int .i64 (i : Nat)] ti fi)) (hik : L[i]? = some k)
    (hT : T.length < 65536) (hL : L.length < 65536)
    (hk : ∀ B' H' p' c', SS B0 B' H' a mp bl ps n cs (reachP T L ⟨s, tr.bol, eol, k, -1⟩).1 p' c' (reachP T L ⟨s, tr.bol, eol, k, -1⟩).2 pn cn N → Q (.tuple #[]) H') :
    Does Pr 65 #[.int .i64 (s : Nat), .bool eol, .pointer (some ⟨bx, 0, none⟩), .pointer (some ⟨bl, 0, none⟩), .pointer (some ⟨bt, 0, none⟩), .pointer (some ⟨bi, 0, none⟩)] H Q E := by
  obtain ⟨h1, h2, h3, h4, h5, h6⟩ := h
  have hB := h2.1
  have he := h1.trans hB
  refine zqo1_fn _ _ _ _ _ _ Q E H ?_
  unfold zqo1
  simp only [ptr_some, add_at, Nat.zero_add]
  refine ldP_at (he _ _ hx) rfl ?_
  refine ldSl_at (p := pl) (l := L.length) (m := cl) (hB _ _ h3) rfl ?_
  refine ldB_at (n := tr.bol) (he _ _ ht) rfl ?_
  refine ldSl_at (p := pl) (l := L.length) (m := cl) (hB _ _ h3) rfl ?_
  refine ldI_at (n := (i : Nat)) (he _ _ hi) rfl ?_
  have hlt := (List.getElem?_eq_some_iff.1 hik).1
  refine ⟨⟨by omega, by omega⟩, ?_⟩
  obtain ⟨bb, ty, cc, rfl, hbb, hcc⟩ := vec_at1 h2.2.2.2.2.2.2.1 (n := i) (v := natV k) (by simp [hik])
  simp only [ptr_some, add_at, Int.toNat_natCast, Nat.mul_one, Nat.zero_add]
  refine ldI_at (n := (k : Nat)) hbb hcc ?_
  refine reach_c (t := ⟨s, tr.bol, eol, k, -1⟩) h2 hT hL fun H' p' c' h' => ⟨_, _, _, rfl, ?_⟩
  have hbl' := h'.1 _ _ h3
  refine wr_new hbl' (by simp) rfl (c' := #[.slice p' (reachP T L ⟨s, tr.bol, eol, k, -1⟩).2.length c']) rfl fun H5 hc5 hb5 => ?_
  have e5 : H5 = H'.set bl (.cells #[.slice p' (reachP T L ⟨s, tr.bol, eol, k, -1⟩).2.length c'] 22 (0, 0)) := by
    funext j
    by_cases e : j = bl
    · subst e; rw [Heap.set_self]; exact hc5
    · rw [Heap.set_ne _ _ e]; exact hb5 j e
  rw [e5]
  refine hk (B.set bl (.cells #[.slice p' (reachP T L ⟨s, tr.bol, eol, k, -1⟩).2.length c'] 22 (0, 0))) _ p' c' ⟨fun x o hx => ?_, h'.setB (by rw [h3]; simp) _, Heap.set_self _ _ _, h4, h5.keep fun x hx _ => Heap.set_ne _ _ (h6 x hx).2, h6⟩
  rw [Heap.set_ne _ _ (fun e => by rw [e, h4] at hx; cases hx)]; exact h1 x o hx
theorem snext_c {B0 B H : Heap} {a mp bl n cs cl cn : Nat} {ps pl pn : OA} {T : List Tl} {L N : List Nat} {t : Tl} {Q : QT} {E : ET}
    (h : SS B0 B H a mp bl ps n cs T pl cl L pn cn N) (hT : T.length < 65536) (hN : N.length < 65536)
    (hk : ∀ B' H' p' c', SS B0 B' H' a mp bl ps n cs (reachP T N t).1 pl cl L p' c' (reachP T N t).2 → Q (.slice p' (reachP T N t).2.length c') H') :
    Does Pr 64 #[.pointer (some ⟨a, 0, none⟩), .slice pn N.length cn, .agg #[.int .i64 (t.s : Nat), .bool t.bol, .bool t.eol], .int .i64 t.fr, .int .i64 t.b] H Q E := by
  obtain ⟨h1, h2, h3, h4, h5, h6⟩ := h
  obtain ⟨r1, r2⟩ := h2.swap h5
  have hbl : ¬ blk pn bl := fun hb => (h6 bl hb).2 rfl
  have hbl2 : ¬ blk pl bl := fun hb => by have := (h2.2.2.2.2.2.2.2 bl hb).1; rw [h3] at this; cases this
  have sbl : swapB B H pl pn bl = some (.cells #[.slice pl L.length cl] 22 (0, 0)) := by unfold swapB; rw [if_neg hbl, if_neg hbl2]; exact h3
  have e0 : Ext B0 (swapB B H pl pn) := fun x o hx => by
    unfold swapB
    rw [if_neg (fun hb => by rw [(h6 x hb).1] at hx; cases hx), if_neg (fun hb => by have := (h2.2.2.2.2.2.2.2 x hb).1; rw [h1 _ _ hx] at this; cases this)]
    exact h1 _ _ hx
  refine reach_c (t := t) r1 hT hN fun H' p' c' h' => ?_
  obtain ⟨q1, q2⟩ := h'.swap r2
  have nbl : ¬ blk p' bl := fun hb => by have := (h'.2.2.2.2.2.2.2 bl hb).1; rw [sbl] at this; cases this
  refine hk (swapB (swapB B H pl pn) H' p' pl) H' p' c' ⟨fun x o hx => ?_, q1, ?_, h4, q2, fun x hx => ⟨?_, fun e => nbl (e ▸ hx)⟩⟩
  · have hs := e0 x o hx
    unfold swapB
    rw [if_neg (fun hb => by have := (h2.2.2.2.2.2.2.2 x hb).1; rw [h1 _ _ hx] at this; cases this), if_neg (fun hb => by have := (h'.2.2.2.2.2.2.2 x hb).1; rw [hs] at this; cases this)]
    exact hs
  · rw [swapB_out hbl2 nbl]; exact sbl
  · have := (h'.2.2.2.2.2.2.2 x hx).1
    cases e : B0 x with
    | none => rfl
    | some o => rw [e0 _ _ e] at this; cases this
theorem SS.turn {B0 B H H' : Heap} {a mp bl n cs cl cn : Nat} {ps pl pn : OA} {T : List Tl} {L N : List Nat} (h : SS B0 B H a mp bl ps n cs T pl cl L pn cn N) (h' : H' = H.set bl (.cells #[.slice pn N.length cn] 22 (0, 0))) :
    ∃ B', SS B0 B' H' a mp bl ps n cs T pn cn N none 0 [] := by
  obtain ⟨h1, h2, h3, h4, h5, h6⟩ := h
  obtain ⟨r1, r2⟩ := h2.swap h5
  have hbl : ¬ blk pn bl := fun hb => (h6 bl hb).2 rfl
  have hbl2 : ¬ blk pl bl := fun hb => by have := (h2.2.2.2.2.2.2.2 bl hb).1; rw [h3] at this; cases this
  have sbl : swapB B H pl pn bl = some (.cells #[.slice pl L.length cl] 22 (0, 0)) := by unfold swapB; rw [if_neg hbl, if_neg hbl2]; exact h3
  have e0 : Ext B0 (swapB B H pl pn) := fun x o hx => by
    unfold swapB
    rw [if_neg (fun hb => by rw [(h6 x hb).1] at hx; cases hx), if_neg (fun hb => by have := (h2.2.2.2.2.2.2.2 x hb).1; rw [h1 _ _ hx] at this; cases this)]
    exact h1 _ _ hx
  subst h'
  refine ⟨_, fun x o hx => ?_, r1.setB (j := bl) (by rw [sbl]; simp) _, Heap.set_self _ _ _, h4, Vec.nil _ 1, fun j hj => (by obtain ⟨a, ha, _⟩ := hj; cases ha)⟩
  rw [Heap.set_ne _ _ (fun e => by rw [e, h4] at hx; cases hx)]; exact e0 x o hx
end Go.Proofs.Ytaffcoiomggpfaa

/- Contracts of package nfa (4): Sample. -/
namespace Go.Proofs.Ytaffcoiomggpfaa
open Go.V
attribute [local irreducible] app
set_option linter.constructorNameAsVariable false
set_option linter.unusedVariables false

def lenAt (b i : Nat) (H : Heap) : Nat := match H b with
  | some (Obj.cells c _ _) => match c[i]? with
    | some (Value.slice _ l _) => l
    | _ => 0
  | _ => 0
def valAt (q : OA) (H : Heap) : Nat := match q with
  | some q => match H q.block with
    | some (Obj.cells c _ _) => match c[0]? with
      | some (Value.int _ n) => n.toNat
      | _ => 0
    | _ => 0
  | none => 0
theorem pickOf_le (s : S4) (eol : Bool) : -1 ≤ pickOf s eol ∧ pickOf s eol ≤ 255 := by
  unfold pickOf
  split
  · omega
  split
  · omega
  split
  · rename_i b hb
    have := List.mem_of_find?_eq_some hb
    rw [List.mem_range] at this; omega
  · omega
theorem innerF_end (st : List Nd) {i : Nat} {S : In} (f : Nat) (h : ¬ i < S.L.length) : innerF st f i S = .inr S := by
  cases f with
  | zero => rfl
  | succ f => unfold innerF; rw [if_neg h]
theorem innerF_step (st : List Nd) {i : Nat} {S : In} (f : Nat) (h : i < S.L.length) : innerF st (f + 1) i S = match stepI st S i with
    | .inl t => .inl t
    | .inr S' => innerF st f (i + 1) S' := by
  conv => lhs; unfold innerF
  rw [if_pos h]
  all_goals (cases stepI st S i <;> rfl)
theorem SS.len {B0 B H : Heap} {a mp bl n cs cl cn : Nat} {ps pl pn : OA} {T : List Tl} {L N : List Nat} (h : SS B0 B H a mp bl ps n cs T pl cl L pn cn N) : lenAt a 2 H = T.length ∧ lenAt bl 0 H = L.length := by
  obtain ⟨h1, h2, h3, h4, h5, h6⟩ := h
  have hb := h2.1 _ _ h3
  obtain ⟨_, _, _, _, ⟨pt, ct, g5, _⟩, _⟩ := h2
  constructor
  · unfold lenAt; rw [g5]; rfl
  · unfold lenAt; rw [hb]; rfl
theorem app_nil_get {L r : List Nat} {i k : Nat} (h : L[i]? = some k) : (L ++ r)[i]? = some k := by
  rw [List.getElem?_append_left (List.getElem?_eq_some_iff.1 h).1]; exact h
def IS (st : List Nd) (B B0 Bi H : Heap) (a mp bl : Nat) (p : OA) (c : Nat) (bi i : Nat) (T : List Tl) (pl : OA) (cl : Nat) (L : List Nat) (pn : OA) (cn : Nat) (N : List Nat) (pe : Int) (m0 : Nat) : Prop :=
  Ext B B0 ∧ B0 bi = some (.cells #[.int .i64 (i : Nat)] 3 (0, 0)) ∧ SS B0 Bi H a mp bl p st.length c T pl cl L pn cn N ∧ TOk st.length T ∧ LOk T L ∧ LOk T N ∧ m0 + N.length ≤ T.length ∧ -1 ≤ pe ∧ pe < T.length
def II (st : List Nd) (B : Heap) (a mp bl : Nat) (p : OA) (c : Nat) (m0 : Nat) (R : Sum (List UInt8) In) (x6 : Int) (x7 : OA) (l7 c7 : Nat) (x8 : OA) (H : Heap) : Prop :=
  ∃ (i bi : Nat) (B0 Bi : Heap) (T : List Tl) (pl : OA) (cl : Nat) (L N : List Nat) (f : Nat), x8 = some ⟨bi, 0, none⟩ ∧ l7 = N.length ∧ IS st B B0 Bi H a mp bl p c bi i T pl cl L x7 c7 N x6 m0 ∧ innerF st f i ⟨T, L, N, x6⟩ = R ∧ f + i = 4 * st.length + 1
def iμ (n : Nat) (x6 : Int) (x7 : OA) (l7 c7 : Nat) (x8 : OA) (H : Heap) : Nat := 4 * n + 2 - valAt x8 H
theorem adv_c {st : List Nd} {B B0 Bi H : Heap} {a mp bl bx : Nat} {p : OA} {c bi i : Nat} {T : List Tl} {pl : OA} {cl : Nat} {L : List Nat} {pn : OA} {cn : Nat} {N : List Nat} {pe : Int} {m0 f v : Nat} {R : Sum (List UInt8) In} {nx : Int → HP} {Q : QT} {E : ET}
    (h : IS st B B0 Bi H a mp bl p c bi i T pl cl L pn cn N pe m0) (hR : innerF st f (i + 1) ⟨T, L, N, pe⟩ = R) (hf : f + (i + 1) = 4 * st.length + 1) (hst : st.length ≤ 513) (hv : v = i) :
    zql1_8 nx (fun x6' x7' l7' c7' x8' H1 => II st B a mp bl p c m0 R x6' x7' l7' c7' x8' H1 ∧ iμ st.length x6' x7' l7' c7' x8' H1 < 4 * st.length + 2 - v) Q E p st.length c (some ⟨bx, 0, none⟩) (some ⟨bl, 0, none⟩) pe pn N.length cn (some ⟨bi, 0, none⟩) H := by
  obtain ⟨h1, h2, h3, h4, h5, h6, h7, h8, h9⟩ := h
  have hbi : H bi = some (.cells #[.int .i64 (i : Nat)] 3 (0, 0)) := h3.2.1.1 _ _ (h3.1 _ _ h2)
  unfold zql1_8
  simp only [ptr_some]
  refine ldI_at (n := (i : Nat)) hbi rfl ?_
  refine nw_ext fun q H1 hq he1 hc1 => ?_
  refine wr_new hc1 (by simp) rfl (c' := #[.int .i64 (i : Nat)]) rfl fun H2 hc2 hb2 => ?_
  refine ldI_at (n := (i : Nat)) hc2 rfl ?_
  have hw : IntKind.wrap .i64 ((i : Int) + 1) = ((i + 1 : Nat) : Int) := by rw [IntWalk.i64_in _ (by omega)]; omega
  rw [hw]
  refine wr_new hc2 (by simp) rfl (c' := #[.int .i64 ((i + 1 : Nat) : Int)]) rfl fun H3 hc3 hb3 => ?_
  have he3 : Ext H H3 := ext_but (ext_but he1 hq hb2) hq hb3
  obtain ⟨g1, g2⟩ := h3.grow he3
  refine ⟨⟨i + 1, q, _, _, T, pl, cl, L, N, f, rfl, rfl, ⟨h1.trans g2, by rw [beside_free hq]; exact hc3, g1, h4, h5, h6, h7, h8, h9⟩, hR, hf⟩, ?_⟩
  have : valAt (some ⟨q, 0, none⟩) H3 = i + 1 := by
    unfold valAt; simp only [hc3]; rfl
  unfold iμ
  rw [this, hv]; omega
theorem on_i {st : List Nd} {B B0 Bi H : Heap} {a mp bl bx bt : Nat} {p : OA} {c bi i k s : Nat} {T : List Tl} {pl : OA} {cl : Nat} {L : List Nat} {pn : OA} {cn : Nat} {N : List Nat} {pe : Int} {m0 : Nat} {tr : Tl} {eol : Bool} {tx tt : TypeId} {fx ft : Nat × Nat} {Q : QT} {E : ET}
    (h : IS st B B0 Bi H a mp bl p c bi i T pl cl L pn cn N pe m0) (hx : B bx = some (.cells #[.pointer (some ⟨a, 0, none⟩)] tx fx)) (ht : B0 bt = some (.cells tr.cells.toArray tt ft)) (hik : L[i]? = some k) (hst : st.length ≤ 513) (hs : s < st.length)
    (hk : ∀ Bi' H' p' c' r, IS st B B0 Bi' H' a mp bl p c bi i (reachP T L ⟨s, tr.bol, eol, k, -1⟩).1 p' c' (reachP T L ⟨s, tr.bol, eol, k, -1⟩).2 pn cn N pe m0 → (reachP T L ⟨s, tr.bol, eol, k, -1⟩).2 = L ++ r → Q (.tuple #[]) H') :
    Does Pr 65 #[.int .i64 (s : Nat), .bool eol, .pointer (some ⟨bx, 0, none⟩), .pointer (some ⟨bl, 0, none⟩), .pointer (some ⟨bt, 0, none⟩), .pointer (some ⟨bi, 0, none⟩)] H Q E := by
  obtain ⟨h1, h2, h3, h4, h5, h6, h7, h8, h9⟩ := h
  have l1 := h4.len
  have l2 := h5.len
  have hkm := h5.2 k (List.mem_iff_getElem?.2 ⟨i, hik⟩)
  refine son_c (tr := tr) (k := k) (i := i) (s := s) h3 (h1 _ _ hx) ht h2 hik (by omega) (by omega) fun B' H' p' c' h' => ?_
  obtain ⟨f1, f2, ⟨r1, f3⟩, ⟨r, f4⟩, f5⟩ := reachP_facts (t := ⟨s, tr.bol, eol, k, -1⟩) h4 h5 hs ⟨by dsimp only; omega, by dsimp only; omega, by dsimp only; omega⟩
  have hle : T.length ≤ (reachP T L ⟨s, tr.bol, eol, k, -1⟩).1.length := by rw [f3]; simp
  exact hk B' H' p' c' r ⟨h1, h2, h', f1, f2, h6.more hle, by omega, h8, by omega⟩ f4
set_option maxHeartbeats 4000000 in
theorem inner_c {st : List Nd} {B B0 Bi H : Heap} {a mp bl bx : Nat} {p : OA} {c bi i : Nat} {T : List Tl} {pl : OA} {cl : Nat} {L : List Nat} {pn : OA} {cn : Nat} {N : List Nat} {pe : Int} {m0 f : Nat} {R : Sum (List UInt8) In} {nx : Int → HP} {Q : QT} {E : ET} {tx : TypeId} {fx : Nat × Nat}
    (h : IS st B B0 Bi H a mp bl p c bi i T pl cl L pn cn N pe m0) (hR : innerF st f i ⟨T, L, N, pe⟩ = R) (hf : f + i = 4 * st.length + 1) (hN : NV st) (hx : B bx = some (.cells #[.pointer (some ⟨a, 0, none⟩)] tx fx)) (hv : Nds B p st)
    (hi : i < L.length) (hfound : ∀ t, R = .inl t → ∀ H' p' c', Ext B H' → Vec H' 1 p' t.length c' (t.map byteV) → Q (.tuple #[.slice p' t.length c', .bool true]) H') :
    zql1_32 nx (fun x6' x7' l7' c7' x8' H1 => II st B a mp bl p c m0 R x6' x7' l7' c7' x8' H1 ∧ iμ st.length x6' x7' l7' c7' x8' H1 < 4 * st.length + 2 - i) Q E p st.length c (some ⟨bx, 0, none⟩) (some ⟨bl, 0, none⟩) pe pn N.length cn (some ⟨bi, 0, none⟩) H := by
  obtain ⟨n1, n2, hr, hkind⟩ := hN
  have hh := h
  obtain ⟨h1, h2, h3, h4, h5, h6, h7, h8, h9⟩ := hh
  obtain ⟨s1, s2, s3, s4, s5, s6⟩ := id h3
  have hBH := s2.1
  have l1 := h4.len
  have l2 := h5.len
  have l3 := h6.len
  obtain ⟨k, hik⟩ : ∃ k, L[i]? = some k := ⟨_, List.getElem?_eq_getElem hi⟩
  have hkT := h5.2 k (List.mem_iff_getElem?.2 ⟨i, hik⟩)
  have hbi : H bi = some (.cells #[.int .i64 (i : Nat)] 3 (0, 0)) := hBH _ _ (s1 _ _ h2)
  have hbx : H bx = some (.cells #[.pointer (some ⟨a, 0, none⟩)] tx fx) := hBH _ _ (s1 _ _ (h1 _ _ hx))
  have hbl := hBH _ _ s3
  obtain ⟨_, _, _, _, ⟨pt, ct, g5, g6, g7⟩, _, g9, _⟩ := id s2
  have hxt : T[k]? = some (T.getD k default) := by rw [List.getD_eq_getElem?_getD, List.getElem?_eq_getElem hkT]; rfl
  have hLk : L.getD i 0 = k := by rw [List.getD_eq_getElem?_getD, hik]; rfl
  cases f with
  | zero => omega
  | succ f =>
    rw [innerF_step st f hi] at hR
    unfold stepI at hR
    dsimp only at hR
    rw [hLk] at hR
    have htn := h4.2.1 (T.getD k default) (List.mem_iff_getElem?.2 ⟨k, hxt⟩)
    generalize htr : T.getD k default = tr at hxt hR htn
    have hrx := hr _ (List.mem_iff_getElem?.2 ⟨tr.s, getD_some htn⟩)
    have hkx := hkind _ (List.mem_iff_getElem?.2 ⟨tr.s, getD_some htn⟩)
    have hnode := getD_some htn
    generalize st.getD tr.s default = x at hR hrx hkx hnode
    unfold zql1_32
    simp only [ptr_some]
    refine ldP_at hbx rfl ?_
    simp only [ptr_some, add_at, Nat.zero_add]
    refine ldSl_at (p := pt) (l := T.length) (m := ct) g5 rfl ?_
    refine ldSl_at (p := pl) (l := L.length) (m := cl) hbl rfl ?_
    refine ldI_at (n := (i : Nat)) hbi rfl ⟨⟨by omega, by omega⟩, ?_⟩
    obtain ⟨lb, ty, cc, rfl, hlb, hcc⟩ := vec_at1 g9 (n := i) (v := natV k) (by simp [hik])
    simp only [ptr_some, add_at, Int.toNat_natCast, Nat.mul_one, Nat.zero_add]
    refine ldI_at (n := (k : Nat)) hlb hcc ⟨⟨by omega, by omega⟩, ?_⟩
    obtain ⟨tb, ty2, cc2, rfl, htb, hcc2⟩ := vec_at5 g6 hxt
    simp only [ptr_some, add_at, Int.toNat_natCast, Nat.zero_add]
    refine ⟨(tr.s : Nat), tr.bol, tr.eol, tr.fr, tr.b, rd_at htb _ (k * 5) 0 fun j hj => by
      rw [Nat.add_zero, hcc2 j hj]; rfl, ?_⟩
    refine nw_ext fun bt H2 hq2 he2 hc2 => ?_
    refine wr_new hc2 (by simp) rfl (c' := tr.cells.toArray) rfl fun H3 hc3 hb3 => ?_
    have he3 : Ext H H3 := ext_but he2 hq2 hb3
    clear hc2 hb3 he2
    unfold zql1_29
    simp only [ptr_some]
    refine ldI_at (n := (tr.s : Nat)) hc3 rfl ⟨⟨by omega, by omega⟩, ?_⟩
    obtain ⟨pa, rfl, hrd⟩ := (((hv.ext h1).ext (s1.trans hBH)).ext he3) tr.s x hnode
    simp only [ptr_some, Int.toNat_natCast]
    refine ⟨x.k, x.l, x.r, x.a, x.b, x.c, x.d, hrd, ?_⟩
    refine nw_ext fun bs H4 hq4 he4 hc4 => ?_
    refine wr_new hc4 (by simp) rfl (c' := x.cells.toArray) rfl fun H5 hc5 hb5 => ?_
    have he5 : Ext H3 H5 := ext_but he4 hq4 hb5
    clear hc4 hb5 he4
    have hc5 : H5 bs = some (.cells #[.int .i64 x.k, .int .i64 x.l, .int .i64 x.r, .int .u64 x.a, .int .u64 x.b, .int .u64 x.c, .int .u64 x.d] 91 (0, 0)) := hc5
    have heH5 := he3.trans he5
    obtain ⟨q1, q2⟩ := h3.grow heH5
    -- the state with the two new boxes
    have hI : IS st B (beside B0 H H5) (beside Bi H H5) H5 a mp bl (some pa) c bi i T (some ⟨lb, 0, none⟩) cl L pn cn N pe m0 := ⟨h1.trans q2, q2 _ _ h2, q1, h4, h5, h6, h7, h8, h9⟩
    have hbt : (beside B0 H H5) bt = some (.cells tr.cells.toArray 102 (0, 0)) := by rw [beside_free hq2]; exact he5 _ _ hc3
    have hbs : (beside B0 H H5) bs = some (.cells #[.int .i64 x.k, .int .i64 x.l, .int .i64 x.r, .int .u64 x.a, .int .u64 x.b, .int .u64 x.c, .int .u64 x.d] 91 (0, 0)) := by
      rw [beside_free (by cases e : H bs with | none => rfl | some o => rw [he3 _ _ e] at hq4; cases hq4)]; exact hc5
    have hbi5 := heH5 _ _ hbi
    have hbx5 := heH5 _ _ hbx
    have hbl5 := heH5 _ _ hbl
    have hlb5 := heH5 _ _ hlb
    have hbt5 := he5 _ _ hc3
    have hB5 : Ext B H5 := (h1.trans (s1.trans hBH)).trans heH5
    have g55 := heH5 _ _ g5
    generalize beside B0 H H5 = C0 at q1 q2 hI hbt hbs
    generalize beside Bi H H5 = Ci at q1 hI
    unfold zql1_26 zql1_23
    simp only [ptr_some]
    refine ldI_at (n := x.k) hc5 rfl ?_
    unfold zql1_19 zql1_17
    refine sel_beq (fun k5 => ?_) (fun k5 => ?_)
    · rw [if_pos k5] at hR
      unfold zql1_12
      simp only [ptr_some, add_at, Nat.zero_add]
      refine ldB_at (n := tr.eol) hbt5 rfl (sel_not (fun he => ?_) (fun he => ?_))
      · rw [if_pos he] at hR
        refine ldP_at hbx5 rfl ?_
        refine ldSl_at (p := some ⟨lb, 0, none⟩) (l := L.length) (m := cl) hbl5 rfl ?_
        refine ldI_at (n := (i : Nat)) hbi5 rfl ⟨⟨by omega, by omega⟩, ?_⟩
        simp only [ptr_some, add_at, Int.toNat_natCast, Nat.mul_one, Nat.zero_add]
        refine ldI_at (n := (k : Nat)) hlb5 hcc ?_
        refine ntext_c hI.2.2.1.2.1 (by omega) h4.2.2 hkT fun H6 p6 c6 he6 _ hv6 _ => ⟨_, _, _, rfl, ?_⟩
        exact hfound _ hR.symm H6 p6 c6 (hB5.trans he6) hv6
      · rw [if_neg (by rw [he]; simp)] at hR
        unfold zql1_10
        simp only [ptr_some]
        refine ldSl_at (p := some ⟨lb, 0, none⟩) (l := L.length) (m := cl) hbl5 rfl ?_
        refine ldI_at (n := (i : Nat)) hbi5 rfl ⟨⟨by omega, by omega⟩, ?_⟩
        simp only [ptr_some, add_at, Int.toNat_natCast, Nat.mul_one, Nat.zero_add]
        refine ldI_at (n := (k : Nat)) hlb5 hcc ?_
        refine adv_c (pe := if pe < (k : Nat) then (k : Nat) else pe) (f := f) ⟨hI.1, hI.2.1, hI.2.2.1, h4, h5, h6, h7, ?_, ?_⟩ hR (by omega) n2 rfl
        · split <;> omega
        · split <;> omega
    rw [if_neg k5] at hR
    obtain ⟨ol, eol'⟩ : ∃ n : Nat, x.l = (n : Nat) := ⟨x.l.toNat, by omega⟩
    obtain ⟨orr, eor⟩ : ∃ n : Nat, x.r = (n : Nat) := ⟨x.r.toNat, by omega⟩
    have hol : ol < st.length := by omega
    have hor : orr < st.length := by omega
    rw [eol', eor] at hR
    simp only [Int.toNat_natCast] at hR
    unfold zql1_15
    simp only [ptr_some, add_at, Nat.zero_add]
    refine sel_beq (fun k2 => ?_) (fun k2 => ?_)
    · rw [if_pos k2] at hR
      refine ldI_at (n := x.l) hc5 rfl (ldB_at (n := tr.eol) hbt5 rfl ?_)
      rw [eol']
      refine on_i (s := ol) hI hx hbt hik n2 hol fun B6 H6 p6 c6 r6 h6' e6 => ?_
      have hB6 := h6'.2.2.1.2.1.1
      have hx6 := h6'.2.2.1.1.trans hB6
      refine ldI_at (n := x.r) (hx6 _ _ hbs) rfl (ldB_at (n := tr.eol) (hx6 _ _ hbt) rfl ?_)
      rw [eor]
      have hik6 : (reachP T L ⟨ol, tr.bol, tr.eol, k, -1⟩).2[i]? = some k := by rw [e6]; exact app_nil_get hik
      refine on_i (s := orr) h6' hx hbt hik6 n2 hor fun B7 H7 p7 c7 r7 h7' e7 => ?_
      exact adv_c (f := f) h7' hR (by omega) n2 rfl
    rw [if_neg k2] at hR
    refine sel_beq (fun k3 => ?_) (fun k3 => ?_)
    · rw [if_pos k3] at hR
      refine ldB_at (n := tr.bol) hbt5 rfl (sel_mk (fun hb => ?_) (fun hb => ?_))
      · rw [if_pos hb] at hR
        refine ldI_at (n := x.l) hc5 rfl (ldB_at (n := tr.eol) hbt5 rfl ?_)
        rw [eol']
        refine on_i (s := ol) hI hx hbt hik n2 hol fun B6 H6 p6 c6 r6 h6' e6 => ?_
        exact adv_c (f := f) h6' hR (by omega) n2 rfl
      · rw [if_neg (by rw [hb]; simp)] at hR
        exact adv_c (f := f) hI hR (by omega) n2 rfl
    rw [if_neg k3] at hR
    refine sel_beq (fun k4 => ?_) (fun k4 => ?_)
    · rw [if_pos k4] at hR
      refine ldI_at (n := x.l) hc5 rfl ?_
      rw [eol']
      refine on_i (s := ol) hI hx hbt hik n2 hol fun B6 H6 p6 c6 r6 h6' e6 => ?_
      exact adv_c (f := f) h6' hR (by omega) n2 rfl
    rw [if_neg k4] at hR
    refine sel_beq (fun k1 => ?_) (fun k1 => by omega)
    rw [if_pos k1] at hR
    refine ⟨x.a, x.b, x.c, x.d, rd_at hc5 _ 3 0 fun j hj => by
      simp only [List.length_cons, List.length_nil] at hj
      match j, hj with
      | 0, _ => rfl
      | 1, _ => rfl
      | 2, _ => rfl
      | 3, _ => rfl, ?_⟩
    refine ldB_at (n := tr.eol) hbt5 rfl ?_
    have hpl := pickOf_le x.set tr.eol
    refine pick_c (s := x.set) fun H6 he6 => ⟨_, rfl, ?_⟩
    generalize pickOf x.set tr.eol = b at hR hpl
    refine sel_dec (fun hb => ?_) (fun hb => ?_)
    · rw [if_pos hb] at hR
      obtain ⟨w1, w2⟩ := hI.2.2.1.grow he6
      have hI6 : IS st B (beside C0 H5 H6) (beside Ci H5 H6) H6 a mp bl (some pa) c bi i T (some ⟨lb, 0, none⟩) cl L pn cn N pe m0 := ⟨hI.1.trans w2, w2 _ _ hI.2.1, w1, h4, h5, h6, h7, h8, h9⟩
      refine ldP_at (he6 _ _ hbx5) rfl ?_
      refine ldI_at (n := x.l) (he6 _ _ hc5) rfl ?_
      rw [eol']
      refine ldSl_at (p := some ⟨lb, 0, none⟩) (l := L.length) (m := cl) (he6 _ _ hbl5) rfl ?_
      refine ldI_at (n := (i : Nat)) (he6 _ _ hbi5) rfl ⟨⟨by omega, by omega⟩, ?_⟩
      simp only [ptr_some, add_at, Int.toNat_natCast, Nat.mul_one, Nat.zero_add]
      refine ldI_at (n := (k : Nat)) (he6 _ _ hlb5) hcc ?_
      refine snext_c (t := ⟨ol, b == 10, false, k, b⟩) w1 (by omega) (by omega) fun B7 H7 p7 c7 h7' => ⟨_, _, _, rfl, ?_⟩
      obtain ⟨f1, f2, ⟨r1, f3⟩, ⟨r, f4⟩, f5⟩ := reachP_facts (t := ⟨ol, b == 10, false, k, b⟩) h4 h6 hol ⟨by dsimp only; omega, by dsimp only; omega, by dsimp only; omega⟩
      have hle : T.length ≤ (reachP T N ⟨ol, b == 10, false, k, b⟩).1.length := by rw [f3]; simp
      exact adv_c (f := f) ⟨hI6.1, hI6.2.1, h7', f1, h5.more hle, f2, by omega, h8, by omega⟩ hR (by omega) n2 rfl
    · rw [if_neg hb] at hR
      obtain ⟨w1, w2⟩ := hI.2.2.1.grow he6
      exact adv_c (f := f) ⟨hI.1.trans w2, w2 _ _ hI.2.1, w1, h4, h5, h6, h7, h8, h9⟩ hR (by omega) n2 rfl
end Go.Proofs.Ytaffcoiomggpfaa
