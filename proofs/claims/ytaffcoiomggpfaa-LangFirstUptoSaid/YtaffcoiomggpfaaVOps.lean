/- The nice forms of operations are sound. -/
import Derived.Test.YtaffcoiomggpfaaVCode
namespace Go.V
set_option linter.constructorNameAsVariable false
set_option linter.unusedVariables false
variable {P : Program}

theorem vp_bind' {α β : Type} {s : Sem α} {f : α → Sem β} {Q : β → Heap → Prop} {E : Value → Heap → Prop} {H : Heap}
    (h : vp P s (fun a H => vp P (f a) Q E H) E H) : vp P (s >>= f) Q E H := vp_bind s f h
theorem vp_und {α : Type} {t : TypeId} {f : TypeDesc → Sem α} {d : TypeDesc} {Q : α → Heap → Prop} {E : Value → Heap → Prop} {H : Heap}
    (hd : P.underlying t = some d) (h : vp P (f d) Q E H) : vp P (underlying t >>= f) Q E H := by
  refine vp_bind' ?_
  show vp P (match P.underlying t with | some d => pure d | none => stuck "no such type") _ _ _
  rw [hd]; exact h
theorem vp_info {α : Type} {t : TypeId} {f : TypeInfo → Sem α} {d : TypeInfo} {Q : α → Heap → Prop} {E : Value → Heap → Prop} {H : Heap}
    (hd : P.info? t = some d) (h : vp P (f d) Q E H) : vp P (typeInfo t >>= f) Q E H := by
  refine vp_bind' ?_
  show vp P (match P.info? t with | some d => pure d | none => stuck "no such type") _ _ _
  rw [hd]; exact h
theorem vp_size {α : Type} {t : TypeId} {f : Nat → Sem α} {d : TypeInfo} {Q : α → Heap → Prop} {E : Value → Heap → Prop} {H : Heap}
    (hd : P.info? t = some d) (h : vp P (f d.size) Q E H) : vp P (sizeOf t >>= f) Q E H := by
  refine vp_bind' ?_
  exact vp_info hd h
theorem vp_zero {α : Type} {t : TypeId} {f : Value → Sem α} {d : TypeInfo} {z : Value} {Q : α → Heap → Prop} {E : Value → Heap → Prop} {H : Heap}
    (hd : P.info? t = some d) (hz : d.zero = some z) (h : vp P (f z) Q E H) : vp P (zeroValue t >>= f) Q E H := by
  refine vp_bind' ?_
  refine vp_info hd ?_
  rw [hz]; exact h
theorem vp_isAgg {α : Type} {t : TypeId} {f : Bool → Sem α} {d : TypeDesc} {Q : α → Heap → Prop} {E : Value → Heap → Prop} {H : Heap}
    (hd : P.underlying t = some d) (h : vp P (f (aggD d)) Q E H) : vp P (isAgg t >>= f) Q E H := by
  refine vp_bind' ?_
  refine vp_und hd ?_
  cases d <;> exact h
theorem vp_load {α : Type} {a : Addr} {f : Value → Sem α} {v : Value} {Q : α → Heap → Prop} {E : Value → Heap → Prop} {H : Heap}
    (hv : H.cell? a = some v) (h : vp P (f v) Q E H) : vp P (load a >>= f) Q E H := by
  refine vp_bind' ?_
  unfold load
  simp only [vp, hv]; exact h
theorem bind_assoc {α β γ : Type} (s : Sem α) (f : α → Sem β) (g : β → Sem γ) : (s >>= f) >>= g = s >>= fun a => f a >>= g := by
  show (s.bind f).bind g = s.bind fun a => (f a).bind g
  induction s <;> simp [Sem.bind, *]
theorem bind_pure_ {α : Type} (s : Sem α) : (s >>= pure) = s := by
  show s.bind Sem.pure = s
  induction s <;> simp [Sem.bind, *]
theorem vp_loadCellsFrom {α : Type} {a : Addr} {Q : α → Heap → Prop} {E : Value → Heap → Prop} {H : Heap} {f : Array Value → Sem α} :
    ∀ (vs : List Value) (i : Nat) (acc : Array Value), H.rd a i vs → vp P (f (acc ++ vs.toArray)) Q E H → vp P (loadCellsFrom a i vs.length acc >>= f) Q E H
  | [], i, acc, _, h => by simp only [List.length_nil, loadCellsFrom]; refine vp_bind' ?_; show vp P (f acc) Q E H; simpa using h
  | v :: vs, i, acc, hr, h => by
    simp only [List.length_cons, loadCellsFrom, bind_assoc]
    refine vp_load hr.1 ?_
    refine vp_loadCellsFrom vs (i + 1) (acc.push v) hr.2 ?_
    simpa using h
theorem vp_loadCells {α : Type} {a : Addr} {Q : α → Heap → Prop} {E : Value → Heap → Prop} {H : Heap} {f : Array Value → Sem α} {vs : List Value} {n : Nat}
    (hn : vs.length = n) (hr : H.rd a 0 vs) (h : vp P (f vs.toArray) Q E H) : vp P (loadCells a n >>= f) Q E H := by
  subst hn; exact vp_loadCellsFrom vs 0 #[] hr (by simpa using h)
theorem pure_of_bind {α : Type} {s : Sem α} {Q : α → Heap → Prop} {E : Value → Heap → Prop} {H : Heap} (h : vp P (s >>= pure) Q E H) : vp P s Q E H := by
  rwa [bind_pure_] at h

theorem tyD_elim {t : TypeId} {K : TypeDesc → Prop} (h : tyD P t K) : ∃ d, P.underlying t = some d ∧ K d := by
  unfold tyD at h; split at h
  · exact ⟨_, by assumption, h⟩
  · exact h.elim
theorem tyI_elim {t : TypeId} {K : TypeInfo → Prop} (h : tyI P t K) : ∃ d, P.info? t = some d ∧ K d := by
  unfold tyI at h; split at h
  · exact ⟨_, by assumption, h⟩
  · exact h.elim
theorem tyZ_elim {t : TypeId} {K : List Value → Prop} (h : tyZ P t K) : ∃ d z, P.info? t = some d ∧ d.zero = some z ∧ z.cells.size = d.size ∧ K z.cells.toList := by
  replace h := tyI_elim h; obtain ⟨d, hd, h⟩ := h
  split at h
  · rename_i z hz
    split at h
    · rename_i hb; exact ⟨d, z, hd, hz, Nat.eq_of_beq_eq_true hb, h⟩
    · exact h.elim
  · exact h.elim
theorem ptr_elim {p : Option Addr} {K : Addr → Prop} (h : ptr p K) : ∃ a, p = some a ∧ K a := by
  cases p with
  | none => exact h.elim
  | some a => exact ⟨a, rfl, h⟩
theorem exS_elim {s : Shp} {K : Value → Prop} (h : exS s K) : ∃ v, K v := by
  cases s <;> simp only [exS] at h
  case sl => obtain ⟨p, n, c, h⟩ := h; exact ⟨_, h⟩
  all_goals (obtain ⟨x, h⟩ := h; exact ⟨_, h⟩)
theorem exL_elim : ∀ {l : List Shp} {K : List Value → Prop}, exL l K → ∃ vs, vs.length = l.length ∧ K vs
  | [], K, h => ⟨[], rfl, h⟩
  | s :: l, K, h => by
    replace h := exS_elim h; obtain ⟨v, h⟩ := h
    replace h := exL_elim h; obtain ⟨vs, hl, h⟩ := h
    exact ⟨v :: vs, by simp [hl], h⟩

/-- The value of an operation, handed on. -/
theorem vp_v {s : Sem Value} {K : Value → Heap → Prop} {E : Chain → Heap → Prop} {H : Heap} (h : vp P s K (raise E) H) :
    vp P (do pure (Next.value (← s))) (nxt P K E) (raise E) H := vp_bind' h
theorem vp_u {s : Sem Unit} {K : Value → Heap → Prop} {E : Chain → Heap → Prop} {H : Heap} (h : vp P s (fun _ H => K undef H) (raise E) H) :
    vp P (do s; pure Next.skip) (nxt P K E) (raise E) H := vp_bind' h

theorem loadVar_vp {t : TypeId} {ad : Addr} {K : Value → Heap → Prop} {E : Value → Heap → Prop} {H : Heap} (h : nLoad P t (.pointer (some ad)) K H) :
    vp P (loadVar t ad) K E H := by
  unfold loadVar
  replace h := tyD_elim h; obtain ⟨d, hd, h⟩ := h
  refine vp_isAgg hd ?_
  cases hg : aggD d with
  | true =>
    simp only [hg] at h
    replace h := tyI_elim h; obtain ⟨i, hi, h⟩ := h
    split at h
    · rename_i hb
      replace h := exL_elim h; obtain ⟨vs, hl, hr, h⟩ := h
      refine vp_size hi ?_
      simp only [Bool.and_eq_true] at hb
      refine vp_loadCells (hl.trans (Nat.eq_of_beq_eq_true hb.1)) hr ?_
      exact h
    · exact h.elim
  | false =>
    simp only [hg] at h
    replace h := exS_elim h; obtain ⟨v, hv, h⟩ := h
    refine pure_of_bind (vp_load hv ?_)
    exact h
theorem nLoad_vp {t : TypeId} {a : Value} {K : Value → Heap → Prop} {E : Value → Heap → Prop} {H : Heap} (h : nLoad P t a K H) : vp P (Instr.loadAt t a) K E H := by
  cases a <;> simp only [nLoad] at h
  case pointer p =>
    cases p with
    | none => exact h.elim
    | some ad => exact vp_bind' (loadVar_vp (ad := ad) h)

theorem add_off (a : Addr) (ha : a.spot = none) (i : Nat) : a.add i = ⟨a.block, a.off + i, none⟩ := by
  unfold Addr.add; split
  · subst_vars; cases a; simp_all
  · cases a; rfl
theorem over_size (c : Array Value) : ∀ (o : Nat) (vs : List Value), (over c o vs).size = c.size
  | _, [] => rfl
  | o, v :: vs => by simp [over, over_size]
theorem storeCells_vp {a : Addr} {E : Value → Heap → Prop} : ∀ (vs : List Value) (i : Nat) (c : Array Value) (t : TypeId) (fr : Nat × Nat) (H : Heap) {K : Unit → Heap → Prop},
    H a.block = some (.cells c t fr) → a.spot = none → a.off + i + vs.length ≤ c.size → (a.off + i + vs.length ≤ fr.1 ∨ fr.2 ≤ a.off + i) → vs.all oneC = true →
    K () (H.set a.block (.cells (over c (a.off + i) vs) t fr)) → vp P (storeCells a vs i) K E H
  | [], i, c, t, fr, H, K, hb, ha, hl, hf, ho, h => by
    have : H.set a.block (.cells (over c (a.off + i) []) t fr) = H := by
      funext j; simp only [Heap.set, over]; split
      · subst_vars; exact hb.symm
      · rfl
    rw [this] at h; exact h
  | v :: vs, i, c, t, fr, H, K, hb, ha, hl, hf, ho, h => by
    simp only [List.all_cons, Bool.and_eq_true, List.length_cons] at ho hl hf
    unfold storeCells
    refine vp_bind' ?_
    show oneC v = true ∧ (a.add i).spot = none ∧ _
    rw [add_off a ha i]
    refine ⟨ho.1, rfl, ?_⟩
    simp only [hb]
    refine ⟨by omega, by omega, ?_⟩
    show vp P (storeCells a vs (i + 1)) K E _
    refine storeCells_vp vs (i + 1) (c.setIfInBounds (a.off + i) v) t fr _ (Heap.set_self _ _ _) ha (by simp; omega) (by omega) ho.2 ?_
    rw [Heap.set_set]; exact h
theorem wr_vp {a : Addr} {vs : List Value} {E : Value → Heap → Prop} {H : Heap} {K : Unit → Heap → Prop} (h : wr a vs H fun H => K () H) : vp P (storeCells a vs) K E H := by
  obtain ⟨c, t, fr, hb, ha, hl, hf, ho, h⟩ := h
  exact storeCells_vp vs 0 c t fr H hb ha (by simpa using hl) (by simpa using hf) ho (by simpa using h)
theorem nStore_vp {t : TypeId} {a x : Value} {K : Value → Heap → Prop} {E : Value → Heap → Prop} {H : Heap} (h : nStore P t a x K H) :
    vp P (Instr.storeAt t a x) (fun _ H => K undef H) E H := by
  cases a <;> simp only [nStore] at h
  case pointer p =>
    replace h := ptr_elim h; obtain ⟨ad, rfl, h⟩ := h
    replace h := tyI_elim h; obtain ⟨i, hi, h⟩ := h
    split at h
    · rename_i hb
      refine vp_bind' ?_
      show vp P (storeVar t ad x) _ _ _
      unfold storeVar
      refine vp_size hi ?_
      rw [if_neg (by simpa using Nat.eq_of_beq_eq_true hb)]
      exact wr_vp h
    · exact h.elim
theorem nBox_vp {t : TypeId} {x : Value} {K : Value → Heap → Prop} {E : Value → Heap → Prop} {H : Heap} (h : nBox t x K H) : vp P (Instr.box t x) K E H :=
  fun id hid => h id hid
theorem nAlloc_vp {t : TypeId} {K : Value → Heap → Prop} {E : Value → Heap → Prop} {H : Heap} {old : Value} (h : nAlloc P t K H) : vp P (Instr.alloc t true old) K E H := by
  replace h := tyI_elim h; obtain ⟨i, hi, h⟩ := h
  split at h
  · rename_i z hz
    unfold Instr.alloc
    exact vp_zero hi hz fun id hid => h id hid
  · exact h.elim
theorem nFieldAddr_vp {s : TypeId} {x : Value} {f : Nat} {K : Value → Heap → Prop} {E : Value → Heap → Prop} {H : Heap} (h : nFieldAddr P s x f K H) : vp P (Instr.fieldAt s x f) K E H := by
  cases x <;> simp only [nFieldAddr] at h
  case pointer p =>
    replace h := ptr_elim h; obtain ⟨ad, rfl, h⟩ := h
    replace h := tyD_elim h; obtain ⟨d, hd, h⟩ := h
    split at h
    · rename_i fs
      split at h
      · rename_i fd hfd
        replace h := tyI_elim h; obtain ⟨i, hi, h⟩ := h
        split at h
        · rename_i hb
          unfold Instr.fieldAt
          refine vp_und hd ?_
          simp only [hfd]
          refine vp_bind' ?_
          show vp P (fieldPlace ad fd >>= _) _ _ _
          unfold fieldPlace
          refine vp_bind' (vp_size hi ?_)
          rw [if_neg (by intro h0; rw [h0] at hb; cases hb)]
          exact h
        · exact h.elim
      · exact h.elim
    · exact h.elim
theorem nIndexAddr_vp {t : TypeId} {x i : Value} {K : Value → Heap → Prop} {E : Value → Heap → Prop} {H : Heap} (h : nIndexAddr P t x i K H) : vp P (Instr.indexAt t x i) K E H := by
  cases i <;> simp only [nIndexAddr] at h
  case int k n =>
    replace h := tyD_elim h; obtain ⟨d, hd, h⟩ := h
    unfold Instr.indexAt
    refine vp_bind' ?_
    show vp P (_ >>= _) _ _ _
    refine vp_und hd ?_
    split at h
    · rename_i len e p
      replace h := tyI_elim h; obtain ⟨ie, hie, h⟩ := h
      replace h := ptr_elim h; obtain ⟨ad, rfl, h⟩ := h
      show vp P (underlying t >>= _) _ _ _
      refine vp_und hd ?_
      show vp P (if _ then _ else _) _ _ _
      rw [if_pos h.1]
      refine vp_size hie ?_
      exact h.2
    · rename_i e p len c
      replace h := tyI_elim h; obtain ⟨ie, hie, h⟩ := h
      obtain ⟨hb, h⟩ := h
      replace h := ptr_elim h; obtain ⟨ad, rfl, h⟩ := h
      show vp P (underlying t >>= _) _ _ _
      refine vp_und hd ?_
      show vp P (if _ then _ else _) _ _ _
      rw [if_pos hb]
      refine vp_size hie ?_
      exact h
    · exact h.elim
theorem part_vp {t : TypeId} {cs : Array Value} {o : Nat} {v : Value} {K : Value → Heap → Prop} {E : Value → Heap → Prop} {H : Heap} {d : TypeDesc}
    (hd : P.underlying t = some d) (hg : aggD d = false) (hv : cs[o]? = some v) (h : K v H) : vp P (part t cs o) K E H := by
  unfold part
  refine vp_isAgg hd ?_
  simp only [hg, hv]; exact h
theorem partAgg_vp {t : TypeId} {cs : Array Value} {o : Nat} {K : Value → Heap → Prop} {E : Value → Heap → Prop} {H : Heap} {d : TypeDesc} {i : TypeInfo}
    (hd : P.underlying t = some d) (hi : P.info? t = some i) (hg : aggD d = true) (h : K (.agg ((cs.toList.drop o).take i.size).toArray) H) : vp P (part t cs o) K E H := by
  unfold part
  refine vp_isAgg hd ?_
  simp only [hg, if_true]
  refine vp_size hi ?_
  have : cs.extract o (o + i.size) = ((cs.toList.drop o).take i.size).toArray := by
    apply Array.ext'
    simp [List.extract_eq_take_drop]
  rw [this]; exact h
theorem nIndex_vp {t : TypeId} {x i : Value} {K : Value → Heap → Prop} {E : Value → Heap → Prop} {H : Heap} (h : nIndex P t x i K H) : vp P (Instr.index t x i) K E H := by
  cases i <;> simp only [nIndex] at h
  case int k n =>
    replace h := tyD_elim h; obtain ⟨d, hd, h⟩ := h
    unfold Instr.index
    refine vp_bind' ?_
    show vp P (_ >>= _) _ _ _
    refine vp_und hd ?_
    split at h
    · rename_i len e cs
      replace h := tyI_elim h; obtain ⟨ie, hie, h⟩ := h
      replace h := tyD_elim h; obtain ⟨de, hde, h⟩ := h
      split at h
      · exact h.elim
      · rename_i hg
        obtain ⟨hb, h⟩ := h
        replace h := exS_elim h; obtain ⟨v, hv, h⟩ := h
        show vp P (if _ then _ else _) _ _ _
        rw [if_pos hb]
        refine vp_size hie ?_
        exact part_vp hde hg (by simpa using hv) h
    · rename_i s
      obtain ⟨hb, h⟩ := h
      have hlt : n.toNat < s.size := by omega
      have hs : (if 0 ≤ n then s[n.toNat]? else none) = some s[n.toNat] := by rw [if_pos hb.1, getElem?_pos s n.toNat hlt]
      simp only [hs]
      have : sAt s n = (s[n.toNat].toNat : Int) := by
        unfold sAt
        have hl' : n.toNat < s.data.size := hlt
        rw [show s.data.getD n.toNat 0 = s.data[n.toNat] from by rw [Array.getD_eq_getD_getElem?, Array.getElem?_eq_getElem hl']; rfl]
        rfl
      rw [this] at h; exact h
    · exact h.elim
theorem nField_vp {t : TypeId} {x : Value} {f : Nat} {K : Value → Heap → Prop} {E : Value → Heap → Prop} {H : Heap} (h : nField P t x f K H) : vp P (Instr.field t x f) K E H := by
  cases x <;> simp only [nField] at h
  case agg cs =>
    replace h := tyD_elim h; obtain ⟨d, hd, h⟩ := h
    split at h
    · split at h
      · rename_i fd hfd
        replace h := tyD_elim h; obtain ⟨df, hdf, h⟩ := h
        unfold Instr.field
        refine vp_und hd ?_
        simp only [hfd]
        refine vp_bind' ?_
        show vp P (part _ _ _) _ _ _
        split at h
        · rename_i hg
          replace h := tyI_elim h; obtain ⟨i, hi, h⟩ := h
          exact partAgg_vp hdf hi hg h
        · rename_i hg
          split at h
          · rename_i v hv
            exact part_vp hdf hg (by simpa using hv) h
          · exact h.elim
      · exact h.elim
    · exact h.elim
end Go.V
