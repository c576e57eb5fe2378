import Derived.Test.YtombjgnlpdnclaaVOps
import Derived.Laws.StructEq
/- '==' on flat structs and arrays. -/
namespace Go.V
set_option linter.constructorNameAsVariable false
set_option linter.unusedVariables false
set_option linter.unusedSimpArgs false
variable {P : Program}

def det {α : Type} (P : Program) : Sem α → Option α
  | .pure a => some a
  | .program k => det P (k P)
  | .mark _ k => det P k
  | _ => none
theorem det_vp {α : Type} {s : Sem α} {a : α} {Q : α → Heap → Prop} {E : Value → Heap → Prop} {H : Heap} (h : det P s = some a) (hq : Q a H) : vp P s Q E H := by
  induction s with
  | pure b => simp only [det, Option.some.injEq] at h; subst h; exact hq
  | program k ih => exact ih P h
  | mark m k ih => exact ih h
  | _ => simp [det] at h
theorem det_bind {α β : Type} (s : Sem α) (f : α → Sem β) : det P (s >>= f) = (det P s).bind fun a => det P (f a) := by
  show det P (s.bind f) = _
  induction s with
  | pure b => rfl
  | program k ih => exact ih P
  | mark m k ih => exact ih
  | _ => rfl
theorem det_pure {α : Type} (a : α) : det P (pure a) = some a := rfl
theorem det_und (t : TypeId) : det P (underlying t) = P.underlying t := by
  show det P (match P.underlying t with | some d => pure d | none => stuck "no such type") = _
  cases P.underlying t <;> rfl
theorem det_info (t : TypeId) : det P (typeInfo t) = P.info? t := by
  show det P (match P.info? t with | some d => pure d | none => stuck "no such type") = _
  cases P.info? t <;> rfl
theorem det_isAgg {t : TypeId} {d : TypeDesc} (hd : P.underlying t = some d) : det P (isAgg t) = some (aggD d) := by
  unfold isAgg
  rw [det_bind, det_und, hd]
  cases d <;> rfl
theorem det_part {t : TypeId} {d : TypeDesc} {i : TypeInfo} (hd : P.underlying t = some d) (hi : P.info? t = some i) (cs : Array Value) (o : Nat) :
    det P (part t cs o) = match aggD d with
      | true => some (.agg ((cs.toList.drop o).take i.size).toArray)
      | false => cs[o]? := by
  unfold part sizeOf
  rw [det_bind, det_isAgg hd]
  have e : cs.extract o (o + i.size) = ((cs.toList.drop o).take i.size).toArray := by
    apply Array.ext'
    simp [List.extract_eq_take_drop]
  cases hg : aggD d
  · simp only [Option.bind_some, Bool.false_eq_true, if_false]
    cases cs[o]? <;> rfl
  · simp only [Option.bind_some, if_true, det_bind, det_info, hi, det_pure]
    rw [e]

theorem eqVs_append : ∀ (a b c d : List Value), a.length = b.length → eqVs (a ++ c) (b ++ d) = (eqVs a b && eqVs c d)
  | [], [], c, d, _ => by simp [eqVs]
  | x :: a, y :: b, c, d, h => by
    simp only [List.cons_append, eqVs]
    rw [eqVs_append a b c d (by simpa using h), Bool.and_assoc]
theorem conf_length : ∀ (l : List Shp) (vs : List Value), confB l vs = true → vs.length = l.length
  | [], [], _ => rfl
  | .i k :: l, .int k' n :: vs, h => by simp only [confB, Bool.and_eq_true] at h; simp [conf_length l vs h.2]
  | .b :: l, .bool b :: vs, h => by simp [conf_length l vs h]
  | .s :: l, .string s :: vs, h => by simp [conf_length l vs h]
theorem conf_append : ∀ (l m : List Shp) (vs : List Value), confB (l ++ m) vs = true → confB l (vs.take l.length) = true ∧ confB m (vs.drop l.length) = true
  | [], m, vs, h => by simp [confB]; exact h
  | .i k :: l, m, .int k' n :: vs, h => by
    simp only [List.cons_append, confB, Bool.and_eq_true, List.length_cons, List.take_succ_cons, List.drop_succ_cons] at *
    have := conf_append l m vs h.2
    exact ⟨⟨h.1, this.1⟩, this.2⟩
  | .b :: l, m, .bool b :: vs, h => by
    simp only [List.cons_append, confB, List.length_cons, List.take_succ_cons, List.drop_succ_cons] at *
    exact conf_append l m vs h
  | .s :: l, m, .string b :: vs, h => by
    simp only [List.cons_append, confB, List.length_cons, List.take_succ_cons, List.drop_succ_cons] at *
    exact conf_append l m vs h
def wrapV (P : Program) (t : TypeId) (vs : List Value) : Value := match aggD (und P t) with
  | true => .agg vs.toArray
  | false => vs.headD undef
theorem det_fields {d : Nat} {xs ys : List Value} (n : Nat) (hrec : ∀ (t : TypeId) (as bs : List Value), flatB P n t = true → confB (leafs P n t) as = true → confB (leafs P n t) bs = true →
      det P (Op.equalIn d t (wrapV P t as) (wrapV P t bs)) = some (eqVs as bs)) :
    ∀ (fs : List Field) (o : Nat), offsB P (leafs P n) o fs = true → (fs.all fun f => !(f.name == "_") && flatB P n f.type) = true →
      confB (fs.flatMap fun f => leafs P n f.type) (xs.drop o) = true → confB (fs.flatMap fun f => leafs P n f.type) (ys.drop o) = true →
      det P (Op.eqFields d xs.toArray ys.toArray fs) = some (eqVs (xs.drop o) (ys.drop o))
  | [], o, h1, h2, h3, h4 => by
    have e1 := List.eq_nil_of_length_eq_zero (conf_length _ _ h3)
    have e2 := List.eq_nil_of_length_eq_zero (conf_length _ _ h4)
    simp only [List.flatMap_nil] at h3 h4
    rw [e1, e2]; rfl
  | f :: fs, o, h1, h2, h3, h4 => by
    simp only [offsB, Bool.and_eq_true] at h1
    obtain ⟨ho, h1⟩ := h1
    have ho := Nat.eq_of_beq_eq_true ho
    simp only [List.all_cons, Bool.and_eq_true] at h2
    obtain ⟨⟨hn, hf⟩, h2⟩ := h2
    cases hi : P.info? f.type with
    | none => rw [hi] at h1; simp at h1
    | some i =>
      rw [hi] at h1
      simp only [Bool.and_eq_true] at h1
      have hl := Nat.eq_of_beq_eq_true h1.1
      simp only [List.flatMap_cons] at h3 h4
      obtain ⟨a1, a2⟩ := conf_append _ _ _ h3
      obtain ⟨b1, b2⟩ := conf_append _ _ _ h4
      rw [List.drop_drop] at a2 b2
      rw [hl] at a1 a2 b1 b2
      have ih := det_fields n hrec fs (o + i.size) h1.2 h2 a2 b2
      have hname : f.name ≠ "_" := by simpa using hn
      unfold Op.eqFields
      rw [if_pos hname]
      have hpart : ∀ (zs : List Value), confB (leafs P n f.type) ((zs.drop o).take i.size) = true → det P (part f.type zs.toArray f.offset) = some (wrapV P f.type ((zs.drop o).take i.size)) := by
        intro zs hz
        cases hd : P.underlying f.type with
        | none => cases n with
          | zero => simp [flatB] at hf
          | succ n => simp [flatB, hd] at hf
        | some dd =>
          rw [det_part hd hi, ho]
          unfold wrapV und
          rw [hd]
          simp only [Option.getD_some]
          cases hg : aggD dd
          · simp only []
            have hlen := conf_length _ _ hz
            have h1' : (leafs P n f.type).length = 1 := by
              cases n with
              | zero => simp [flatB] at hf
              | succ n =>
                simp only [leafs, und, hd, Option.getD_some]
                cases dd <;> first | rfl | cases hg
            rw [h1'] at hlen
            rw [List.getElem?_toArray]
            cases hz2 : zs.drop o with
            | nil => rw [hz2] at hlen; simp at hlen
            | cons z l =>
              have : zs[o]? = some z := by
                have := congrArg List.head? hz2
                rw [List.head?_drop] at this; exact this
              rw [this]
              cases hs : i.size with
              | zero => rw [hs] at hlen; simp at hlen
              | succ k => simp
          · simp only [List.toList_toArray]
      rw [det_bind, hpart xs a1]
      simp only [Option.bind_some]
      rw [det_bind, hpart ys b1]
      simp only [Option.bind_some]
      rw [det_bind, hrec f.type _ _ hf a1 b1]
      simp only [Option.bind_some]
      have hx : xs.drop o = (xs.drop o).take i.size ++ xs.drop (o + i.size) := by rw [← List.drop_drop]; exact (List.take_append_drop _ _).symm
      have hy : ys.drop o = (ys.drop o).take i.size ++ ys.drop (o + i.size) := by rw [← List.drop_drop]; exact (List.take_append_drop _ _).symm
      have hsplit : eqVs (xs.drop o) (ys.drop o) = (eqVs ((xs.drop o).take i.size) ((ys.drop o).take i.size) && eqVs (xs.drop (o + i.size)) (ys.drop (o + i.size))) := by
        conv => lhs; rw [hx, hy]
        exact eqVs_append _ _ _ _ ((conf_length _ _ a1).trans (conf_length _ _ b1).symm)
      rw [hsplit]
      cases eqVs ((xs.drop o).take i.size) ((ys.drop o).take i.size)
      · rfl
      · simpa using ih
theorem det_struct (d : Nat) (t : TypeId) (fs : Array Field) (xs ys : Array Value) (ht : P.underlying t = some (.struct fs)) (hp : P.stoodInHeld t = false) :
    det P (Op.equalIn (d + 1) t (.agg xs) (.agg ys)) = det P (Op.eqFields d xs ys fs.toList) := by
  simp only [Op.equalIn]
  rw [det_bind, det_und, ht]
  simp only [Option.bind_some]
  rw [det_bind]
  show ((some P).bind _) = _
  simp only [Option.bind_some, hp, Bool.false_eq_true, if_false]
  rw [← Array.forIn_toList]
  generalize fs.toList = l
  clear ht
  rw [det_bind]
  induction l with
  | nil => rfl
  | cons f l ih =>
    simp only [List.forIn_cons, Op.eqFields]
    by_cases hn : f.name = "_"
    · simp only [hn, ne_eq, not_true, if_false, pure_bind] at ih ⊢
      exact ih
    · simp only [ne_eq, hn, not_false_eq_true, if_true, bind_assoc]
      simp only [det_bind, Option.bind_assoc]
      cases det P (part f.type xs f.offset) with
      | none => rfl
      | some a =>
        simp only [Option.bind_some]
        cases det P (part f.type ys f.offset) with
        | none => rfl
        | some b =>
          simp only [Option.bind_some]
          cases det P (Op.equalIn d f.type a b) with
          | none => rfl
          | some r =>
            cases r
            · rfl
            · simp only [Option.bind_some, Bool.not_true, Bool.false_eq_true, if_false, if_true, pure_bind]
              exact ih
theorem part_flat {n : Nat} {t : TypeId} {i : TypeInfo} {zs : List Value} {o : Nat} (hf : flatB P n t = true) (hi : P.info? t = some i) (hl : (leafs P n t).length = i.size)
    (hz : confB (leafs P n t) ((zs.drop o).take i.size) = true) : det P (part t zs.toArray o) = some (wrapV P t ((zs.drop o).take i.size)) := by
  cases hd : P.underlying t with
  | none => cases n with
    | zero => simp [flatB] at hf
    | succ n => simp [flatB, hd] at hf
  | some dd =>
    rw [det_part hd hi]
    unfold wrapV und
    rw [hd]
    simp only [Option.getD_some]
    cases hg : aggD dd
    · simp only []
      have hlen := conf_length _ _ hz
      have h1' : (leafs P n t).length = 1 := by
        cases n with
        | zero => simp [flatB] at hf
        | succ n =>
          simp only [leafs, und, hd, Option.getD_some]
          cases dd <;> first | rfl | cases hg
      rw [h1'] at hlen
      rw [List.getElem?_toArray]
      cases hz2 : zs.drop o with
      | nil => rw [hz2] at hlen; simp at hlen
      | cons z l =>
        have : zs[o]? = some z := by
          have := congrArg List.head? hz2
          rw [List.head?_drop] at this; exact this
        rw [this]
        cases hs : i.size with
        | zero => rw [hs] at hlen; simp at hlen
        | succ k => simp
    · rfl
theorem det_array (d n : Nat) (t e : TypeId) (len : Nat) (i : TypeInfo) (xs ys : List Value) (ht : P.underlying t = some (.array len e)) (hi : P.info? e = some i)
    (hf : flatB P n e = true) (hl : (leafs P n e).length = i.size)
    (hrec : ∀ (as bs : List Value), confB (leafs P n e) as = true → confB (leafs P n e) bs = true → det P (Op.equalIn d e (wrapV P e as) (wrapV P e bs)) = some (eqVs as bs))
    (hx : confB (rep len (leafs P n e)) xs = true) (hy : confB (rep len (leafs P n e)) ys = true) :
    det P (Op.equalIn (d + 1) t (.agg xs.toArray) (.agg ys.toArray)) = some (eqVs xs ys) := by
  simp only [Op.equalIn]
  rw [det_bind, det_und, ht]
  simp only [Option.bind_some]
  rw [det_bind]
  have hsz : det P (sizeOf e) = some i.size := by
    unfold sizeOf; rw [det_bind, det_info, hi]; rfl
  rw [hsz]
  simp only [Option.bind_some]
  simp only [Std.Legacy.Range.forIn_eq_forIn_range', Std.Legacy.Range.size, Nat.sub_zero, Nat.add_sub_cancel, Nat.div_one]
  suffices h : ∀ (c : Option Bool × Unit → Sem Bool), c (none, ()) = pure true → c (some false, ()) = pure false → ∀ (m k : Nat), confB (rep m (leafs P n e)) (xs.drop (k * i.size)) = true → confB (rep m (leafs P n e)) (ys.drop (k * i.size)) = true →
      det P (do
        let r ← forIn (List.range' k m 1) ((none, ()) : Option Bool × Unit) fun j _ => (do
          let a ← part e xs.toArray (j * i.size)
          let b ← part e ys.toArray (j * i.size)
          let r ← Op.equalIn d e a b
          if (!r) = true then pure (ForInStep.done (some false, ())) else pure (ForInStep.yield (none, ())) : Sem _)
        c r) = some (eqVs (xs.drop (k * i.size)) (ys.drop (k * i.size))) by
    have := fun c h1 h2 => h c h1 h2 len 0 (by simpa using hx) (by simpa using hy)
    simp only [Nat.zero_mul, List.drop_zero] at this
    exact this _ rfl rfl
  intro c hc1 hc2
  intro m
  induction m with
  | zero =>
    intro k h1 h2
    have e1 := List.eq_nil_of_length_eq_zero (conf_length _ _ h1)
    have e2 := List.eq_nil_of_length_eq_zero (conf_length _ _ h2)
    rw [e1, e2]
    show det P (c (none, ())) = _
    rw [hc1]; rfl
  | succ m ih =>
    intro k h3 h4
    obtain ⟨a1, a2⟩ := conf_append _ _ _ h3
    obtain ⟨b1, b2⟩ := conf_append _ _ _ h4
    rw [List.drop_drop] at a2 b2
    rw [hl] at a1 a2 b1 b2
    have hk : k * i.size + i.size = (k + 1) * i.size := by rw [Nat.add_mul, Nat.one_mul]
    rw [hk] at a2 b2
    have ih := ih (k + 1) a2 b2
    simp only [List.range'_succ, List.forIn_cons, bind_assoc]
    rw [det_bind, part_flat hf hi hl a1]
    simp only [Option.bind_some]
    rw [det_bind, part_flat hf hi hl b1]
    simp only [Option.bind_some]
    rw [det_bind, hrec _ _ a1 b1]
    simp only [Option.bind_some]
    have hx : xs.drop (k * i.size) = (xs.drop (k * i.size)).take i.size ++ xs.drop ((k + 1) * i.size) := by rw [← hk, ← List.drop_drop]; exact (List.take_append_drop _ _).symm
    have hy : ys.drop (k * i.size) = (ys.drop (k * i.size)).take i.size ++ ys.drop ((k + 1) * i.size) := by rw [← hk, ← List.drop_drop]; exact (List.take_append_drop _ _).symm
    have hsplit : eqVs (xs.drop (k * i.size)) (ys.drop (k * i.size)) = (eqVs ((xs.drop (k * i.size)).take i.size) ((ys.drop (k * i.size)).take i.size) && eqVs (xs.drop ((k + 1) * i.size)) (ys.drop ((k + 1) * i.size))) := by
      conv => lhs; rw [hx, hy]
      exact eqVs_append _ _ _ _ ((conf_length _ _ a1).trans (conf_length _ _ b1).symm)
    rw [hsplit]
    cases eqVs ((xs.drop (k * i.size)).take i.size) ((ys.drop (k * i.size)).take i.size)
    · show det P (c (some false, ())) = _
      rw [hc2]; rfl
    · simp only [Bool.not_true, Bool.false_eq_true, if_false, pure_bind, Bool.true_and]
      exact ih
theorem conf1 {k : IntKind} : ∀ {as : List Value}, confB [.i k] as = true → ∃ n, as = [.int k n]
  | [.int k' n], h => by
    simp only [confB, Bool.and_eq_true, decide_eq_true_eq, and_true] at h
    exact ⟨n, by rw [h]⟩
  | .int k' n :: _ :: _, h => by simp [confB] at h
theorem det_equal : ∀ (n d : Nat) (t : TypeId) (as bs : List Value), n ≤ d → flatB P n t = true → confB (leafs P n t) as = true → confB (leafs P n t) bs = true →
    det P (Op.equalIn d t (wrapV P t as) (wrapV P t bs)) = some (eqVs as bs)
  | 0, _, _, _, _, _, hf, _, _ => by simp [flatB] at hf
  | n + 1, 0, _, _, _, hd, _, _, _ => absurd hd (by omega)
  | n + 1, d + 1, t, as, bs, hd, hf, ha, hb => by
    have hrec := fun t as bs => det_equal n d t as bs (by omega)
    cases ht : P.underlying t with
    | none => simp [flatB, ht] at hf
    | some dd =>
      have hu : und P t = dd := by simp [und, ht]
      cases dd with
      | struct fs =>
        simp only [flatB, ht, Bool.and_eq_true] at hf
        simp only [leafs, hu] at ha hb
        simp only [wrapV, hu, aggD]
        rw [det_struct d t fs _ _ ht (by simpa using hf.1.1)]
        have := det_fields (xs := as) (ys := bs) n (fun t as bs h1 h2 h3 => hrec t as bs h1 h2 h3) fs.toList 0 hf.1.2 hf.2 (by simpa using ha) (by simpa using hb)
        simpa using this
      | array len e =>
        simp only [flatB, ht, Bool.and_eq_true] at hf
        simp only [leafs, hu] at ha hb
        simp only [wrapV, hu, aggD]
        obtain ⟨hf, h2⟩ := hf
        cases hi : P.info? e with
        | none => rw [hi] at h2; simp at h2
        | some i =>
          rw [hi] at h2
          simp only [Bool.and_eq_true] at h2
          exact det_array d n t e len i as bs ht hi hf (Nat.eq_of_beq_eq_true h2.1) (fun as bs h1 h2 => hrec e as bs hf h1 h2) ha hb
      | int k =>
        simp only [leafs, hu, shpD] at ha hb
        obtain ⟨a, rfl⟩ := conf1 ha
        obtain ⟨b, rfl⟩ := conf1 hb
        simp only [wrapV, hu, aggD, List.headD_cons, Op.equalIn]
        rw [det_bind, det_und, ht]
        simp [eqVs, eqV, det_pure]
      | bool =>
        simp only [leafs, hu, shpD] at ha hb
        match as, bs, ha, hb with
        | [.bool a], [.bool b], ha, hb =>
          simp only [wrapV, hu, aggD, List.headD_cons, Op.equalIn]
          rw [det_bind, det_und, ht]
          simp [eqVs, eqV, det_pure]
      | string =>
        simp only [leafs, hu, shpD] at ha hb
        match as, bs, ha, hb with
        | [.string a], [.string b], ha, hb =>
          simp only [wrapV, hu, aggD, List.headD_cons, Op.equalIn]
          rw [det_bind, det_und, ht]
          simp [eqVs, eqV, det_pure]
      | _ => simp [flatB, ht] at hf
end Go.V

/- More nice forms of operations: slicing, make, arithmetic, append, literals; 'vcOp'. -/
namespace Go.V
set_option linter.constructorNameAsVariable false
set_option linter.unusedVariables false
variable {P : Program}

theorem sb_vp {α : Type} {v : Value} {d y : Nat} {code : BoundsCode} {K : Nat → Prop} {f : Nat → Sem α} {Q : α → Heap → Prop} {E : Value → Heap → Prop} {H : Heap}
    (h : bnd (some v) d y K) (hk : ∀ n, K n → vp P (f n) Q E H) : vp P (Instr.sliceBound v y code >>= f) Q E H := by
  refine vp_bind' ?_
  cases v <;> simp only [bnd] at h
  case int k i =>
    obtain ⟨hb, h⟩ := h
    unfold Instr.sliceBound
    refine vp_bind' ?_
    show vp P (if 0 ≤ i ∧ i ≤ (y : Int) then _ else _) _ _ _
    rw [if_pos hb]; exact hk _ h
theorem sp_vp {α : Type} {d y : Nat} {K : Nat → Prop} {f : Nat → Sem α} {Q : α → Heap → Prop} {E : Value → Heap → Prop} {H : Heap}
    (h : bnd none d y K) (hk : ∀ n, K n → vp P (f n) Q E H) : vp P (pure d >>= f) Q E H := vp_bind' (hk _ h)
theorem bounds_vp {α : Type} {b : Bool} {lo hi mx : Option Value} {n c : Nat} {f : Nat × Nat × Nat → Sem α} {Q : α → Heap → Prop} {E : Value → Heap → Prop} {H : Heap}
    (hx : mx = none ∨ hi ≠ none) (h : bnd mx c c fun m => bnd hi n m fun h' => bnd lo 0 h' fun l => vp P (f (l, h', m)) Q E H) :
    vp P (Instr.sliceBounds b n c lo hi mx >>= f) Q E H := by
  refine vp_bind' ?_
  unfold Instr.sliceBounds
  cases mx <;> cases hi
  case some.none => rcases hx with hx | hx <;> simp at hx
  case none.none =>
    refine sp_vp h fun m h => ?_
    refine sp_vp h fun h' h => ?_
    cases lo
    · exact sp_vp h fun l h => h
    · exact sb_vp h fun l h => h
  case none.some =>
    refine sp_vp h fun m h => ?_
    refine sb_vp h fun h' h => ?_
    cases lo
    · exact sp_vp h fun l h => h
    · exact sb_vp h fun l h => h
  case some.some =>
    refine sb_vp h fun m h => ?_
    refine sb_vp h fun h' h => ?_
    cases lo
    · exact sp_vp h fun l h => h
    · exact sb_vp h fun l h => h
theorem bnd_mono {o : Option Value} {d y : Nat} {K K' : Nat → Prop} (h : bnd o d y K) (hk : ∀ n, K n → K' n) : bnd o d y K' := by
  unfold bnd at h ⊢
  split at h
  · exact hk _ h
  · exact ⟨h.1, hk _ h.2⟩
  · exact h
theorem nSlice_vp {t : TypeId} {x : Value} {lo hi mx : Option Value} {K : Value → Heap → Prop} {E : Value → Heap → Prop} {H : Heap} (h : nSlice P t x lo hi mx K H) :
    vp P (Instr.sliceAt t x lo hi mx) K E H := by
  unfold nSlice at h
  replace h := tyD_elim h; obtain ⟨d, hd, h⟩ := h
  unfold Instr.sliceAt
  refine vp_und hd ?_
  split at h
  · rename_i s
    split at h
    · show vp P (Instr.slice t (.string s) lo hi none) K E H
      unfold Instr.slice
      refine vp_und hd ?_
      show vp P (Instr.sliceBounds _ _ _ _ _ _ >>= _) _ _ _
      refine bounds_vp (.inl rfl) ?_
      exact h
    · exact h.elim
  · rename_i e p n c
    replace h := tyI_elim h; obtain ⟨i, hi', h⟩ := h
    show vp P (Instr.slice t (.slice p n c) lo hi mx) K E H
    unfold Instr.slice
    refine vp_und hd ?_
    have hx : mx = none ∨ hi ≠ none := by
      cases mx <;> cases hi <;> simp_all
    refine bounds_vp hx ?_
    have h : bnd mx c c fun m => bnd hi n m fun h => bnd lo 0 h fun l => K (.slice (if m = l then p else p.map (·.add (l * i.size))) (h - l) (m - l)) H := by
      cases mx <;> cases hi <;> simp_all
    refine bnd_mono h fun m h => bnd_mono h fun h' h => bnd_mono h fun l h => ?_
    refine vp_size hi' ?_
    exact h
  · rename_i n e p
    replace h := tyI_elim h; obtain ⟨i, hi', h⟩ := h
    replace h := ptr_elim h; obtain ⟨ad, rfl, h⟩ := h
    show vp P (Instr.sureAddr _ >>= _) K E H
    refine vp_bind' ?_
    show vp P (Instr.sliceBounds _ _ _ _ _ _ >>= _) _ _ _
    have hx : mx = none ∨ hi ≠ none := by
      cases mx <;> cases hi <;> simp_all
    refine bounds_vp hx ?_
    have h : bnd mx n n fun m => bnd hi n m fun h => bnd lo 0 h fun l => K (.slice (some (if m = l then ad else ad.add (l * i.size))) (h - l) (m - l)) H := by
      cases mx <;> cases hi <;> simp_all
    refine bnd_mono h fun m h => bnd_mono h fun h' h => bnd_mono h fun l h => ?_
    refine vp_size hi' ?_
    exact h
  · exact h.elim

theorem rep_length {α : Type} (n : Nat) (l : List α) : (rep n l).length = n * l.length := by
  induction n with
  | zero => simp [rep]
  | succ n ih => simp [rep, ih, Nat.add_mul]; omega
theorem rep_get {α : Type} (l : List α) : ∀ (n j : Nat), j < n * l.length → (rep n l)[j]? = l[j % l.length]?
  | 0, j, h => by simp at h
  | n + 1, j, h => by
    rw [rep, List.getElem?_append]
    split
    · rw [Nat.mod_eq_of_lt (by assumption)]
    · rename_i hge
      have hl : 0 < l.length := by
        rcases Nat.eq_zero_or_pos l.length with h0 | h0
        · rw [h0] at h; simp at h
        · exact h0
      rw [rep_get l n (j - l.length) (by rw [Nat.succ_mul] at h; omega)]
      rw [show j % l.length = (j - l.length) % l.length from Nat.mod_eq_sub_mod (by omega)]
theorem zeros_eq (z : Array Value) (n : Nat) : (Array.range (n * z.size)).map (fun i => z[i % z.size]!) = (rep n z.toList).toArray := by
  apply Array.ext_getElem?
  intro j
  have e1 : (rep n z.toList).toArray[j]? = (rep n z.toList)[j]? := by simp
  by_cases h : j < n * z.size
  · have hz : 0 < z.size := by
      rcases Nat.eq_zero_or_pos z.size with h0 | h0
      · rw [h0] at h; simp at h
      · exact h0
    have hm : j % z.size < z.size := Nat.mod_lt _ hz
    have := rep_get z.toList n j (by simpa using h)
    simp only [Array.length_toList, Array.getElem?_toList] at this
    rw [e1, this]
    simp [h, hm]
  · have h2 : (rep n z.toList).length ≤ j := by rw [rep_length]; simpa using h
    rw [e1, List.getElem?_eq_none h2]
    simp [h]
theorem nMake_vp {t : TypeId} {l c : Value} {K : Value → Heap → Prop} {E : Value → Heap → Prop} {H : Heap} (h : nMake P t l c K H) : vp P (Instr.makeSlice t l c) K E H := by
  unfold nMake at h
  split at h
  · rename_i kl l kc c
    replace h := tyD_elim h; obtain ⟨d, hd, h⟩ := h
    split at h
    · rename_i e
      replace h := tyI_elim h; obtain ⟨i, hi, h⟩ := h
      replace h := tyZ_elim h; obtain ⟨i', z, hi', hz, hs, h⟩ := h
      obtain rfl : i = i' := by rw [hi] at hi'; exact Option.some.inj hi'
      obtain ⟨⟨h0, h1, h2, h3⟩, h⟩ := h
      unfold Instr.makeSlice
      refine vp_und hd ?_
      refine vp_bind' ?_
      refine vp_bind' ?_
      show vp P (_ >>= _) _ _ _
      refine vp_bind' ?_
      refine vp_bind' ?_
      show vp P (_ >>= _) _ _ _
      refine vp_info hi ?_
      have hl : IntKind.i64.wrap l = l := by unfold IntKind.wrap; simp [IntKind.signed, IntKind.bits]; omega
      have hc : IntKind.i64.wrap c = c := by unfold IntKind.wrap; simp [IntKind.signed, IntKind.bits]; omega
      simp only [hl, hc]
      rw [if_neg (by simp; omega)]
      refine vp_bind' ?_
      have hask : ∀ (Q : Unit → Heap → Prop), Q () H → vp P (askRoom (c.toNat * i.bytes)) Q E H := by
        intro Q hq; unfold askRoom; split <;> exact hq
      refine hask _ ?_
      refine vp_size hi ?_
      by_cases h0 : c.toNat * i.size = 0
      · rw [if_pos h0]
        have : (rep c.toNat z.cells.toList).toArray = #[] := by
          apply Array.eq_empty_of_size_eq_zero
          rw [List.size_toArray, rep_length]; rw [← hs] at h0; simpa using h0
        rw [this] at h
        refine vp_bind' ?_
        show vp P (_ >>= _) _ _ _
        rw [h0]
        have e0 : (Array.range 0).map (fun x => (#[] : Array Value)[x % (#[] : Array Value).size]!) = #[] := by simp
        rw [e0]
        exact fun id hid => h id hid
      · rw [if_neg h0]
        refine vp_zero hi hz ?_
        refine vp_bind' ?_
        show vp P (_ >>= _) _ _ _
        rw [← hs, zeros_eq]
        exact fun id hid => h id hid
    · exact h.elim
  · exact h.elim

theorem binS_vp {op : BinOp} {t : TypeId} {ox oy : Operand} {x y : Value} {K : Value → Heap → Prop} {E : Value → Heap → Prop} {H : Heap} {r : Option Prop × Value}
    (h : binS (boolB P t) op x y = some r) (hc : ∀ c, r.1 = some c → c) (hk : K r.2 H) : vp P (do eqGuard op t ox oy x y; Go.binOp op t x y) K E H := by
  have hB : boolB P t = true → P.underlying t = some .bool := by
    intro hb; unfold boolB at hb; split at hb <;> simp_all
  unfold binS at h
  split at h
  · cases h
    have hb := hc _ rfl
    show vp P (if _ < (0 : Int) then _ else _) K E H
    rw [if_neg (by omega)]; exact hk
  · cases h
    have hb := hc _ rfl
    show vp P (if _ < (0 : Int) then _ else _) K E H
    rw [if_neg (by omega)]; exact hk
  · split at h
    · rename_i he
      obtain rfl := of_decide_eq_true he
      cases h
      have hb := hc _ rfl
      show vp P (if _ ≠ _ then _ else Op.intDiv _ _ _ _) K E H
      rw [if_neg (by simp)]
      unfold Op.intDiv
      rw [if_neg hb]; exact hk
    · cases h
  · split at h
    · rename_i he
      obtain rfl := of_decide_eq_true he
      cases h
      have hb := hc _ rfl
      show vp P (if _ ≠ _ then _ else Op.intDiv _ _ _ _) K E H
      rw [if_neg (by simp)]
      unfold Op.intDiv
      rw [if_neg hb]; exact hk
    · cases h
  · cases h
    have hb := hc _ rfl
    show vp P (if _ then _ else _) K E H
    rw [if_neg (by simpa [IntKind.max, IntKind.signed, IntKind.bits] using hb)]; exact hk
  · rename_i k a k' b hs1 hs2 hs3 hs4
    split at h
    · rename_i he
      obtain rfl := of_decide_eq_true he
      split at h
      · rename_i v hv
        cases h
        cases op <;> simp only [intOp, Option.some.injEq, reduceCtorEq] at hv <;> subst hv
        case add =>
          show vp P (if _ ≠ _ then _ else Op.intArith _ _ _ _) K E H
          rw [if_neg (by simp)]; exact hk
        case sub =>
          show vp P (if _ ≠ _ then _ else Op.intArith _ _ _ _) K E H
          rw [if_neg (by simp)]; exact hk
        case mul =>
          show vp P (if _ ≠ _ then _ else Op.intArith _ _ _ _) K E H
          rw [if_neg (by simp)]; exact hk
        case and =>
          show vp P (if _ ≠ _ then _ else Op.intBits _ _ _ _) K E H
          rw [if_neg (by simp)]; exact hk
        case or =>
          show vp P (if _ ≠ _ then _ else Op.intBits _ _ _ _) K E H
          rw [if_neg (by simp)]; exact hk
        case xor =>
          show vp P (if _ ≠ _ then _ else Op.intBits _ _ _ _) K E H
          rw [if_neg (by simp)]; exact hk
        case andNot =>
          show vp P (if _ ≠ _ then _ else Op.intBits _ _ _ _) K E H
          rw [if_neg (by simp)]; exact hk
        all_goals
          show vp P (if _ ≠ _ then _ else Op.intCmp _ _ _) K E H
          rw [if_neg (by simp)]; exact hk
      · cases h
    · cases h
  · split at h
    · rename_i v hv
      cases h
      cases op <;> simp only [strOp, Option.some.injEq, reduceCtorEq] at hv <;> subst hv <;> exact hk
    · cases h
  · split at h
    · rename_i hb
      cases h
      show vp P (Op.equal _ _ _ >>= _) K E H
      refine vp_bind' ?_
      show vp P (underlying t >>= _) _ _ _
      refine vp_und (hB hb) ?_
      exact hk
    · cases h
  · split at h
    · rename_i hb
      cases h
      show vp P (Op.equal _ _ _ >>= _) K E H
      refine vp_bind' ?_
      show vp P (underlying t >>= _) _ _ _
      refine vp_und (hB hb) ?_
      exact hk
    · cases h
  · cases h
theorem nBin_vp {op : BinOp} {t : TypeId} {ox oy : Operand} {x y : Value} {K : Value → Heap → Prop} {E : Value → Heap → Prop} {H : Heap} (h : nBin P op t ox oy x y K E H) :
    vp P (do eqGuard op t ox oy x y; Go.binOp op t x y) K E H := by
  unfold nBin at h
  split at h
  · rename_i c v hb
    exact binS_vp hb (fun c' hc => by cases hc; exact h.1) h.2
  · rename_i v hb
    exact binS_vp hb (fun c' hc => by cases hc) h
  · replace h := tyD_elim h; obtain ⟨d, hd, h⟩ := h
    split at h
    · exact h.elim
    · split at h
      · rename_i hfl
        simp only [Bool.and_eq_true, Bool.not_eq_true'] at hfl
        obtain ⟨hfl, hgd⟩ := hfl
        have key : ∀ (xs ys : Array Value), (confB (leafs P 20 t) xs.toList && confB (leafs P 20 t) ys.toList) = true → det P (Op.equal t (.agg xs) (.agg ys)) = some (eqVs xs.toList ys.toList) := by
          intro xs ys hc
          simp only [Bool.and_eq_true] at hc
          have hk := det_equal 20 Op.maxDepth t xs.toList ys.toList (by decide) hfl hc.1 hc.2
          have hag : aggD (und P t) = true := by
            unfold und; rw [hd]; simp only [Option.getD_some]
            unfold flatB at hfl; rw [hd] at hfl
            cases d <;> first | rfl | (exfalso; simp_all [scalarD])
          simp only [wrapV, hag] at hk
          exact hk
        split at h
        · rename_i xs ys hb'
          split at h
          · rename_i hc
            refine det_vp ?_ h
            have : det P (eqGuard .eql t ox oy (.agg xs) (.agg ys)) = some () := by
              have hp : det P program = some P := rfl
              simp [eqGuard, det_bind, hp, hgd, det_pure]
            rw [det_bind, this]
            show det P (Op.equal t (.agg xs) (.agg ys) >>= _) = _
            rw [det_bind, key xs ys hc]; rfl
          · exact h.elim
        · rename_i xs ys hb'
          split at h
          · rename_i hc
            refine det_vp ?_ h
            have : det P (eqGuard .neq t ox oy (.agg xs) (.agg ys)) = some () := by
              have hp : det P program = some P := rfl
              simp [eqGuard, det_bind, hp, hgd, det_pure]
            rw [det_bind, this]
            show det P (Op.equal t (.agg xs) (.agg ys) >>= _) = _
            rw [det_bind, key xs ys hc]; rfl
          · exact h.elim
        · exact h.elim
      · exact h
theorem nUn_vp {op : UnOp} {x : Value} {K : Value → Heap → Prop} {E : Value → Heap → Prop} {H : Heap} (h : nUn op x K H) : vp P (Op.unary op x) K E H := by
  unfold nUn at h
  split at h <;> first | exact h | exact h.elim
theorem nExtract_vp {i : Nat} {x : Value} {K : Value → Heap → Prop} {E : Value → Heap → Prop} {H : Heap} (h : nExtract x i K H) : vp P (Instr.extract x i) K E H := by
  unfold nExtract at h
  split at h
  · rename_i vs
    split at h
    · rename_i v hv
      have hv : vs[i]? = some v := by rw [← Array.getElem?_toList]; exact hv
      unfold Instr.extract
      simp only [hv]; exact h
    · exact h.elim
  · exact h.elim
theorem nIface_vp {t : TypeId} {x : Value} {K : Value → Heap → Prop} {E : Value → Heap → Prop} {H : Heap} (h : nIface P t x K H) : vp P (Instr.makeInterface t x) K E H := by
  replace h := tyD_elim h; obtain ⟨d, hd, h⟩ := h
  unfold Instr.makeInterface
  refine vp_und hd ?_
  cases d <;> first | exact h.elim | exact h
theorem nLen_vp {t ty : TypeId} {x : Value} {ts : Array TypeId} {args : Array Value} {K : Value → Heap → Prop} {E : Value → Heap → Prop} {H : Heap}
    (h0 : ts[0]? = some t) (h1 : args[0]? = some x) (h : nLen P t x K H) : vp P (Builtin.len_ ts ty args) K E H := by
  replace h := tyD_elim h; obtain ⟨d, hd, h⟩ := h
  unfold Builtin.len_
  simp only [h0, h1]
  refine vp_und hd ?_
  split at h <;> first | exact h | exact h.elim
theorem minV_vp {v : Value} {K : Value → Heap → Prop} {E : Value → Heap → Prop} {H : Heap} : ∀ (l : List Value) (x : Value), minV x l = some v → K v H → vp P (l.foldlM Builtin.min2 x) K E H
  | [], x, h, hk => by simp only [minV, Option.some.injEq] at h; subst h; exact hk
  | y :: l, x, h, hk => by
    cases x <;> cases y <;> simp only [minV, reduceCtorEq] at h
    rw [List.foldlM_cons]
    exact vp_bind' (minV_vp l _ h hk)
theorem maxV_vp {v : Value} {K : Value → Heap → Prop} {E : Value → Heap → Prop} {H : Heap} : ∀ (l : List Value) (x : Value), maxV x l = some v → K v H → vp P (l.foldlM Builtin.max2 x) K E H
  | [], x, h, hk => by simp only [maxV, Option.some.injEq] at h; subst h; exact hk
  | y :: l, x, h, hk => by
    cases x <;> cases y <;> simp only [maxV, reduceCtorEq] at h
    rw [List.foldlM_cons]
    exact vp_bind' (maxV_vp l _ h hk)

theorem callFunc_vp {g : FuncId} {args : Array Value} {K : Value → Heap → Prop} {E : Chain → Heap → Prop} {H : Heap} (h : Does P g args H K E) :
    vp P (callFunc g args) (nxt P K E) (raise E) H := by
  have hg := h.1
  unfold goFn at hg
  unfold callFunc
  refine vp_bind' ?_
  show vp P (match P.funcs[g]? with | none => _ | some fn => _) _ _ _
  split at hg
  · rename_i fn hf
    simp only [hf]
    simp only [Bool.and_eq_true, Bool.not_eq_true'] at hg
    rw [if_neg (by simp [hg.1])]
    rw [if_neg (by cases hb : fn.body <;> simp_all)]
    exact h
  · cases hg
theorem exT_elim {t : TypeId} {K : Value → Prop} (h : exT P t K) : ∃ v, K v := by
  unfold exT at h; split at h
  · obtain ⟨vs, _, h⟩ := exL_elim h; exact ⟨_, h⟩
  · exact exS_elim h
theorem exTs_elim : ∀ {l : List TypeId} {K : List Value → Prop}, exTs P l K → ∃ vs, K vs
  | [], K, h => ⟨[], h⟩
  | t :: l, K, h => by
    obtain ⟨v, h⟩ := exT_elim h
    obtain ⟨vs, h⟩ := exTs_elim h
    exact ⟨v :: vs, h⟩
theorem tyRes_elim {t : TypeId} {v : Value} {K : Value → Prop} (h : tyRes P t v K) : K v := by
  unfold tyRes at h
  split at h
  · exact h
  · obtain ⟨vs, he, h'⟩ := exTs_elim h; rw [he]; exact h'
  · obtain ⟨u, he, h'⟩ := exT_elim h; rw [he]; exact h'
theorem nCall_vp {t' : TypeId} {f : Operand} {c : Call} {ty : TypeId} {ρ : Operand → Value} {K : Value → Heap → Prop} {E : Chain → Heap → Prop} {H : Heap} (hc : c.callee = .value f)
    (h : nCall P t' E (ρ f) (c.args.map ρ) K H) : vp P (do let d ← resolve ρ c ty; invoke d.target d.args) (nxt P K E) (raise E) H := by
  unfold nCall callV at h
  split at h
  · rename_i g first caps hv
    refine vp_bind' ?_
    unfold resolve
    simp only [hc]
    unfold Deferred.ofValue
    simp only [hv]
    show vp P (callFunc g ((first ++ c.args.map ρ) ++ caps)) _ _ _
    have e : (first ++ c.args.map ρ) ++ caps = (first.toList ++ (c.args.map ρ).toList ++ caps.toList).toArray := by apply Array.ext'; simp
    rw [e]
    exact callFunc_vp (h.mono (fun v H h => tyRes_elim h) (fun _ _ h => h))
  · exact h.elim

theorem rdS_vp {α : Type} {size n m c : Nat} {p : Option Addr} {vs : List Value} {f : Array Value → Sem α} {Q : α → Heap → Prop} {E : Value → Heap → Prop} {H : Heap}
    (hl : vs.length = n * size) (hr : H.rdS p vs) (h : vp P (f vs.toArray) Q E H) : vp P (Builtin.firstCells size n (.slice p m c) >>= f) Q E H := by
  cases p with
  | none =>
    refine vp_bind' ?_
    have : vs = [] := hr
    subst this; exact h
  | some ad => exact vp_loadCells hl hr h
theorem zeroCells_eq (z : Array Value) (n : Nat) : Builtin.zeroCells z n = (rep n z.toList).toArray := zeros_eq z n
theorem vp_notInt {α : Type} {d : TypeDesc} {f : Bool → Sem α} {Q : α → Heap → Prop} {E : Value → Heap → Prop} {H : Heap}
    (h : vp P (f false) Q E H) : (∀ k, d ≠ .int k) → vp P (pure (d matches .int _) >>= f) Q E H := by
  intro hd
  refine vp_bind' ?_
  cases d <;> first | exact h | exact absurd rfl (hd _)
theorem src_vp {α : Type} {size : Nat} {x : Value} {H : Heap} {K : Nat → List Value → Prop} (h : srcOf size x H K) :
    ∃ n vs, vs.length = n * size ∧ K n vs ∧ Builtin.lenOf x = pure n ∧ ∀ {f : Array Value → Sem α} {Q : α → Heap → Prop} {E : Value → Heap → Prop},
      vp P (f vs.toArray) Q E H → vp P (Builtin.firstCells size n x >>= f) Q E H := by
  unfold srcOf at h
  split at h
  · rename_i p n c
    obtain ⟨vs, hl, hr, h⟩ := h
    exact ⟨n, vs, hl, h, rfl, fun hf => rdS_vp hl hr hf⟩
  · rename_i s
    obtain ⟨h1, h⟩ := h
    have hs : s.data.size = s.size := rfl
    refine ⟨s.size, bytesV s, by simp [bytesV, h1, hs], h, rfl, fun {f Q E} hf => ?_⟩
    refine vp_bind' ?_
    show vp P (f _) _ _ _
    have he : (s.extract 0 s.size).data = s.data := by
      rw [ByteArray.data_extract]
      show s.data.extract 0 s.data.size = s.data
      simp
    have : ((s.extract 0 s.size).data.map fun b => Value.int .u8 b.toNat) = (bytesV s).toArray := by
      rw [he]
      apply Array.ext'
      simp [bytesV, byteV]
    rw [this]; exact hf
  · exact h.elim
theorem app_vp {t : TypeId} {p : Option Addr} {n c : Nat} {x : Value} {K : Value → Heap → Prop} {E : Value → Heap → Prop} {H : Heap} {ats : Array TypeId} {ty tx : TypeId}
    (h0 : ats[0]? = some t) (h1 : ats[1]? = some tx) (hx : ∃ d, P.underlying tx = some d ∧ ∀ k, d ≠ .int k) (h : app P t p n c x H fun p n c H => K (.slice p n c) H) :
    vp P (Builtin.append_ ats ty #[.slice p n c, x]) K E H := by
  unfold app at h
  replace h := tyD_elim h; obtain ⟨d, hd, h⟩ := h
  split at h
  · rename_i e
    replace h := tyI_elim h; obtain ⟨i, hi, h⟩ := h
    replace h := tyZ_elim h; obtain ⟨i', z, hi', hz, hs, h⟩ := h
    obtain rfl : i = i' := by rw [hi] at hi'; exact Option.some.inj hi'
    replace h := src_vp (P := P) (α := Value) h
    obtain ⟨n', vs, hl, ⟨hin, hout⟩, hlen, hread⟩ := h
    obtain ⟨dx, hdx, hint⟩ := hx
    unfold Builtin.append_
    simp only [h0, h1]
    refine vp_und hd ?_
    show vp P (sizeOf e >>= _) _ _ _
    refine vp_size hi ?_
    refine vp_und hdx ?_
    refine vp_notInt ?_ hint
    show vp P (Builtin.lenOf x >>= _) _ _ _
    rw [hlen]
    refine vp_bind' ?_
    show vp P (if n + n' ≤ c then _ else _) _ _ _
    by_cases hc : n + n' ≤ c
    · rw [if_pos hc]
      show vp P (Builtin.firstCells i.size n' x >>= _) _ _ _
      refine hread ?_
      have hin := hin hc
      unfold wrS at hin
      cases vs with
      | nil =>
        cases p with
        | none => exact hin
        | some a => exact vp_bind' hin
      | cons v l =>
        replace hin := ptr_elim hin; obtain ⟨ad, rfl, hin⟩ := hin
        refine vp_bind' ?_
        exact wr_vp hin
    · rw [if_neg hc]
      obtain ⟨hb, hpos, us, hul, hur, hk⟩ := hout (by omega)
      refine vp_info hi ?_
      rw [if_neg (by simp; omega)]
      refine vp_info hi ?_
      rw [if_neg (by omega)]
      refine vp_bind' ?_
      unfold choose
      simp only [vp, Question.forced, Bool.false_eq_true, if_false]
      intro tape
      refine vp_info hi ?_
      refine vp_bind' ?_
      have hask : ∀ (m : Nat) (Q : Unit → Heap → Prop), Q () H → vp P (askRoom m) Q E H := by
        intro m Q hq; unfold askRoom; split <;> exact hq
      refine hask _ _ ?_
      show vp P (Builtin.firstCells i.size n (.slice p n c) >>= _) _ _ _
      refine rdS_vp hul hur ?_
      show vp P (Builtin.firstCells i.size n' x >>= _) _ _ _
      refine hread ?_
      refine vp_zero hi hz ?_
      rw [zeroCells_eq]
      have hcut : n + n' ≤ (Question.appendCap (n + n') c e).cut tape := by
        show n + n' ≤ n + n' + _; omega
      have := hk _ hcut
      have e1 : us.toArray ++ vs.toArray ++ (rep ((Question.appendCap (n + n') c e).cut tape - (n + n')) z.cells.toList).toArray =
          (us ++ vs ++ rep ((Question.appendCap (n + n') c e).cut tape - (n + n')) z.cells.toList).toArray := by simp
      rw [e1]
      exact this
  · exact h.elim
end Go.V

/- More nice forms of operations: literals, conversions; 'vcOp' and its soundness. -/
namespace Go.V
set_option linter.constructorNameAsVariable false
set_option linter.unusedVariables false
variable {P : Program}

instance : LawfulMonad Sem := LawfulMonad.mk'
  (id_map := fun s => by show s.bind (fun a => Sem.pure (id a)) = s; exact bind_pure_ s)
  (pure_bind := fun _ _ => rfl)
  (bind_assoc := fun s f g => bind_assoc s f g)

section
variable (P : Program)
def szs : List Field → Option (List (Nat × Nat))
  | [] => some []
  | f :: l => match P.info? f.type, szs l with
    | some i, some r => some ((f.offset, i.size) :: r)
    | _, _ => none
end
def fillN (place : Nat → Option (Nat × Nat)) : Array Value → List (Nat × Value) → Option (Array Value)
  | c, [] => some c
  | c, (i, v) :: rest => match place i with
    | none => none
    | some (off, size) => match Nat.beq v.cells.size size && Nat.ble (off + v.cells.size) c.size with
      | true => fillN place (over c off v.cells.toList) rest
      | false => none
theorem over_foldl (vs : List Value) : ∀ (c : Array Value) (off k : Nat),
    (vs.zipIdx k).foldl (fun cs (x : Value × Nat) => cs.setIfInBounds (off + x.2) x.1) c = over c (off + k) vs := by
  induction vs with
  | nil => intro c off k; rfl
  | cons v vs ih => intro c off k; simp only [List.zipIdx_cons, List.foldl_cons, over]; rw [ih]; congr 1
theorem fill_eq (place : Nat → Option (Nat × Nat)) : ∀ (parts : List (Nat × Value)) (c : Array Value), Instr.fill place c parts = fillN place c parts
  | [], c => rfl
  | (i, v) :: rest, c => by
    unfold Instr.fill fillN
    cases hp : place i with
    | none => rfl
    | some os =>
      obtain ⟨off, size⟩ := os
      simp only []
      have e1 : v.cells.zipIdx.foldl (fun cs (x : Value × Nat) => cs.setIfInBounds (off + x.2) x.1) c = over c off v.cells.toList := by
        rw [← Array.foldl_toList, Array.toList_zipIdx]; exact over_foldl _ _ _ 0
      have e2 : (v.cells.zipIdx.foldl (fun cs x => match x with | (c, j) => cs.setIfInBounds (off + j) c) c) = over c off v.cells.toList := e1
      rw [e2, fill_eq place rest]
      by_cases h1 : v.cells.size = size
      · subst h1
        by_cases h2 : off + v.cells.size ≤ c.size
        · have : (Nat.beq v.cells.size v.cells.size && Nat.ble (off + v.cells.size) c.size) = true := by simp; omega
          rw [this, if_neg (by simp; omega)]
        · have : (Nat.beq v.cells.size v.cells.size && Nat.ble (off + v.cells.size) c.size) = false := by
            have hb : Nat.ble (off + v.cells.size) c.size = false := by
              cases h : Nat.ble (off + v.cells.size) c.size
              · rfl
              · exact absurd (Nat.le_of_ble_eq_true h) h2
            rw [hb, Bool.and_false]
          rw [this, if_pos (by simp; omega)]
      · have : (Nat.beq v.cells.size size && Nat.ble (off + v.cells.size) c.size) = false := by simp [h1]
        rw [this, if_pos (by simp [h1])]
section
variable (P : Program)
def nBuild (t : TypeId) (parts : List (Nat × Value)) (K : Value → Heap → Prop) (H : Heap) : Prop :=
  tyZ P t fun z => tyD P t fun d => match d with
  | .struct fs => match szs P fs.toList with
    | some pl => match fillN (fun i => pl[i]?) z.toArray parts with
      | some cells => K (.agg cells) H
      | none => False
    | none => False
  | .array _ e => tyI P e fun i => match fillN (fun j => some (j * i.size, i.size)) z.toArray parts with
    | some cells => K (.agg cells) H
    | none => False
  | _ => False
def nBuildSlice (t : TypeId) (len : Nat) (parts : List (Nat × Value)) (K : Value → Heap → Prop) (H : Heap) : Prop :=
  tyD P t fun d => match d with
  | .slice e => tyI P e fun i => tyZ P e fun z => match Nat.ble (len * i.size) 16777216 with
    | true => match fillN (fun j => some (j * i.size, i.size)) (rep len z).toArray parts with
      | some cells => nw (.cells cells e (0, 0)) H fun id H => K (.slice (some ⟨id, 0, none⟩) len len) H
      | none => False
    | false => False
  | _ => False
def nConv (s d : TypeId) (x : Value) (K : Value → Heap → Prop) (H : Heap) : Prop :=
  tyD P s fun ds => tyD P d fun dd => match dd, x with
  | .int k, .int _ n => K (.int k (k.wrap n)) H
  | .string, .string s => K (.string s) H
  | .slice e, .string s => tyD P e fun de => match de with
    | .int .u8 => ∀ c, s.size ≤ c → nw (.cells (bytesV s ++ List.replicate (c - s.size) (Value.int .u8 0)).toArray e (c, c + 1)) H fun id H => K (.slice (some ⟨id, 0, none⟩) s.size c) H
    | _ => False
  | .string, .slice p n c => match ds with
    | .slice e => tyD P e fun de => match de with
      | .int .u8 => ∃ bs : List UInt8, bs.length = n ∧ H.rdS p (bs.map byteV) ∧ K (.string ⟨bs.toArray⟩) H
      | _ => False
    | _ => False
  | .slice e, .slice (some a) n c => match ds with
    | .slice _ => match Nat.beq s d with
      | true => tyD P e fun de => match de with
        | .int .u8 => ∃ (cs : Array Value) (t : TypeId), H a.block = some (.cells cs t (0, 0)) ∧ K (.slice (some a) n c) (H.set a.block (.cells cs t (cs.size, cs.size + 1)))
        | _ => False
      | false => False
    | _ => False
  | _, _ => False
end
theorem mapM_szs (P : Program) : ∀ (fs : List Field) (pl : List (Nat × Nat)) {α : Type} (f : List (Nat × Nat) → Sem α) {Q : α → Heap → Prop} {E : Value → Heap → Prop} {H : Heap},
    szs P fs = some pl → vp P (f pl) Q E H → vp P (fs.mapM (fun f => do pure (f.offset, ← sizeOf f.type)) >>= f) Q E H
  | [], pl, α, f, Q, E, H, hs, h => by
    simp only [szs, Option.some.injEq] at hs; subst hs
    exact h
  | x :: l, pl, α, f, Q, E, H, hs, h => by
    simp only [szs] at hs
    split at hs
    · rename_i i r hi hr
      cases hs
      rw [List.mapM_cons, LawfulMonad.bind_assoc, LawfulMonad.bind_assoc]
      refine vp_size hi ?_
      show vp P (_ >>= _) _ _ _
      simp only [LawfulMonad.pure_bind, LawfulMonad.bind_assoc]
      exact mapM_szs P l r _ hr h
    · cases hs
theorem nBuild_vp {t : TypeId} {parts : Array (Nat × Value)} {K : Value → Heap → Prop} {E : Value → Heap → Prop} {H : Heap} (h : nBuild P t parts.toList K H) :
    vp P (Instr.build t parts) K E H := by
  replace h := tyZ_elim h; obtain ⟨i, z, hi, hz, hs, h⟩ := h
  replace h := tyD_elim h; obtain ⟨d, hd, h⟩ := h
  unfold Instr.build
  refine vp_zero hi hz ?_
  refine vp_und hd ?_
  split at h
  · rename_i fs
    split at h
    · rename_i pl hpl
      split at h
      · rename_i cells hc
        show vp P (fs.mapM _ >>= _) _ _ _
        rw [Array.mapM_eq_mapM_toList, map_eq_pure_bind, Go.V.bind_assoc]
        refine mapM_szs P _ pl _ hpl ?_
        refine vp_bind' ?_
        show vp P _ K E H
        rw [fill_eq]
        have e1 : (fun i => pl.toArray[i]?) = fun (i : Nat) => pl[i]? := by funext i; simp
        rw [e1]
        simp only [Array.toArray_toList] at hc
        rw [hc]; exact h
      · exact h.elim
    · exact h.elim
  · rename_i n e
    replace h := tyI_elim h; obtain ⟨ie, hie, h⟩ := h
    split at h
    · rename_i cells hc
      refine vp_size hie ?_
      rw [fill_eq]
      simp only [Array.toArray_toList] at hc
      rw [hc]; exact h
    · exact h.elim
  · exact h.elim
theorem nBuildSlice_vp {t : TypeId} {len : Nat} {parts : Array (Nat × Value)} {K : Value → Heap → Prop} {E : Value → Heap → Prop} {H : Heap} (h : nBuildSlice P t len parts.toList K H) :
    vp P (Instr.buildSlice t len parts) K E H := by
  replace h := tyD_elim h; obtain ⟨d, hd, h⟩ := h
  unfold Instr.buildSlice
  refine vp_und hd ?_
  split at h
  · rename_i e
    replace h := tyI_elim h; obtain ⟨i, hi, h⟩ := h
    replace h := tyZ_elim h; obtain ⟨i', z, hi', hz, hs, h⟩ := h
    obtain rfl : i = i' := by rw [hi] at hi'; exact Option.some.inj hi'
    split at h
    · rename_i hle
      split at h
      · rename_i cells hc
        refine vp_size hi ?_
        rw [if_neg (by have := Nat.le_of_ble_eq_true hle; omega)]
        by_cases h0 : len * i.size = 0
        · rw [if_pos h0]
          refine vp_bind' ?_
          have e0 : (Array.range (len * i.size)).map (fun x => (#[] : Array Value)[x % (#[] : Array Value).size]!) = (rep len z.cells.toList).toArray := by
            rw [h0]
            have : (rep len z.cells.toList).toArray = #[] := by
              apply Array.eq_empty_of_size_eq_zero
              rw [List.size_toArray, rep_length]; rw [← hs] at h0; simpa using h0
            rw [this]; simp
          show vp P _ K E H
          dsimp only
          rw [e0, fill_eq, hc]
          exact fun id hid => h id hid
        · rw [if_neg h0]
          refine vp_zero hi hz ?_
          refine vp_bind' ?_
          show vp P _ K E H
          dsimp only
          have e0 : (Array.range (len * i.size)).map (fun x => z.cells[x % z.cells.size]!) = (rep len z.cells.toList).toArray := by
            rw [← hs, zeros_eq]
          rw [e0, fill_eq, hc]
          exact fun id hid => h id hid
      · exact h.elim
    · exact h.elim
  · exact h.elim
theorem bytes_loop {α : Type} {f : ByteArray → Sem α} {Q : α → Heap → Prop} {E : Value → Heap → Prop} {H : Heap} : ∀ (bs : List UInt8) (s : ByteArray),
    vp P (f ⟨s.data ++ bs.toArray⟩) Q E H → vp P ((forIn (bs.map byteV) s fun c s => do
      let .int .u8 n := c | stuck "bytesToString: byte expected"
      pure (ForInStep.yield (s.push (UInt8.ofNat n.toNat)))) >>= f) Q E H
  | [], s, h => by simpa using h
  | b :: bs, s, h => by
    simp only [List.map_cons, List.forIn_cons, LawfulMonad.bind_assoc]
    show vp P (_ >>= f) Q E H
    refine bytes_loop bs (s.push (UInt8.ofNat (b.toNat : Int).toNat)) ?_
    have : (⟨(s.push (UInt8.ofNat (b.toNat : Int).toNat)).data ++ bs.toArray⟩ : ByteArray) = ⟨s.data ++ (b :: bs).toArray⟩ := by
      congr 1
      show s.data.push _ ++ _ = _
      simp
    rw [this]; exact h
theorem nConv_vp {s d : TypeId} {x : Value} {K : Value → Heap → Prop} {E : Value → Heap → Prop} {H : Heap} (h : nConv P s d x K H) : vp P (convert s d x) K E H := by
  replace h := tyD_elim h; obtain ⟨ds, hds, h⟩ := h
  replace h := tyD_elim h; obtain ⟨dd, hdd, h⟩ := h
  unfold convert
  refine vp_und hds ?_
  refine vp_und hdd ?_
  split at h
  · cases ds <;> exact h
  · cases ds <;> exact h
  · rename_i e s
    replace h := tyD_elim h; obtain ⟨de, hde, h⟩ := h
    split at h
    · have hm : vp P (underlying e >>= fun x => match x with | .int .u8 => Conv.stringToBytes e s | .int .i32 => Conv.stringToRunes e s | _ => stuck "Convert: string to a slice of what?") K E H := by
        refine vp_und hde ?_
        show vp P (Conv.stringToBytes e s) _ _ _
        unfold Conv.stringToBytes
        refine vp_bind' ?_
        unfold choose
        simp only [vp, Question.forced, Bool.false_eq_true, if_false]
        intro tape
        have hcut : s.size ≤ (Question.appendCap s.size 0 e).cut tape := by
          show s.size ≤ s.size + _; omega
        have h := h _ hcut
        generalize (Question.appendCap s.size 0 e).cut tape = cap at h hcut
        intro id hid
        have h := h id hid
        have e1 : (s.data.map fun b => Value.int .u8 b.toNat) ++ Array.replicate (cap - s.size) (Value.int .u8 0) = (bytesV s ++ List.replicate (cap - s.size) (Value.int .u8 0)).toArray := by
          apply Array.ext'
          simp [bytesV, byteV]
        have e2 : (bytesV s ++ List.replicate (cap - s.size) (Value.int .u8 0)).toArray.size = cap := by
          have : s.data.size = s.size := rfl
          simp [bytesV]; omega
        rw [e1]
        refine vp_bind' ?_
        refine vp_bind' ?_
        show vp P (Sem.shape _ _) _ _ _
        simp only [vp, Heap.set_self]
        refine vp_bind (freeze { block := id, off := (bytesV s ++ List.replicate (cap - s.size) (Value.int .u8 0)).toArray.size } 1) _ ?_
        unfold freeze
        simp only [vp, Heap.set_self]
        simp only [Nat.one_ne_zero, if_false, BEq.rfl, if_true, Heap.set_set]
        rw [e2]
        exact h
      cases ds <;> exact hm
    · exact h.elim
  · rename_i p n c
    split at h
    · rename_i e
      replace h := tyD_elim h; obtain ⟨de, hde, h⟩ := h
      split at h
      · obtain ⟨bs, hl, hr, h⟩ := h
        show vp P (underlying e >>= _) _ _ _
        refine vp_und hde ?_
        show vp P (Conv.bytesToString _) _ _ _
        unfold Conv.bytesToString
        cases p with
        | none =>
          have : bs = [] := by simpa [Heap.rdS] using hr
          subst this
          exact h
        | some ad =>
          show vp P (loadCells ad n >>= _) _ _ _
          refine vp_loadCells (by simpa using hl) hr ?_
          rw [← Array.forIn_toList]
          refine bytes_loop bs .empty ?_
          have : (⟨ByteArray.empty.data ++ bs.toArray⟩ : ByteArray) = ⟨bs.toArray⟩ := by congr 1; simp
          rw [this]; exact h
      · exact h.elim
    · exact h.elim
  · rename_i e a n c
    split at h
    · split at h
      · rename_i hb
        replace h := tyD_elim h; obtain ⟨de, hde, h⟩ := h
        split at h
        · obtain ⟨cs, t, h1, h⟩ := h
          show vp P (underlying e >>= _) _ _ _
          refine vp_und hde ?_
          have hb : (s == d) = true := by simpa using hb
          rw [hb]
          show vp P (markStringish a >>= _) _ _ _
          refine vp_bind' ?_
          unfold markStringish
          show vp P (Sem.shape _ _) _ _ _
          simp only [vp, h1]
          unfold freeze
          show vp P (Sem.freeze _ _ _) _ _ _
          simp only [vp, h1, Nat.one_ne_zero, if_false, BEq.rfl, if_true]
          exact h
        · exact h.elim
      · exact h.elim
    · exact h.elim
  · exact h.elim
theorem nClear_vp {ats : Array TypeId} {ty : TypeId} {args : Array Value} {K : Value → Heap → Prop} {E : Value → Heap → Prop} {H : Heap} (h : nClear P ats.toList args.toList K H) : vp P (Builtin.clear_ ats ty args) K E H := by
  unfold nClear at h
  split at h
  · rename_i t p n c hts hargs
    replace h := tyD_elim h; obtain ⟨d, hd, h⟩ := h
    split at h
    · rename_i e
      replace h := tyI_elim h; obtain ⟨i, hi, h⟩ := h
      replace h := tyZ_elim h; obtain ⟨i', z, hi', hz, hs, h⟩ := h
      have ht0 : ats[0]? = some t := by rw [← Array.getElem?_toList, hts]; rfl
      have hx0 : args[0]? = some (.slice p n c) := by rw [← Array.getElem?_toList, hargs]; rfl
      unfold Builtin.clear_
      simp only [ht0, hx0]
      refine vp_und hd ?_
      cases p with
      | none =>
        cases n with
        | zero => exact h
        | succ n =>
          unfold wrS at h
          split at h
          · exact h
          · exact h.elim
      | some a =>
        cases n with
        | zero => exact h
        | succ n =>
          show vp P (zeroValue e >>= _) _ _ _
          refine vp_zero hi' hz ?_
          rw [zeroCells_eq, List.toList_toArray]
          refine vp_bind' ?_
          unfold wrS at h
          split at h
          · rename_i he; rw [he]; exact h
          · rename_i v l he
            rw [he]
            exact wr_vp h
    · exact h.elim
  · exact h.elim
end Go.V

/- Ranges over a string: the two operations. -/
namespace Go.V
set_option linter.constructorNameAsVariable false
set_option linter.unusedVariables false
section
variable (P : Program)
def nRange (t : TypeId) (x : Value) (K : Value → Heap → Prop) (H : Heap) : Prop := tyD P t fun d => match d, x with
  | .string, .string s => nw (.stringIter s 0) H fun i H => K (.pointer (some ⟨i, 0, none⟩)) H
  | _, _ => False
end
def nx (q : Addr) (H : Heap) (Kt : Nat → Int → Heap → Prop) (Kf : Heap → Prop) : Prop :=
  q.off = 0 ∧ ∃ (s : ByteArray) (pos : Nat), H q.block = some (.stringIter s pos) ∧
    (pos < s.size → Kt pos (Utf8.decode s pos).1 (H.set q.block (.stringIter s (pos + (Utf8.decode s pos).2)))) ∧ (s.size ≤ pos → Kf H)
def nNext (it : Value) (b : Bool) (K : Value → Heap → Prop) (H : Heap) : Prop := match it, b with
  | .pointer p, true => ptr p fun q => nx q H (fun pos c H => K (.tuple #[.bool true, .int .i64 pos, .int .i32 c]) H) fun H => K (.tuple #[.bool false]) H
  | _, _ => False
variable {P : Program}
theorem nRange_vp {t : TypeId} {x : Value} {K : Value → Heap → Prop} {E : Value → Heap → Prop} {H : Heap} (h : nRange P t x K H) : vp P (Instr.range t x) K E H := by
  replace h := tyD_elim h; obtain ⟨d, hd, h⟩ := h
  split at h
  · unfold Instr.range
    refine vp_bind' ?_
    show vp P (match P.underlying t with | some d => pure d | none => stuck "no such type") _ _ _
    rw [hd]
    exact fun id hid => h id hid
  · exact h.elim
theorem nNext_vp {it : Value} {b : Bool} {t : TypeId} {K : Value → Heap → Prop} {E : Value → Heap → Prop} {H : Heap} (h : nNext it b K H) : vp P (Instr.next it b t) K E H := by
  unfold nNext at h
  split at h
  · rename_i p
    replace h := ptr_elim h
    obtain ⟨⟨r, o, sp⟩, rfl, ho, s, pos, hs, h1, h2⟩ := h
    have ho : o = 0 := ho
    subst ho
    unfold Instr.next
    dsimp only at hs h1 ⊢
    refine vp_bind' ?_
    unfold getObj
    simp only [vp, hs]
    by_cases hp : pos < s.size
    · rw [if_pos hp]
      refine vp_bind' ?_
      unfold setObj
      simp only [vp, hs]
      exact h1 hp
    · rw [if_neg hp]
      exact h2 (by omega)
  · exact h.elim
end Go.V
