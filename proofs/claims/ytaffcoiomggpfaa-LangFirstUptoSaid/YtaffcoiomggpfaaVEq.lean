/- '==' on flat structs and arrays. -/
import Derived.Test.YtaffcoiomggpfaaVOps
import Derived.Laws.StructEq
namespace Go.V
set_option linter.constructorNameAsVariable false
set_option linter.unusedVariables false
set_option linter.unusedSimpArgs false
variable {P : Program}

/-- What a computation comes to that touches no memory. -/
def det {α : Type} (P : Program) : Sem α → Option α
  | .pure a => some a
  | .program k => det P (k P)
  | .mark _ k => det P k
  | _ => none
theorem det_vp {α : Type} {s : Sem α} {a : α} {Q : α → Heap → Prop} {E : Value → Heap → Prop} {H : Heap} (h : det P s = some a) (hq : Q a H) : vp P s Q E H := by
  induction s with
  | pure b => simp only [det, Option.some.injEq] at h; subst h; exact hq
  | program k ih => exact ih P h
  | mark m k ih => exact ih h
  | _ => simp [det] at h
theorem det_bind {α β : Type} (s : Sem α) (f : α → Sem β) : det P (s >>= f) = (det P s).bind fun a => det P (f a) := by
  show det P (s.bind f) = _
  induction s with
  | pure b => rfl
  | program k ih => exact ih P
  | mark m k ih => exact ih
  | _ => rfl
theorem det_pure {α : Type} (a : α) : det P (pure a) = some a := rfl
theorem det_und (t : TypeId) : det P (underlying t) = P.underlying t := by
  show det P (match P.underlying t with | some d => pure d | none => stuck "no such type") = _
  cases P.underlying t <;> rfl
theorem det_info (t : TypeId) : det P (typeInfo t) = P.info? t := by
  show det P (match P.info? t with | some d => pure d | none => stuck "no such type") = _
  cases P.info? t <;> rfl
theorem det_isAgg {t : TypeId} {d : TypeDesc} (hd : P.underlying t = some d) : det P (isAgg t) = some (aggD d) := by
  unfold isAgg
  rw [det_bind, det_und, hd]
  cases d <;> rfl
theorem det_part {t : TypeId} {d : TypeDesc} {i : TypeInfo} (hd : P.underlying t = some d) (hi : P.info? t = some i) (cs : Array Value) (o : Nat) :
    det P (part t cs o) = match aggD d with
      | true => some (.agg ((cs.toList.drop o).take i.size).toArray)
      | false => cs[o]? := by
  unfold part sizeOf
  rw [det_bind, det_isAgg hd]
  have e : cs.extract o (o + i.size) = ((cs.toList.drop o).take i.size).toArray := by
    apply Array.ext'
    simp [List.extract_eq_take_drop]
  cases hg : aggD d
  · simp only [Option.bind_some, Bool.false_eq_true, if_false]
    cases cs[o]? <;> rfl
  · simp only [Option.bind_some, if_true, det_bind, det_info, hi, det_pure]
    rw [e]

theorem eqVs_append : ∀ (a b c d : List Value), a.length = b.length → eqVs (a ++ c) (b ++ d) = (eqVs a b && eqVs c d)
  | [], [], c, d, _ => by simp [eqVs]
  | x :: a, y :: b, c, d, h => by
    simp only [List.cons_append, eqVs]
    rw [eqVs_append a b c d (by simpa using h), Bool.and_assoc]
theorem conf_length : ∀ (l : List Shp) (vs : List Value), confB l vs = true → vs.length = l.length
  | [], [], _ => rfl
  | .i k :: l, .int k' n :: vs, h => by simp only [confB, Bool.and_eq_true] at h; simp [conf_length l vs h.2]
  | .b :: l, .bool b :: vs, h => by simp [conf_length l vs h]
  | .s :: l, .string s :: vs, h => by simp [conf_length l vs h]
theorem conf_append : ∀ (l m : List Shp) (vs : List Value), confB (l ++ m) vs = true → confB l (vs.take l.length) = true ∧ confB m (vs.drop l.length) = true
  | [], m, vs, h => by simp [confB]; exact h
  | .i k :: l, m, .int k' n :: vs, h => by
    simp only [List.cons_append, confB, Bool.and_eq_true, List.length_cons, List.take_succ_cons, List.drop_succ_cons] at *
    have := conf_append l m vs h.2
    exact ⟨⟨h.1, this.1⟩, this.2⟩
  | .b :: l, m, .bool b :: vs, h => by
    simp only [List.cons_append, confB, List.length_cons, List.take_succ_cons, List.drop_succ_cons] at *
    exact conf_append l m vs h
  | .s :: l, m, .string b :: vs, h => by
    simp only [List.cons_append, confB, List.length_cons, List.take_succ_cons, List.drop_succ_cons] at *
    exact conf_append l m vs h
/-- A value of a type, out of its cells. -/
def wrapV (P : Program) (t : TypeId) (vs : List Value) : Value := match aggD (und P t) with
  | true => .agg vs.toArray
  | false => vs.headD undef
theorem det_fields {d : Nat} {xs ys : List Value} (n : Nat) (hrec : ∀ (t : TypeId) (as bs : List Value), flatB P n t = true → confB (leafs P n t) as = true → confB (leafs P n t) bs = true →
      det P (Op.equalIn d t (wrapV P t as) (wrapV P t bs)) = some (eqVs as bs)) :
    ∀ (fs : List Field) (o : Nat), offsB P (leafs P n) o fs = true → (fs.all fun f => !(f.name == "_") && flatB P n f.type) = true →
      confB (fs.flatMap fun f => leafs P n f.type) (xs.drop o) = true → confB (fs.flatMap fun f => leafs P n f.type) (ys.drop o) = true →
      det P (Op.eqFields d xs.toArray ys.toArray fs) = some (eqVs (xs.drop o) (ys.drop o))
  | [], o, h1, h2, h3, h4 => by
    have e1 := List.eq_nil_of_length_eq_zero (conf_length _ _ h3)
    have e2 := List.eq_nil_of_length_eq_zero (conf_length _ _ h4)
    simp only [List.flatMap_nil] at h3 h4
    rw [e1, e2]; rfl
  | f :: fs, o, h1, h2, h3, h4 => by
    simp only [offsB, Bool.and_eq_true] at h1
    obtain ⟨ho, h1⟩ := h1
    have ho := Nat.eq_of_beq_eq_true ho
    simp only [List.all_cons, Bool.and_eq_true] at h2
    obtain ⟨⟨hn, hf⟩, h2⟩ := h2
    cases hi : P.info? f.type with
    | none => rw [hi] at h1; simp at h1
    | some i =>
      rw [hi] at h1
      simp only [Bool.and_eq_true] at h1
      have hl := Nat.eq_of_beq_eq_true h1.1
      simp only [List.flatMap_cons] at h3 h4
      obtain ⟨a1, a2⟩ := conf_append _ _ _ h3
      obtain ⟨b1, b2⟩ := conf_append _ _ _ h4
      rw [List.drop_drop] at a2 b2
      rw [hl] at a1 a2 b1 b2
      have ih := det_fields n hrec fs (o + i.size) h1.2 h2 a2 b2
      have hname : f.name ≠ "_" := by simpa using hn
      unfold Op.eqFields
      rw [if_pos hname]
      have hpart : ∀ (zs : List Value), confB (leafs P n f.type) ((zs.drop o).take i.size) = true → det P (part f.type zs.toArray f.offset) = some (wrapV P f.type ((zs.drop o).take i.size)) := by
        intro zs hz
        cases hd : P.underlying f.type with
        | none => cases n with
          | zero => simp [flatB] at hf
          | succ n => simp [flatB, hd] at hf
        | some dd =>
          rw [det_part hd hi, ho]
          unfold wrapV und
          rw [hd]
          simp only [Option.getD_some]
          cases hg : aggD dd
          · simp only []
            have hlen := conf_length _ _ hz
            have h1' : (leafs P n f.type).length = 1 := by
              cases n with
              | zero => simp [flatB] at hf
              | succ n =>
                simp only [leafs, und, hd, Option.getD_some]
                cases dd <;> first | rfl | cases hg
            rw [h1'] at hlen
            rw [List.getElem?_toArray]
            cases hz2 : zs.drop o with
            | nil => rw [hz2] at hlen; simp at hlen
            | cons z l =>
              have : zs[o]? = some z := by
                have := congrArg List.head? hz2
                rw [List.head?_drop] at this; exact this
              rw [this]
              cases hs : i.size with
              | zero => rw [hs] at hlen; simp at hlen
              | succ k => simp
          · simp only [List.toList_toArray]
      rw [det_bind, hpart xs a1]
      simp only [Option.bind_some]
      rw [det_bind, hpart ys b1]
      simp only [Option.bind_some]
      rw [det_bind, hrec f.type _ _ hf a1 b1]
      simp only [Option.bind_some]
      have hx : xs.drop o = (xs.drop o).take i.size ++ xs.drop (o + i.size) := by rw [← List.drop_drop]; exact (List.take_append_drop _ _).symm
      have hy : ys.drop o = (ys.drop o).take i.size ++ ys.drop (o + i.size) := by rw [← List.drop_drop]; exact (List.take_append_drop _ _).symm
      have hsplit : eqVs (xs.drop o) (ys.drop o) = (eqVs ((xs.drop o).take i.size) ((ys.drop o).take i.size) && eqVs (xs.drop (o + i.size)) (ys.drop (o + i.size))) := by
        conv => lhs; rw [hx, hy]
        exact eqVs_append _ _ _ _ ((conf_length _ _ a1).trans (conf_length _ _ b1).symm)
      rw [hsplit]
      cases eqVs ((xs.drop o).take i.size) ((ys.drop o).take i.size)
      · rfl
      · simpa using ih
theorem det_struct (d : Nat) (t : TypeId) (fs : Array Field) (xs ys : Array Value) (ht : P.underlying t = some (.struct fs)) (hp : P.stoodInHeld t = false) :
    det P (Op.equalIn (d + 1) t (.agg xs) (.agg ys)) = det P (Op.eqFields d xs ys fs.toList) := by
  simp only [Op.equalIn]
  rw [det_bind, det_und, ht]
  simp only [Option.bind_some]
  rw [det_bind]
  show ((some P).bind _) = _
  simp only [Option.bind_some, hp, Bool.false_eq_true, if_false]
  rw [← Array.forIn_toList]
  generalize fs.toList = l
  clear ht
  rw [det_bind]
  induction l with
  | nil => rfl
  | cons f l ih =>
    simp only [List.forIn_cons, Op.eqFields]
    by_cases hn : f.name = "_"
    · simp only [hn, ne_eq, not_true, if_false, pure_bind] at ih ⊢
      exact ih
    · simp only [ne_eq, hn, not_false_eq_true, if_true, bind_assoc]
      simp only [det_bind, Option.bind_assoc]
      cases det P (part f.type xs f.offset) with
      | none => rfl
      | some a =>
        simp only [Option.bind_some]
        cases det P (part f.type ys f.offset) with
        | none => rfl
        | some b =>
          simp only [Option.bind_some]
          cases det P (Op.equalIn d f.type a b) with
          | none => rfl
          | some r =>
            cases r
            · rfl
            · simp only [Option.bind_some, Bool.not_true, Bool.false_eq_true, if_false, if_true, pure_bind]
              exact ih
theorem part_flat {n : Nat} {t : TypeId} {i : TypeInfo} {zs : List Value} {o : Nat} (hf : flatB P n t = true) (hi : P.info? t = some i) (hl : (leafs P n t).length = i.size)
    (hz : confB (leafs P n t) ((zs.drop o).take i.size) = true) : det P (part t zs.toArray o) = some (wrapV P t ((zs.drop o).take i.size)) := by
  cases hd : P.underlying t with
  | none => cases n with
    | zero => simp [flatB] at hf
    | succ n => simp [flatB, hd] at hf
  | some dd =>
    rw [det_part hd hi]
    unfold wrapV und
    rw [hd]
    simp only [Option.getD_some]
    cases hg : aggD dd
    · simp only []
      have hlen := conf_length _ _ hz
      have h1' : (leafs P n t).length = 1 := by
        cases n with
        | zero => simp [flatB] at hf
        | succ n =>
          simp only [leafs, und, hd, Option.getD_some]
          cases dd <;> first | rfl | cases hg
      rw [h1'] at hlen
      rw [List.getElem?_toArray]
      cases hz2 : zs.drop o with
      | nil => rw [hz2] at hlen; simp at hlen
      | cons z l =>
        have : zs[o]? = some z := by
          have := congrArg List.head? hz2
          rw [List.head?_drop] at this; exact this
        rw [this]
        cases hs : i.size with
        | zero => rw [hs] at hlen; simp at hlen
        | succ k => simp
    · rfl
theorem det_array (d n : Nat) (t e : TypeId) (len : Nat) (i : TypeInfo) (xs ys : List Value) (ht : P.underlying t = some (.array len e)) (hi : P.info? e = some i)
    (hf : flatB P n e = true) (hl : (leafs P n e).length = i.size)
    (hrec : ∀ (as bs : List Value), confB (leafs P n e) as = true → confB (leafs P n e) bs = true → det P (Op.equalIn d e (wrapV P e as) (wrapV P e bs)) = some (eqVs as bs))
    (hx : confB (rep len (leafs P n e)) xs = true) (hy : confB (rep len (leafs P n e)) ys = true) :
    det P (Op.equalIn (d + 1) t (.agg xs.toArray) (.agg ys.toArray)) = some (eqVs xs ys) := by
  simp only [Op.equalIn]
  rw [det_bind, det_und, ht]
  simp only [Option.bind_some]
  rw [det_bind]
  have hsz : det P (sizeOf e) = some i.size := by
    unfold sizeOf; rw [det_bind, det_info, hi]; rfl
  rw [hsz]
  simp only [Option.bind_some]
  simp only [Std.Legacy.Range.forIn_eq_forIn_range', Std.Legacy.Range.size, Nat.sub_zero, Nat.add_sub_cancel, Nat.div_one]
  suffices h : ∀ (c : Option Bool × Unit → Sem Bool), c (none, ()) = pure true → c (some false, ()) = pure false → ∀ (m k : Nat), confB (rep m (leafs P n e)) (xs.drop (k * i.size)) = true → confB (rep m (leafs P n e)) (ys.drop (k * i.size)) = true →
      det P (do
        let r ← forIn (List.range' k m 1) ((none, ()) : Option Bool × Unit) fun j _ => (do
          let a ← part e xs.toArray (j * i.size)
          let b ← part e ys.toArray (j * i.size)
          let r ← Op.equalIn d e a b
          if (!r) = true then pure (ForInStep.done (some false, ())) else pure (ForInStep.yield (none, ())) : Sem _)
        c r) = some (eqVs (xs.drop (k * i.size)) (ys.drop (k * i.size))) by
    have := fun c h1 h2 => h c h1 h2 len 0 (by simpa using hx) (by simpa using hy)
    simp only [Nat.zero_mul, List.drop_zero] at this
    exact this _ rfl rfl
  intro c hc1 hc2
  intro m
  induction m with
  | zero =>
    intro k h1 h2
    have e1 := List.eq_nil_of_length_eq_zero (conf_length _ _ h1)
    have e2 := List.eq_nil_of_length_eq_zero (conf_length _ _ h2)
    rw [e1, e2]
    show det P (c (none, ())) = _
    rw [hc1]; rfl
  | succ m ih =>
    intro k h3 h4
    obtain ⟨a1, a2⟩ := conf_append _ _ _ h3
    obtain ⟨b1, b2⟩ := conf_append _ _ _ h4
    rw [List.drop_drop] at a2 b2
    rw [hl] at a1 a2 b1 b2
    have hk : k * i.size + i.size = (k + 1) * i.size := by rw [Nat.add_mul, Nat.one_mul]
    rw [hk] at a2 b2
    have ih := ih (k + 1) a2 b2
    simp only [List.range'_succ, List.forIn_cons, bind_assoc]
    rw [det_bind, part_flat hf hi hl a1]
    simp only [Option.bind_some]
    rw [det_bind, part_flat hf hi hl b1]
    simp only [Option.bind_some]
    rw [det_bind, hrec _ _ a1 b1]
    simp only [Option.bind_some]
    have hx : xs.drop (k * i.size) = (xs.drop (k * i.size)).take i.size ++ xs.drop ((k + 1) * i.size) := by rw [← hk, ← List.drop_drop]; exact (List.take_append_drop _ _).symm
    have hy : ys.drop (k * i.size) = (ys.drop (k * i.size)).take i.size ++ ys.drop ((k + 1) * i.size) := by rw [← hk, ← List.drop_drop]; exact (List.take_append_drop _ _).symm
    have hsplit : eqVs (xs.drop (k * i.size)) (ys.drop (k * i.size)) = (eqVs ((xs.drop (k * i.size)).take i.size) ((ys.drop (k * i.size)).take i.size) && eqVs (xs.drop ((k + 1) * i.size)) (ys.drop ((k + 1) * i.size))) := by
      conv => lhs; rw [hx, hy]
      exact eqVs_append _ _ _ _ ((conf_length _ _ a1).trans (conf_length _ _ b1).symm)
    rw [hsplit]
    cases eqVs ((xs.drop (k * i.size)).take i.size) ((ys.drop (k * i.size)).take i.size)
    · show det P (c (some false, ())) = _
      rw [hc2]; rfl
    · simp only [Bool.not_true, Bool.false_eq_true, if_false, pure_bind, Bool.true_and]
      exact ih
theorem conf1 {k : IntKind} : ∀ {as : List Value}, confB [.i k] as = true → ∃ n, as = [.int k n]
  | [.int k' n], h => by
    simp only [confB, Bool.and_eq_true, decide_eq_true_eq, and_true] at h
    exact ⟨n, by rw [h]⟩
  | .int k' n :: _ :: _, h => by simp [confB] at h
theorem det_equal : ∀ (n d : Nat) (t : TypeId) (as bs : List Value), n ≤ d → flatB P n t = true → confB (leafs P n t) as = true → confB (leafs P n t) bs = true →
    det P (Op.equalIn d t (wrapV P t as) (wrapV P t bs)) = some (eqVs as bs)
  | 0, _, _, _, _, _, hf, _, _ => by simp [flatB] at hf
  | n + 1, 0, _, _, _, hd, _, _, _ => absurd hd (by omega)
  | n + 1, d + 1, t, as, bs, hd, hf, ha, hb => by
    have hrec := fun t as bs => det_equal n d t as bs (by omega)
    cases ht : P.underlying t with
    | none => simp [flatB, ht] at hf
    | some dd =>
      have hu : und P t = dd := by simp [und, ht]
      cases dd with
      | struct fs =>
        simp only [flatB, ht, Bool.and_eq_true] at hf
        simp only [leafs, hu] at ha hb
        simp only [wrapV, hu, aggD]
        rw [det_struct d t fs _ _ ht (by simpa using hf.1.1)]
        have := det_fields (xs := as) (ys := bs) n (fun t as bs h1 h2 h3 => hrec t as bs h1 h2 h3) fs.toList 0 hf.1.2 hf.2 (by simpa using ha) (by simpa using hb)
        simpa using this
      | array len e =>
        simp only [flatB, ht, Bool.and_eq_true] at hf
        simp only [leafs, hu] at ha hb
        simp only [wrapV, hu, aggD]
        obtain ⟨hf, h2⟩ := hf
        cases hi : P.info? e with
        | none => rw [hi] at h2; simp at h2
        | some i =>
          rw [hi] at h2
          simp only [Bool.and_eq_true] at h2
          exact det_array d n t e len i as bs ht hi hf (Nat.eq_of_beq_eq_true h2.1) (fun as bs h1 h2 => hrec e as bs hf h1 h2) ha hb
      | int k =>
        simp only [leafs, hu, shpD] at ha hb
        obtain ⟨a, rfl⟩ := conf1 ha
        obtain ⟨b, rfl⟩ := conf1 hb
        simp only [wrapV, hu, aggD, List.headD_cons, Op.equalIn]
        rw [det_bind, det_und, ht]
        simp [eqVs, eqV, det_pure]
      | bool =>
        simp only [leafs, hu, shpD] at ha hb
        match as, bs, ha, hb with
        | [.bool a], [.bool b], ha, hb =>
          simp only [wrapV, hu, aggD, List.headD_cons, Op.equalIn]
          rw [det_bind, det_und, ht]
          simp [eqVs, eqV, det_pure]
      | string =>
        simp only [leafs, hu, shpD] at ha hb
        match as, bs, ha, hb with
        | [.string a], [.string b], ha, hb =>
          simp only [wrapV, hu, aggD, List.headD_cons, Op.equalIn]
          rw [det_bind, det_und, ht]
          simp [eqVs, eqV, det_pure]
      | _ => simp [flatB, ht] at hf
end Go.V
