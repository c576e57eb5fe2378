import Derived.Test.YtombjgnlpdnclaaVIter
/- Maps with flat keys: make, lookup, update. -/
namespace Go.V
set_option linter.constructorNameAsVariable false
set_option linter.unusedVariables false
section
variable (P : Program)
def scalT (t : TypeId) : Bool := match P.underlying t with
  | some d => scalarD d
  | none => false
def keyB (t : TypeId) : Bool := flatB P 20 t && match P.underlying t with
  | some (.struct fs) => fs.toList.all fun f => scalT P f.type && Nat.blt f.offset (leafs P 20 t).length && (P.info? f.type).isSome
  | some d => scalarD d
  | none => false
def aggV : Value → Bool
  | .agg _ => true
  | _ => false
def keyOkB (t : TypeId) (k : Value) : Bool := Bool.xor (aggD (und P t)) (!aggV k) && confB (leafs P 20 t) k.cells.toList
def findC (ks : List Value) : List MapEntry → Nat → Option (Nat × Value)
  | [], _ => none
  | e :: es, i => if eqVs ks e.key.cells.toList = true then some (i, e.val) else findC ks es (i + 1)
def mgets (kt : TypeId) (m : Option Nat) (k z : Value) (H : Heap) (v : Value) (ok : Bool) : Prop := match m with
  | none => v = z ∧ ok = false
  | some r => ∃ (es : Array MapEntry) (clk : Nat), H r = some (.map es clk) ∧ (∀ e ∈ es.toList, keyOkB P kt e.key = true) ∧ (v, ok) = match findC k.cells.toList es.toList 0 with
    | some x => (x.2, true)
    | none => (z, false)
def mput (es : Array MapEntry) (clk : Nat) (k v : Value) : Obj := match findC k.cells.toList es.toList 0 with
  | some x => .map (es.modify x.1 fun e => { e with key := k, val := v }) clk
  | none => .map (es.push { key := k, val := v, born := clk }) (clk + 1)
def msets (kt : TypeId) (m : Option Nat) (k v : Value) (H : Heap) (K : Heap → Prop) : Prop :=
  ∃ (r : Nat) (es : Array MapEntry) (clk : Nat), m = some r ∧ H r = some (.map es clk) ∧ (∀ e ∈ es.toList, keyOkB P kt e.key = true) ∧ K (H.set r (mput es clk k v))
def nMakeMap (r : Option Value) (K : Value → Heap → Prop) (H : Heap) : Prop := match r with
  | none => nw (.map #[] 0) H fun i H => K (.map (some i)) H
  | some _ => False
def nLookup (t : TypeId) (x ix : Value) (ok : Bool) (K : Value → Heap → Prop) (H : Heap) : Prop := tyD P t fun d => match d, x with
  | .map kt et, .map m => match keyB P kt && keyOkB P kt ix with
    | true => tyI P et fun inf => match inf.zero with
      | some z => tyD P et fun de => match aggD de with
        | false => exS (shpD de) fun v => ∃ b : Bool, mgets P kt m ix z H v b ∧ match ok with
          | true => K (.tuple #[v, .bool b]) H
          | false => K v H
        | true => False
      | none => False
    | false => False
  | _, _ => False
def nMapUpd (t : TypeId) (m k v : Value) (K : Value → Heap → Prop) (H : Heap) : Prop := tyD P t fun d => match d, m with
  | .map kt _, .map m => match keyB P kt && keyOkB P kt k with
    | true => msets P kt m k v H fun H => K undef H
    | false => False
  | _, _ => False
end
variable {P : Program}
theorem nMakeMap_vp {t : TypeId} {r : Option Value} {K : Value → Heap → Prop} {E : Value → Heap → Prop} {H : Heap} (h : nMakeMap r K H) : vp P (Instr.makeMap t r) K E H := by
  unfold nMakeMap at h
  split at h
  · exact fun id hid => h id hid
  · exact h.elim
theorem det_for {α : Type} (l : List α) (f : α → PUnit → Sem (ForInStep PUnit)) (h : ∀ a ∈ l, det P (f a ⟨⟩) = some (.yield ⟨⟩)) : det P (forIn l PUnit.unit f) = some ⟨⟩ := by
  induction l with
  | nil => rfl
  | cons a l ih =>
    rw [List.forIn_cons, det_bind, h a (by simp)]
    exact ih fun b hb => h b (by simp [hb])
theorem scal_check {em : Bool} {n : Nat} {t : TypeId} {v : Value} (h : scalT P t = true) : det P (Instr.checkKey em (n + 1) t v) = some () := by
  unfold scalT at h
  cases hd : P.underlying t with
  | none => rw [hd] at h; cases h
  | some d =>
    rw [hd] at h
    unfold Instr.checkKey
    rw [det_bind, det_und, hd]
    cases d <;> first | rfl | cases h
theorem key_check {em : Bool} {n : Nat} {t : TypeId} {k : Value} (h : keyB P t = true) (hk : keyOkB P t k = true) : det P (Instr.checkKey em (n + 2) t k) = some () := by
  unfold keyB at h
  unfold keyOkB at hk
  simp only [Bool.and_eq_true] at h hk
  obtain ⟨hf, h⟩ := h
  obtain ⟨hk1, hk2⟩ := hk
  cases hd : P.underlying t with
  | none => rw [hd] at h; cases h
  | some d =>
    rw [hd] at h
    unfold Instr.checkKey
    rw [det_bind, det_und, hd]
    have hag : aggD (und P t) = aggD d := by unfold und; rw [hd]; rfl
    rw [hag] at hk1
    cases d <;> first | rfl | cases h | skip
    rename_i fs
    cases k <;> first | (simp [aggD, aggV] at hk1; done) | skip
    rename_i cs
    have hlen := conf_length _ _ hk2
    simp only [Option.bind_some]
    rw [← Array.forIn_toList, det_bind, det_for]
    · rfl
    intro f hfm
    rw [List.all_eq_true] at h
    have h1 := h f hfm
    simp only [Bool.and_eq_true] at h1
    obtain ⟨⟨s1, s2⟩, s3⟩ := h1
    have s2 : f.offset < (leafs P 20 t).length := by simpa using s2
    have hc : f.offset < cs.size := by
      have : (Value.agg cs).cells = cs := rfl
      rw [this, Array.length_toList] at hlen; omega
    cases hdf : P.underlying f.type with
    | none => unfold scalT at s1; rw [hdf] at s1; cases s1
    | some df =>
      cases hif : P.info? f.type with
      | none => rw [hif] at s3; cases s3
      | some inf =>
        have hp := det_part (P := P) hdf hif cs f.offset
        have hna : aggD df = false := by
          unfold scalT at s1; rw [hdf] at s1
          cases df <;> first | rfl | cases s1
        rw [hna] at hp
        simp only [] at hp
        by_cases hn : f.name ≠ "_"
        · rw [if_pos hn, det_bind, hp, Array.getElem?_eq_getElem hc]
          simp only [Option.bind_some]
          rw [det_bind, scal_check s1]; rfl
        · rw [if_neg hn]; rfl
theorem wrap_key {t : TypeId} {k : Value} (hk : keyOkB P t k = true) : wrapV P t k.cells.toList = k := by
  unfold keyOkB at hk
  simp only [Bool.and_eq_true] at hk
  obtain ⟨h1, h2⟩ := hk
  unfold wrapV
  cases hg : aggD (und P t)
  · rw [hg] at h1
    cases k <;> first | rfl | (simp [aggV] at h1; done)
  · rw [hg] at h1
    cases k <;> first | rfl | (simp [aggV] at h1; done)
theorem key_equal {t : TypeId} {a b : Value} (h : keyB P t = true) (ha : keyOkB P t a = true) (hb : keyOkB P t b = true) : det P (Op.equal t a b) = some (eqVs a.cells.toList b.cells.toList) := by
  unfold keyB at h
  simp only [Bool.and_eq_true] at h
  have e1 := wrap_key ha
  have e2 := wrap_key hb
  unfold keyOkB at ha hb
  simp only [Bool.and_eq_true] at ha hb
  have := det_equal 20 Op.maxDepth t a.cells.toList b.cells.toList (by decide) h.1 ha.2 hb.2
  rw [e1, e2] at this
  exact this
theorem asking {t : TypeId} {k : Value} (h : keyB P t = true) (hk : keyOkB P t k = true) : ∀ (es : List MapEntry) (i : Nat), (∀ e ∈ es, keyOkB P t e.key = true) → det P (Instr.findAsking t k es i) = some (findC k.cells.toList es i)
  | [], i, _ => rfl
  | e :: es, i, he => by
    unfold Instr.findAsking findC
    rw [det_bind, key_equal h hk (he e (by simp))]
    simp only [Option.bind_some]
    cases eqVs k.cells.toList e.key.cells.toList
    · simp only [Bool.false_eq_true, if_false]
      exact asking h hk es (i + 1) fun e he' => he e (by simp [he'])
    · rfl
theorem now_eq {d : TypeDesc} {a b : Value} {r : Bool} (ha : aggV a = false) (hb : aggV b = false) (h : Instr.sameNow d a b = some r) : r = eqVs a.cells.toList b.cells.toList := by
  unfold Instr.sameNow at h
  split at h
  · split at h
    · obtain rfl := Option.some.inj h
      simp [Value.cells, eqVs, eqV]
    · cases h
  · obtain rfl := Option.some.inj h
    simp [Value.cells, eqVs, eqV]
  · obtain rfl := Option.some.inj h
    simp [Value.cells, eqVs, eqV]
  · cases h
theorem finding {d : TypeDesc} {k : Value} (hk : aggV k = false) : ∀ (es : List MapEntry) (i : Nat) (r : Option (Nat × Value)), (∀ e ∈ es, aggV e.key = false) → Instr.findNow d k es i = some r → r = findC k.cells.toList es i
  | [], i, r, _, h => (Option.some.inj h).symm
  | e :: es, i, r, he, h => by
    unfold Instr.findNow at h
    unfold findC
    cases hs : Instr.sameNow d k e.key with
    | none => rw [hs] at h; cases h
    | some b =>
      have e1 := now_eq hk (he e (by simp)) hs
      rw [hs] at h
      subst e1
      cases hq : eqVs k.cells.toList e.key.cells.toList
      · rw [hq] at h
        simp only [Bool.false_eq_true, if_false]
        exact finding hk es (i + 1) r (fun e he' => he e (by simp [he'])) h
      · rw [hq] at h
        rw [if_pos rfl]
        exact (Option.some.inj h).symm
theorem key_find {t : TypeId} {k : Value} {es : List MapEntry} (h : keyB P t = true) (hk : keyOkB P t k = true) (he : ∀ e ∈ es, keyOkB P t e.key = true) : det P (Instr.findKey t k es) = some (findC k.cells.toList es 0) := by
  unfold Instr.findKey
  rw [det_bind, det_und]
  cases hd : P.underlying t with
  | none => unfold keyB at h; simp [hd] at h
  | some d =>
    simp only [Option.bind_some]
    cases hn : Instr.findNow d k es 0 with
    | none => exact asking h hk es 0 he
    | some r =>
      simp only [det_pure]
      cases es with
      | nil => rw [← Option.some.inj hn]; rfl
      | cons e es =>
        have hag : aggD d = false := by
          cases d <;> first | rfl | skip
          · unfold Instr.findNow Instr.sameNow at hn; simp at hn
          · unfold Instr.findNow Instr.sameNow at hn; simp at hn
        have hu : und P t = d := by unfold und; rw [hd]; rfl
        have na : ∀ v, keyOkB P t v = true → aggV v = false := fun v hv => by
          unfold keyOkB at hv
          rw [hu, hag] at hv
          cases hv2 : aggV v
          · rfl
          · rw [hv2] at hv; simp at hv
        rw [finding (na k hk) (e :: es) 0 r (fun e he' => na _ (he e he')) hn]
theorem nLookup_vp {t : TypeId} {x ix : Value} {ok : Bool} {K : Value → Heap → Prop} {E : Value → Heap → Prop} {H : Heap} (h : nLookup P t x ix ok K H) : vp P (Instr.lookup t x ix ok) K E H := by
  replace h := tyD_elim h; obtain ⟨d, hd, h⟩ := h
  split at h
  · rename_i kt et m
    split at h
    · rename_i hkk
      simp only [Bool.and_eq_true] at hkk
      obtain ⟨h1, h2⟩ := hkk
      replace h := tyI_elim h; obtain ⟨inf, hi, h⟩ := h
      split at h
      · rename_i z hz
        replace h := tyD_elim h; obtain ⟨de, hde, h⟩ := h
        split at h
        · rename_i hag
          replace h := exS_elim h; obtain ⟨v, b, hm, hK⟩ := h
          have hfin : ∀ (es : Array MapEntry), (∀ e ∈ es.toList, keyOkB P kt e.key = true) → ((v, b) = match findC ix.cells.toList es.toList 0 with | some x => (x.2, true) | none => (z, false)) →
              vp P (do
                Instr.checkKey es.isEmpty 10000 kt ix
                let (v, ok') ← match ← Instr.findKey kt ix es.toList with
                  | some (_, v) => pure (v, true)
                  | none => pure (← zeroValue et, false)
                pure (if ok then .tuple #[v, .bool ok'] else v) : Sem Value) K E H := by
            intro es hes hv
            refine vp_bind' (det_vp (a := ()) (key_check (n := 9998) h1 h2) ?_)
            refine vp_bind' (det_vp (key_find h1 h2 hes) ?_)
            cases hf : findC ix.cells.toList es.toList 0 with
            | none =>
              rw [hf] at hv
              obtain ⟨rfl, rfl⟩ := Prod.mk.inj hv
              refine vp_zero hi hz ?_
              cases ok <;> exact hK
            | some x =>
              rw [hf] at hv
              obtain ⟨rfl, rfl⟩ := Prod.mk.inj hv
              cases ok <;> exact hK
          unfold Instr.lookup
          refine vp_und hd ?_
          simp only []
          cases m with
          | none =>
            obtain ⟨rfl, rfl⟩ := hm
            exact vp_bind' (hfin #[] (by simp) rfl)
          | some r =>
            obtain ⟨es, clk, hr, hes, hv⟩ := hm
            refine vp_bind' ?_
            unfold getObj
            simp only [vp, hr]
            exact vp_bind' (hfin es hes hv)
        · exact h.elim
      · exact h.elim
    · exact h.elim
  · exact h.elim
theorem ba_eq {a b : ByteArray} : (a == b) = true ↔ a = b := by
  cases a; cases b
  constructor
  · intro h
    have h : (_ == _) = true := h
    congr
    exact eq_of_beq h
  · intro h; cases h; exact beq_self_eq_true (α := Array UInt8) _
theorem same_conf : ∀ (S : List Shp) (as bs : List Value), confB S as = true → confB S bs = true → eqVs as bs = true → as = bs
  | [], [], [], _, _, _ => rfl
  | .i k :: S, .int k1 a :: as, .int k2 b :: bs, h1, h2, h => by
    simp only [confB, Bool.and_eq_true, decide_eq_true_eq] at h1 h2
    simp only [eqVs, eqV, Bool.and_eq_true, beq_iff_eq] at h
    rw [← h1.1, ← h2.1, h.1, same_conf S as bs h1.2 h2.2 h.2]
  | .b :: S, .bool a :: as, .bool b :: bs, h1, h2, h => by
    simp only [confB] at h1 h2
    simp only [eqVs, eqV, Bool.and_eq_true, beq_iff_eq] at h
    rw [h.1, same_conf S as bs h1 h2 h.2]
  | .s :: S, .string a :: as, .string b :: bs, h1, h2, h => by
    simp only [confB] at h1 h2
    simp only [eqVs, eqV, Bool.and_eq_true] at h
    rw [ba_eq.1 h.1, same_conf S as bs h1 h2 h.2]
theorem bits_self : ∀ (S : List Shp) (as : List Value) (n : Nat), confB S as = true → ((as.zip as).all fun (x, y) => Instr.sameBits n x y) = true
  | [], [], _, _ => rfl
  | .i k :: S, .int k1 a :: as, n, h => by
    simp only [confB, Bool.and_eq_true] at h
    simp only [List.zip_cons_cons, List.all_cons, bits_self S as n h.2, Bool.and_true]
    cases n <;> simp [Instr.sameBits]
  | .b :: S, .bool a :: as, n, h => by
    simp only [confB] at h
    simp only [List.zip_cons_cons, List.all_cons, bits_self S as n h, Bool.and_true]
    cases n <;> simp [Instr.sameBits]
  | .s :: S, .string a :: as, n, h => by
    simp only [confB] at h
    simp only [List.zip_cons_cons, List.all_cons, bits_self S as n h, Bool.and_true]
    cases n <;> exact ba_eq.2 rfl
theorem key_bits {t : TypeId} {k : Value} (hk : keyOkB P t k = true) (n : Nat) : Instr.sameBits (n + 1) k k = true := by
  unfold keyOkB at hk
  simp only [Bool.and_eq_true] at hk
  have h2 := hk.2
  cases k
  case agg cs =>
    have := bits_self _ _ n h2
    simp only [Instr.sameBits, beq_self_eq_true, Bool.true_and]
    exact this
  all_goals
    have e := h2
    simp only [Value.cells] at e
    cases hl : leafs P 20 t with
    | nil => rw [hl] at e; simp [confB] at e
    | cons s S =>
      rw [hl] at e
      cases s <;> first | (simp [confB] at e; done) | (simp [Instr.sameBits]; done) | exact ba_eq.2 rfl
theorem find_get : ∀ {ks : List Value} {es : List MapEntry} {i : Nat} {x : Nat × Value}, findC ks es i = some x → i ≤ x.1 ∧ ∃ e, es[x.1 - i]? = some e ∧ eqVs ks e.key.cells.toList = true
  | ks, [], i, x, h => by cases h
  | ks, e :: es, i, x, h => by
    unfold findC at h
    split at h
    · rename_i he
      obtain rfl := Option.some.inj h
      exact ⟨Nat.le_refl _, e, by simp, he⟩
    · obtain ⟨h1, e', h2, h3⟩ := find_get h
      refine ⟨by omega, e', ?_, h3⟩
      rw [show x.1 - i = (x.1 - (i + 1)) + 1 by omega, List.getElem?_cons_succ]
      exact h2
theorem nMapUpd_vp {t : TypeId} {m k v : Value} {K : Value → Heap → Prop} {E : Value → Heap → Prop} {H : Heap} (h : nMapUpd P t m k v K H) : vp P (Instr.mapUpdate t m k v) (fun _ H => K undef H) E H := by
  replace h := tyD_elim h; obtain ⟨d, hd, h⟩ := h
  split at h
  · rename_i kt et m
    split at h
    · rename_i hkk
      simp only [Bool.and_eq_true] at hkk
      obtain ⟨h1, h2⟩ := hkk
      obtain ⟨r, es, clk, rfl, hr, hes, hK⟩ := h
      unfold Instr.mapUpdate
      refine vp_und hd ?_
      simp only []
      refine vp_bind' ?_
      unfold getObj
      simp only [vp, hr]
      refine vp_bind' (det_vp (a := ()) (key_check (n := 9998) h1 h2) ?_)
      refine vp_bind' (det_vp (key_find h1 h2 hes) ?_)
      unfold mput at hK
      cases hf : findC k.cells.toList es.toList 0 with
      | none =>
        rw [hf] at hK
        simp only []
        unfold setObj
        simp only [vp, hr]
        exact hK
      | some x =>
        rw [hf] at hK
        obtain ⟨i, w⟩ := x
        simp only [] at hK ⊢
        obtain ⟨_, e, he1, he2⟩ := find_get hf
        simp only [Nat.sub_zero, Array.getElem?_toList] at he1
        have hem : e ∈ es.toList := by rw [← Array.getElem?_toList] at he1; exact List.mem_of_getElem? he1
        have hek := hes e hem
        have hkey : e.key = k := by
          have c1 := h2
          have c2 := hek
          unfold keyOkB at c1 c2
          simp only [Bool.and_eq_true] at c1 c2
          have := same_conf _ _ _ c1.2 c2.2 he2
          rw [← wrap_key h2, ← wrap_key hek, this]
        rw [he1]
        simp only [Option.map_some, Option.getD_some, hkey]
        unfold Instr.keyThatStays
        rw [key_bits h2 9999]
        simp only [if_true, pure_bind]
        unfold setObj
        simp only [vp, hr]
        exact hK
    · exact h.elim
  · exact h.elim
end Go.V

/- The weakest precondition of code, and its soundness. -/
namespace Go.V
set_option linter.constructorNameAsVariable false
set_option linter.unusedVariables false

section
variable (P : Program)
def nApp (ts : List TypeId) (args : List Value) (K : Value → Heap → Prop) (H : Heap) : Prop :=
  match ts, args with
  | [t, tx], [.slice p n c, x] => tyD P tx fun d => match d with
    | .int _ => False
    | _ => app P t p n c x H fun p n c H => K (.slice p n c) H
  | _, _ => False
def vcOp (o : Oper) (ρ : Operand → Value) (K : Value → Heap → Prop) (E : Chain → Heap → Prop) (H : Heap) : Prop :=
  match o.op with
  | .move x | .assign x => K (ρ x) H
  | .pick c a b => nPick (ρ c) (ρ a) (ρ b) K H
  | .alloc e => nAlloc P e K H
  | .box e x => nBox e (ρ x) K H
  | .build t parts => nBuild P t (parts.toList.map fun p => (p.1, ρ p.2)) K H
  | .buildSlice t n parts => nBuildSlice P t n (parts.toList.map fun p => (p.1, ρ p.2)) K H
  | .load t a => nLoad P t (ρ a) K H
  | .store t a x => nStore P t (ρ a) (ρ x) K H
  | .nilCheck x => nNilCheck (ρ x) K H
  | .binOp op t x y _ => nBin P op t x y (ρ x) (ρ y) K (raise E) H
  | .convert s d x => nConv P s d (ρ x) K H
  | .unOp op _ x => nUn op (ρ x) K H
  | .extract x i => nExtract (ρ x) i K H
  | .makeInterface t x => nIface P t (ρ x) K H
  | .makeFunc fn first caps => K (.func fn (first.toList.map ρ).toArray (caps.toList.map ρ).toArray) H
  | .slice t x lo hi mx => nSlice P t (ρ x) (lo.map ρ) (hi.map ρ) (mx.map ρ) K H
  | .fieldAddr s x f => nFieldAddr P s (ρ x) f K H
  | .field t x f => nField P t (ρ x) f K H
  | .indexAddr t x i => nIndexAddr P t (ρ x) (ρ i) K H
  | .index t x i => nIndex P t (ρ x) (ρ i) K H
  | .makeSlice t l c => nMake P t (ρ l) (ρ c) K H
  | .range t x => nRange P t (ρ x) K H
  | .next it b => nNext (ρ it) b K H
  | .makeMap _ r => nMakeMap (r.map ρ) K H
  | .lookup t x ix ok => nLookup P t (ρ x) (ρ ix) ok K H
  | .mapUpdate t m k x => nMapUpd P t (ρ m) (ρ k) (ρ x) K H
  | .call c => match c.callee with
    | .value f => nCall P o.type E (ρ f) (c.args.toList.map ρ).toArray K H
    | .builtin .append => nApp P c.argTypes.toList (c.args.toList.map ρ) K H
    | .builtin .clear => nClear P c.argTypes.toList (c.args.toList.map ρ) K H
    | .builtin .len => match c.argTypes.toList, c.args.toList.map ρ with
      | [t], [x] => nLen P t x K H
      | _, _ => False
    | .builtin .min => match c.args.toList.map ρ with
      | x :: l => match minV x l with
        | some v => K v H
        | none => False
      | [] => False
    | .builtin .max => match c.args.toList.map ρ with
      | x :: l => match maxV x l with
        | some v => K v H
        | none => False
      | [] => False
    | _ => vraw P o ρ K E H
  | _ => vraw P o ρ K E H
end
variable {P : Program}

theorem map_eq (a : Array Operand) (ρ : Operand → Value) : a.map ρ = (a.toList.map ρ).toArray := by
  apply Array.ext'; simp
theorem mapP_eq (a : Array (Nat × Operand)) (ρ : Operand → Value) : (a.map fun (i, x) => (i, ρ x)) = (a.toList.map fun p => (p.1, ρ p.2)).toArray := by
  apply Array.ext'; simp
theorem vcOp_raw {o : Oper} {ρ : Operand → Value} {K : Value → Heap → Prop} {E : Chain → Heap → Prop} {H : Heap} (h : vcOp P o ρ K E H) : vraw P o ρ K E H := by
  obtain ⟨dst, op, type, pos, after, guard⟩ := o
  cases op
  case move x => exact h
  case assign x => exact h
  case pick c a b =>
    simp only [vcOp, nPick] at h
    show vp P (_ >>= _) _ _ _
    refine vp_bind' ?_
    split at h
    · rename_i b hb
      rw [hb]
      cases b <;> exact h
    · exact h.elim
  case alloc e => exact vp_v (nAlloc_vp h)
  case box e x => exact vp_v (nBox_vp h)
  case build t parts =>
    show vp P (do pure (Next.value (← Instr.build t (parts.map fun (i, x) => (i, ρ x))))) _ _ _
    rw [mapP_eq]
    have h : nBuild P t (parts.toList.map fun p => (p.1, ρ p.2)) K H := h
    refine vp_v (nBuild_vp ?_)
    rw [List.toList_toArray]; exact h
  case buildSlice t n parts =>
    unfold vraw execOp
    simp only []
    rw [mapP_eq]
    simp only [vcOp] at h
    have h2 := nBuildSlice_vp (E := raise E) (parts := (parts.toList.map fun p => (p.1, ρ p.2)).toArray) (by rw [List.toList_toArray]; exact h)
    exact vp_v h2
  case load t a => exact vp_v (nLoad_vp h)
  case store t a x => exact vp_u (nStore_vp h)
  case nilCheck x =>
    simp only [vcOp, nNilCheck] at h
    unfold vraw execOp
    split at h <;> rename_i hx <;> simp only [hx]
    · replace h := ptr_elim h; obtain ⟨ad, rfl, h⟩ := h; exact h
    all_goals first | exact h | exact h.elim
  case binOp op t x y yt => exact vp_v (nBin_vp h)
  case convert s d x => exact vp_v (nConv_vp h)
  case unOp op t x => exact vp_v (nUn_vp h)
  case extract x i => exact vp_v (nExtract_vp h)
  case makeInterface t x => exact vp_v (nIface_vp h)
  case makeFunc fn first caps =>
    unfold vraw execOp
    simp only []
    rw [map_eq, map_eq]
    exact h
  case slice t x lo hi mx => exact vp_v (nSlice_vp h)
  case fieldAddr s x f => exact vp_v (nFieldAddr_vp h)
  case field t x f => exact vp_v (nField_vp h)
  case indexAddr t x i => exact vp_v (nIndexAddr_vp h)
  case index t x i => exact vp_v (nIndex_vp h)
  case makeSlice t l c => exact vp_v (nMake_vp h)
  case range t x => exact vp_v (nRange_vp h)
  case next it b => exact vp_v (nNext_vp h)
  case makeMap t r => exact vp_v (nMakeMap_vp h)
  case lookup t x ix ok => exact vp_v (nLookup_vp h)
  case mapUpdate t m k x => exact vp_u (nMapUpd_vp h)
  case call c =>
    simp only [vcOp] at h
    split at h
    · rename_i f hf
      exact nCall_vp hf (by rw [map_eq]; exact h)
    · rename_i hf
      unfold nApp at h
      split at h
      · rename_i t tx p n cc x hts hargs
        replace h := tyD_elim h; obtain ⟨dx, hdx, h⟩ := h
        have hx : (∀ k, dx ≠ .int k) ∧ app P t p n cc x H fun p n c H => K (.slice p n c) H := by
          split at h
          · exact h.elim
          · rename_i hne; exact ⟨fun k hk => hne k hk, h⟩
        show vp P (resolve ρ c type >>= _) _ _ _
        refine vp_bind' ?_
        unfold resolve
        simp only [hf]
        have ha : c.args.map ρ = #[.slice p n cc, x] := by rw [map_eq, hargs]
        have ht0 : c.argTypes[0]? = some t := by rw [← Array.getElem?_toList, hts]; rfl
        have ht1 : c.argTypes[1]? = some tx := by rw [← Array.getElem?_toList, hts]; rfl
        show vp P (do pure (Next.value (← Builtin.append_ c.argTypes type (c.args.map ρ)))) _ _ _
        rw [ha]
        exact vp_v (app_vp ht0 ht1 ⟨dx, hdx, hx.1⟩ hx.2)
      · exact h.elim
    · rename_i hf
      show vp P (resolve ρ c type >>= _) _ _ _
      refine vp_bind' ?_
      unfold resolve
      simp only [hf]
      show vp P (do pure (Next.value (← Builtin.clear_ c.argTypes type (c.args.map ρ)))) _ _ _
      exact vp_v (nClear_vp (by rw [map_eq, List.toList_toArray]; exact h))
    · rename_i hf
      split at h
      · rename_i t x hts hargs
        show vp P (resolve ρ c type >>= _) _ _ _
        refine vp_bind' ?_
        unfold resolve
        simp only [hf]
        have ht0 : c.argTypes[0]? = some t := by rw [← Array.getElem?_toList, hts]; rfl
        have hx0 : (c.args.map ρ)[0]? = some x := by rw [map_eq, hargs]; rfl
        show vp P (do pure (Next.value (← Builtin.len_ c.argTypes type (c.args.map ρ)))) _ _ _
        exact vp_v (nLen_vp ht0 hx0 h)
      · exact h.elim
    · rename_i hf
      split at h
      · rename_i x l hargs
        split at h
        · rename_i v hv
          show vp P (resolve ρ c type >>= _) _ _ _
          refine vp_bind' ?_
          unfold resolve
          simp only [hf]
          show vp P (do pure (Next.value (← Builtin.min_ c.argTypes type (c.args.map ρ)))) _ _ _
          refine vp_v ?_
          unfold Builtin.min_
          have e : (c.args.map ρ).toList = x :: l := by rw [map_eq, hargs]
          rw [e]
          exact minV_vp l x hv h
        · exact h.elim
      · exact h.elim
    · rename_i hf
      split at h
      · rename_i x l hargs
        split at h
        · rename_i v hv
          show vp P (resolve ρ c type >>= _) _ _ _
          refine vp_bind' ?_
          unfold resolve
          simp only [hf]
          show vp P (do pure (Next.value (← Builtin.max_ c.argTypes type (c.args.map ρ)))) _ _ _
          refine vp_v ?_
          unfold Builtin.max_
          have e : (c.args.map ρ).toList = x :: l := by rw [map_eq, hargs]
          rw [e]
          exact maxV_vp l x hv h
        · exact h.elim
      · exact h.elim
    · exact h
  all_goals exact h

/-! ### A region in a given order -/
section
variable (P : Program)
def vcGuard (ops : Array Oper) (o : Oper) (τ : Tau) (K : Bool → Tau → Prop) : Prop := match o.guard with
  | none => K true τ
  | some (j, want) => match (ops[j]?).bind (·.dst) with
    | none => K false τ
    | some t => match τ t with
      | .bool b => sel b (K (match want with | true => true | false => false) (τ.upd t (.bool true))) (K (match want with | true => false | false => true) (τ.upd t (.bool false)))
      | _ => K false τ
def vcStep (ops : Array Oper) (o : Oper) (τ : Tau) (K : Tau → Heap → Prop) (E : Chain → Heap → Prop) (H : Heap) : Prop :=
  vcGuard ops o τ fun w τ => match w with
    | true => vcOp P o (ev τ) (fun v H => K (τ.put o.dst v) H) E H
    | false => K (τ.put o.dst undef) H
def vcList (ops : Array Oper) : List Nat → Tau → (Tau → Heap → Prop) → (Chain → Heap → Prop) → Heap → Prop
  | [], τ, K, _, H => K τ H
  | i :: l, τ, K, E, H => match ops[i]? with
    | none => vcList ops l τ K E H
    | some o => vcStep P ops o τ (fun τ H => vcList ops l τ K E H) E H
end

structure Rel (n : Nat) (τ : Tau) (a : Act) : Prop where
  size : a.tmps.size = n
  val : ∀ i, a.tmps.getD i undef = τ i
theorem Rel.put {n : Nat} {τ : Tau} {a : Act} (h : Rel n τ a) {dst : Option Nat} (hd : ∀ d, dst = some d → d < n) (v : Value) : Rel n (τ.put dst v) (a.put dst v) := by
  cases dst with
  | none => exact h
  | some d =>
    have hlt := hd d rfl
    refine ⟨by simp [Act.put, h.size], fun i => ?_⟩
    simp only [Act.put, Tau.put, Tau.upd]
    by_cases hi : i = d
    · subst hi
      have : Nat.beq i i = true := Nat.beq_refl i
      rw [this]
      simp [h.size, hlt]
    · have hb : Nat.beq i d = false := by
        cases h : Nat.beq i d
        · rfl
        · exact absurd (Nat.eq_of_beq_eq_true h) hi
      rw [hb]
      simp only [cond_false]
      rw [← h.val i]
      simp [Array.getElem?_setIfInBounds_ne (Ne.symm hi)]
theorem Rel.eval {n : Nat} {τ : Tau} {a : Act} (h : Rel n τ a) : a.eval = ev τ := by
  funext x
  cases x <;> simp only [Act.eval, ev]
  exact h.val _
theorem Rel.yielded {n : Nat} {τ : Tau} {a : Act} (h : Rel n τ a) (ops : Array Oper) (j : Nat) :
    yielded ops a.tmps j = match (ops[j]?).bind (·.dst) with
      | none => none
      | some t => match τ t with
        | .bool b => some b
        | _ => none := by
  unfold Go.yielded
  cases hd : (ops[j]?).bind (·.dst) with
  | none => rfl
  | some t =>
    simp only [Option.bind_some]
    rw [← h.val t]
    by_cases ht : t < a.tmps.size
    · simp only [Array.getElem?_eq_getElem ht, Array.getD_eq_getD_getElem?, Option.getD_some]
      cases a.tmps[t] <;> rfl
    · simp [ht, undef]
theorem vcGuard_elim {ops : Array Oper} {o : Oper} {τ : Tau} {K : Bool → Tau → Prop} {n : Nat} {a : Act} (h : vcGuard ops o τ K) (hr : Rel n τ a) :
    K (Region.wanted o (yielded ops a.tmps)) τ := by
  unfold vcGuard at h
  unfold Region.wanted
  split at h
  · rename_i hg; rw [hg]; exact h
  · rename_i j want hg
    rw [hg]
    simp only [hr.yielded ops j]
    split at h
    · rename_i hd
      exact h
    · rename_i t hd
      split at h
      · rename_i b hb
        cases b
        · simp only [sel] at h
          rw [Tau.upd_eq τ hb] at h
          cases want <;> exact h
        · simp only [sel] at h
          rw [Tau.upd_eq τ hb] at h
          cases want <;> exact h
      · exact h

def LQ (n : Nat) (D : List Deferred) (H₀ : Heap) (w₀ : World) (Q : Exit → Tau → Heap → Prop) (E : Chain → Heap → Prop) : Exit → Act → World → Prop
  | .panic ch, a, w => a.defers = D ∧ ∃ H, Sub H w ∧ Keeps H₀ H w₀ w ∧ E ch H
  | .outgrown, _, _ => False
  | e, a, w => a.defers = D ∧ ∃ τ H, Rel n τ a ∧ Sub H w ∧ Keeps H₀ H w₀ w ∧ Q e τ H
structure St (n : Nat) (D : List Deferred) (H₀ : Heap) (w₀ : World) (τ : Tau) (H : Heap) (a : Act) (w : World) : Prop where
  defers : a.defers = D
  rel : Rel n τ a
  sub : Sub H w
  keeps : Keeps H₀ H w₀ w

theorem Act.put_defers' (a : Act) (d : Option Tmp) (v : Value) : (a.put d v).defers = a.defers := by cases d <;> rfl
theorem vraw_wp {o : Oper} {n : Nat} {D : List Deferred} {H₀ : Heap} {w₀ : World} {τ : Tau} {H : Heap} {a : Act} {w : World} {K : Value → Heap → Prop} {E : Chain → Heap → Prop}
    {next : Act → World → Prop} {Q : Exit → Act → World → Prop} (hs : St n D H₀ w₀ τ H a w) (h : vraw P o (ev τ) K E H)
    (hn : ∀ v H' w', Sub H' w' → Keeps H₀ H' w₀ w' → K v H' → next (a.put o.dst v) w')
    (hp : ∀ ch H' w', Sub H' w' → Keeps H₀ H' w₀ w' → E ch H' → Q (.panic ch) a w') : o.wp P a w next Q := by
  unfold Oper.wp
  rw [hs.rel.eval]
  have := vp_sound P _ _ _ H w h hs.sub
  generalize (execOp (ev τ) o).run P w = r at this
  cases r with
  | ok x w' =>
    obtain ⟨H', hs', hk', hq⟩ := this
    cases x <;> simp only [nxt] at hq <;> simp only [Oper.upon]
    case value v => exact hn v H' w' hs' (hs.keeps.trans hk') hq
    case skip => exact hn undef H' w' hs' (hs.keeps.trans hk') hq
    case enter f args =>
      refine Calls.mono (hq.2 w' hs') fun e w'' hr => ?_
      cases e with
      | returned v => obtain ⟨H'', h1, h2, h3⟩ := hr; exact hn v H'' w'' h1 ((hs.keeps.trans hk').trans h2) h3
      | panicked ch => obtain ⟨H'', h1, h2, h3⟩ := hr; exact hp ch H'' w'' h1 ((hs.keeps.trans hk').trans h2) h3
      | outgrown => exact hr.elim
  | halt x w' =>
    cases x <;> first | exact this.elim | skip
    obtain ⟨H', hs', hk', hq⟩ := this
    exact hp _ H' w' hs' (hs.keeps.trans hk') hq
def rawStep (P : Program) (ops : Array Oper) (o : Oper) (τ : Tau) (K : Tau → Heap → Prop) (E : Chain → Heap → Prop) (H : Heap) : Prop :=
  vcGuard ops o τ fun w τ => match w with
    | true => vraw P o (ev τ) (fun v H => K (τ.put o.dst v) H) E H
    | false => K (τ.put o.dst undef) H
theorem vcGuard_mono {ops : Array Oper} {o : Oper} {τ : Tau} {K K' : Bool → Tau → Prop} (h : vcGuard ops o τ K) (hk : ∀ w τ, K w τ → K' w τ) : vcGuard ops o τ K' := by
  unfold vcGuard at *
  repeat' split at h
  all_goals first | exact hk _ _ h | (exact (sel_iff _ _ _).2 ⟨fun hb => hk _ _ (((sel_iff _ _ _).1 h).1 hb), fun hb => hk _ _ (((sel_iff _ _ _).1 h).2 hb)⟩) | skip
theorem vcStep_raw {ops : Array Oper} {o : Oper} {τ : Tau} {K : Tau → Heap → Prop} {E : Chain → Heap → Prop} {H : Heap} (h : vcStep P ops o τ K E H) : rawStep P ops o τ K E H :=
  vcGuard_mono h fun w τ h => by
    cases w
    · exact h
    · exact vcOp_raw h
theorem rawStep_wp {ops : Array Oper} {i : Nat} {o : Oper} {n : Nat} {D : List Deferred} {H₀ : Heap} {w₀ : World} {τ : Tau} {H : Heap} {a : Act} {w : World} {K : Tau → Heap → Prop} {E : Chain → Heap → Prop}
    {next : Act → World → Prop} {Q : Exit → Act → World → Prop} (hi : ops[i]? = some o) (hd : ∀ d, o.dst = some d → d < n) (hs : St n D H₀ w₀ τ H a w) (h : rawStep P ops o τ K E H)
    (hn : ∀ τ' H' a' w', St n D H₀ w₀ τ' H' a' w' → K τ' H' → next a' w')
    (hp : ∀ ch H' w', Sub H' w' → Keeps H₀ H' w₀ w' → E ch H' → Q (.panic ch) a w') : wpOp P ops Q i next a w := by
  unfold wpOp
  simp only [hi]
  have h := vcGuard_elim h hs.rel
  split
  · rename_i hw
    rw [hw] at h
    refine .inl (vraw_wp hs h (fun v H' w' h1 h2 h3 => hn _ H' _ w' ⟨by rw [Act.put_defers']; exact hs.defers, hs.rel.put hd v, h1, h2⟩ h3) hp)
  · rename_i hw
    have hw : Region.wanted o (yielded ops a.tmps) = false := by simpa using hw
    rw [hw] at h
    exact hn _ H _ w ⟨by rw [Act.put_defers']; exact hs.defers, hs.rel.put hd undef, hs.sub, hs.keeps⟩ h
theorem vcStep_wp {ops : Array Oper} {i : Nat} {o : Oper} {n : Nat} {D : List Deferred} {H₀ : Heap} {w₀ : World} {τ : Tau} {H : Heap} {a : Act} {w : World} {K : Tau → Heap → Prop} {E : Chain → Heap → Prop}
    {next : Act → World → Prop} {Q : Exit → Act → World → Prop} (hi : ops[i]? = some o) (hd : ∀ d, o.dst = some d → d < n) (hs : St n D H₀ w₀ τ H a w) (h : vcStep P ops o τ K E H)
    (hn : ∀ τ' H' a' w', St n D H₀ w₀ τ' H' a' w' → K τ' H' → next a' w')
    (hp : ∀ ch H' w', Sub H' w' → Keeps H₀ H' w₀ w' → E ch H' → Q (.panic ch) a w') : wpOp P ops Q i next a w :=
  rawStep_wp hi hd hs (vcStep_raw h) hn hp
def dstsOk (n : Nat) (ops : Array Oper) : Bool := ops.toList.all fun o => match o.dst with
  | some d => Nat.blt d n
  | none => true
theorem dstsOk_spec {n : Nat} {ops : Array Oper} (h : dstsOk n ops = true) {i : Nat} {o : Oper} (hi : ops[i]? = some o) (d : Nat) (hd : o.dst = some d) : d < n := by
  have := List.all_eq_true.1 h o (by simpa using Array.mem_of_getElem? hi)
  rw [hd] at this
  exact Nat.le_of_ble_eq_true this
theorem vcList_wp {ops : Array Oper} {n : Nat} {D : List Deferred} {H₀ : Heap} {w₀ : World} {K : Tau → Heap → Prop} {E : Chain → Heap → Prop} {Q : Exit → Act → World → Prop}
    (hd : dstsOk n ops = true) (hn : ∀ τ' H' a' w', St n D H₀ w₀ τ' H' a' w' → K τ' H' → Q .normal a' w')
    (hp : ∀ a ch H' w', a.defers = D → Sub H' w' → Keeps H₀ H' w₀ w' → E ch H' → Q (.panic ch) a w') :
    ∀ (l : List Nat) (τ : Tau) (H : Heap) (a : Act) (w : World), St n D H₀ w₀ τ H a w → vcList P ops l τ K E H → wpOps P ops Q l a w
  | [], τ, H, a, w, hs, h => hn _ _ _ _ hs h
  | i :: l, τ, H, a, w, hs, h => by
    rw [wpOps_cons]
    unfold vcList at h
    split at h
    · rename_i hi; simp only [wpOp, hi]; exact vcList_wp hd hn hp l τ H a w hs h
    · rename_i o hi
      exact vcStep_wp hi (fun d => dstsOk_spec hd hi d) hs h (fun τ' H' a' w' hs' h' => vcList_wp hd hn hp l τ' H' a' w' hs' h')
        (fun ch H' w' h1 h2 h3 => hp a ch H' w' hs.defers h1 h2 h3)
end Go.V

/- A region that draws its order: one order is enough. -/
namespace Go.V
set_option linter.constructorNameAsVariable false
set_option linter.unusedVariables false
variable {P : Program}

/-! ### Monotony, and what hangs on the operands alone -/
theorem tyD_mono {t : TypeId} {K K' : TypeDesc → Prop} (h : tyD P t K) (hk : ∀ d, K d → K' d) : tyD P t K' := by
  unfold tyD at *; split at h <;> first | exact hk _ h | exact h.elim
theorem tyI_mono {t : TypeId} {K K' : TypeInfo → Prop} (h : tyI P t K) (hk : ∀ d, K d → K' d) : tyI P t K' := by
  unfold tyI at *; split at h <;> first | exact hk _ h | exact h.elim
theorem tyZ_mono {t : TypeId} {K K' : List Value → Prop} (h : tyZ P t K) (hk : ∀ d, K d → K' d) : tyZ P t K' := by
  refine tyI_mono h fun d h => ?_
  split at h
  · split at h
    · exact hk _ h
    · exact h.elim
  · exact h.elim
theorem ptr_mono {p : Option Addr} {K K' : Addr → Prop} (h : ptr p K) (hk : ∀ d, K d → K' d) : ptr p K' := by
  cases p <;> first | exact h.elim | exact hk _ h
theorem exS_mono {s : Shp} {K K' : Value → Prop} (h : exS s K) (hk : ∀ d, K d → K' d) : exS s K' := by
  cases s <;> simp only [exS] at h ⊢
  case sl => obtain ⟨p, n, c, h⟩ := h; exact ⟨p, n, c, hk _ h⟩
  all_goals (obtain ⟨x, h⟩ := h; exact ⟨x, hk _ h⟩)
theorem exL_mono : ∀ {l : List Shp} {K K' : List Value → Prop}, exL l K → (∀ d, K d → K' d) → exL l K'
  | [], _, _, h, hk => hk _ h
  | s :: l, _, _, h, hk => exS_mono h fun v h => exL_mono h fun vs h => hk _ h
theorem sel_mono {b : Bool} {X Y X' Y' : Prop} (h : sel b X Y) (h1 : X → X') (h2 : Y → Y') : sel b X' Y' := by
  cases b <;> first | exact h1 h | exact h2 h
theorem nw_mono {o : Obj} {H : Heap} {K K' : Nat → Heap → Prop} (h : nw o H K) (hk : ∀ i H, K i H → K' i H) : nw o H K' := fun id hid => hk _ _ (h id hid)
theorem wr_mono {a : Addr} {vs : List Value} {H : Heap} {K K' : Heap → Prop} (h : wr a vs H K) (hk : ∀ H, K H → K' H) : wr a vs H K' := by
  obtain ⟨c, t, fr, h1, h2, h3, h4, h5, h⟩ := h; exact ⟨c, t, fr, h1, h2, h3, h4, h5, hk _ h⟩
theorem wrS_mono {p : Option Addr} {o : Nat} {vs : List Value} {H : Heap} {K K' : Heap → Prop} (h : wrS p o vs H K) (hk : ∀ H, K H → K' H) : wrS p o vs H K' := by
  cases vs with
  | nil => exact hk _ h
  | cons v l => exact ptr_mono h fun ad h => wr_mono h hk

def One {α : Type} (F : (α → Prop) → Prop) : Prop := ∀ K, F K → ∃ v, K v ∧ ∀ K', K' v → F K'
theorem tyD_one (t : TypeId) : One (tyD P t) := fun K h => by
  unfold tyD at *; split at h <;> first | exact h.elim | exact ⟨_, h, fun K' h => h⟩
theorem tyI_one (t : TypeId) : One (tyI P t) := fun K h => by
  unfold tyI at *; split at h <;> first | exact h.elim | exact ⟨_, h, fun K' h => h⟩
theorem tyZ_one (t : TypeId) : One (tyZ P t) := fun K h => by
  obtain ⟨i, h, hi⟩ := tyI_one t _ h
  split at h
  · rename_i z hz
    split at h
    · rename_i hb
      exact ⟨_, h, fun K' h => hi _ (by rw [hz]; simp only [hb]; exact h)⟩
    · exact h.elim
  · exact h.elim
theorem ptr_one (p : Option Addr) : One (ptr p) := fun K h => by cases p <;> first | exact h.elim | exact ⟨_, h, fun K' h => h⟩
theorem exS_one (s : Shp) : One (exS s) := fun K h => by
  cases s <;> simp only [exS] at h ⊢
  case sl => obtain ⟨p, n, c, h⟩ := h; exact ⟨_, h, fun K' h => ⟨p, n, c, h⟩⟩
  all_goals (obtain ⟨x, h⟩ := h; exact ⟨_, h, fun K' h => ⟨x, h⟩⟩)
theorem exL_one : ∀ (l : List Shp), One (exL l)
  | [], K, h => ⟨[], h, fun K' h => h⟩
  | s :: l, K, h => by
    obtain ⟨v, h, hv⟩ := exS_one s _ h
    obtain ⟨vs, h, hvs⟩ := exL_one l _ h
    exact ⟨v :: vs, h, fun K' h => hv _ (hvs _ h)⟩
theorem bnd_one (o : Option Value) (d y : Nat) : One (bnd o d y) := fun K h => by
  unfold bnd at *
  split at h
  · exact ⟨_, h, fun K' h => h⟩
  · rename_i i; exact ⟨_, h.2, fun K' h' => ⟨h.1, h'⟩⟩
  · exact h.elim

def StillF (F : (Value → Heap → Prop) → Heap → Prop) (B : Nat → Prop) : Prop :=
  ∀ K H, F K H → ∃ v, K v H ∧ (∀ b, B b → H b ≠ none) ∧ ∀ (K' : Value → Heap → Prop) H', (∀ b, B b → H' b = H b) → K' v H' → F K' H'
def none_ : Nat → Prop := fun _ => False
theorem still_mk {F : (Value → Heap → Prop) → Heap → Prop} (h : ∀ K H, F K H → ∃ v, K v H ∧ ∀ (K' : Value → Heap → Prop) H', K' v H' → F K' H') : StillF F none_ := fun K H hf => by
  obtain ⟨v, h1, h2⟩ := h K H hf
  exact ⟨v, h1, fun b hb => hb.elim, fun K' H' _ h => h2 K' H' h⟩

theorem nPick_still (c a b : Value) : StillF (nPick c a b) none_ := still_mk fun K H h => by
  unfold nPick at *
  split at h
  · rename_i c; cases c <;> exact ⟨_, h, fun K' H' h => h⟩
  · exact h.elim
theorem nNilCheck_still (x : Value) : StillF (nNilCheck x) none_ := still_mk fun K H h => by
  unfold nNilCheck at *
  split at h
  · obtain ⟨a, h, ha⟩ := ptr_one _ _ h; exact ⟨_, h, fun K' H' h => ha _ h⟩
  all_goals first | exact h.elim | exact ⟨_, h, fun K' H' h => h⟩
theorem nFieldAddr_still (s : TypeId) (x : Value) (f : Nat) : StillF (nFieldAddr P s x f) none_ := still_mk fun K H h => by
  unfold nFieldAddr at *
  split at h
  · obtain ⟨a, h, ha⟩ := ptr_one _ _ h
    obtain ⟨d, h, hd⟩ := tyD_one _ _ h
    split at h
    · split at h
      · rename_i fs fd hfd
        obtain ⟨i, h, hi⟩ := tyI_one _ _ h
        split at h
        · rename_i hb
          refine ⟨_, h, fun K' H' h => ha _ (hd _ ?_)⟩
          simp only [hfd]
          refine hi _ ?_
          simp only [hb]; exact h
        · exact h.elim
      · exact h.elim
    · exact h.elim
  · exact h.elim
theorem nIndexAddr_still (t : TypeId) (x i : Value) : StillF (nIndexAddr P t x i) none_ := still_mk fun K H h => by
  unfold nIndexAddr at *
  split at h
  · obtain ⟨d, h, hd⟩ := tyD_one _ _ h
    split at h
    · obtain ⟨ie, h, hi⟩ := tyI_one _ _ h
      obtain ⟨a, h, ha⟩ := ptr_one _ _ h
      exact ⟨_, h.2, fun K' H' h' => hd _ (hi _ (ha _ ⟨h.1, h'⟩))⟩
    · obtain ⟨ie, h, hi⟩ := tyI_one _ _ h
      obtain ⟨hb, h⟩ := h
      obtain ⟨a, h, ha⟩ := ptr_one _ _ h
      exact ⟨_, h, fun K' H' h' => hd _ (hi _ ⟨hb, ha _ h'⟩)⟩
    · exact h.elim
  · exact h.elim
theorem nIndex_still (t : TypeId) (x i : Value) : StillF (nIndex P t x i) none_ := still_mk fun K H h => by
  unfold nIndex at *
  split at h
  · obtain ⟨d, h, hd⟩ := tyD_one _ _ h
    split at h
    · obtain ⟨ie, h, hi⟩ := tyI_one _ _ h
      obtain ⟨de, h, hde⟩ := tyD_one _ _ h
      split at h
      · exact h.elim
      · rename_i hg
        obtain ⟨hb, h⟩ := h
        obtain ⟨v, h, hv⟩ := exS_one _ _ h
        refine ⟨v, h.2, fun K' H' h' => hd _ (hi _ (hde _ ?_))⟩
        simp only [hg]
        exact ⟨hb, hv _ ⟨h.1, h'⟩⟩
    · exact ⟨_, h.2, fun K' H' h' => hd _ ⟨h.1, h'⟩⟩
    · exact h.elim
  · exact h.elim
theorem nField_still (t : TypeId) (x : Value) (f : Nat) : StillF (nField P t x f) none_ := still_mk fun K H h => by
  unfold nField at *
  split at h
  · obtain ⟨d, h, hd⟩ := tyD_one _ _ h
    split at h
    · split at h
      · rename_i fs fd hfd
        obtain ⟨df, h, hdf⟩ := tyD_one _ _ h
        split at h
        · rename_i hg
          obtain ⟨i, h, hi⟩ := tyI_one _ _ h
          refine ⟨_, h, fun K' H' h' => hd _ ?_⟩
          simp only [hfd]
          refine hdf _ ?_
          simp only [hg]
          exact hi _ h'
        · rename_i hg
          split at h
          · rename_i v hv
            refine ⟨_, h, fun K' H' h' => hd _ ?_⟩
            simp only [hfd]
            refine hdf _ ?_
            simp only [hg, hv]
            exact h'
          · exact h.elim
      · exact h.elim
    · exact h.elim
  · exact h.elim
theorem nSlice_still (t : TypeId) (x : Value) (lo hi mx : Option Value) : StillF (nSlice P t x lo hi mx) none_ := still_mk fun K H h => by
  unfold nSlice at *
  obtain ⟨d, h, hd⟩ := tyD_one _ _ h
  split at h
  · split at h
    · obtain ⟨a, h, ha⟩ := bnd_one _ _ _ _ h
      obtain ⟨b, h, hb⟩ := bnd_one _ _ _ _ h
      exact ⟨_, h, fun K' H' h' => hd _ (ha _ (hb _ h'))⟩
    · exact h.elim
  · obtain ⟨i, h, hi'⟩ := tyI_one _ _ h
    split at h
    · exact h.elim
    · rename_i hne
      obtain ⟨a, h, ha⟩ := bnd_one _ _ _ _ h
      obtain ⟨b, h, hb⟩ := bnd_one _ _ _ _ h
      obtain ⟨c, h, hc⟩ := bnd_one _ _ _ _ h
      refine ⟨_, h, fun K' H' h' => hd _ (hi' _ ?_)⟩
      cases mx <;> cases hi <;> first | exact (hne _ rfl rfl).elim | exact ha _ (hb _ (hc _ h'))
  · obtain ⟨i, h, hi'⟩ := tyI_one _ _ h
    obtain ⟨ad, h, had⟩ := ptr_one _ _ h
    split at h
    · exact h.elim
    · rename_i hne
      obtain ⟨a, h, ha⟩ := bnd_one _ _ _ _ h
      obtain ⟨b, h, hb⟩ := bnd_one _ _ _ _ h
      obtain ⟨c, h, hc⟩ := bnd_one _ _ _ _ h
      refine ⟨_, h, fun K' H' h' => hd _ (hi' _ (had _ ?_))⟩
      cases mx <;> cases hi <;> first | exact (hne _ rfl rfl).elim | exact ha _ (hb _ (hc _ h'))
  · exact h.elim
theorem nBuild_still (t : TypeId) (parts : List (Nat × Value)) : StillF (nBuild P t parts) none_ := still_mk fun K H h => by
  unfold nBuild at *
  obtain ⟨z, h, hz⟩ := tyZ_one _ _ h
  obtain ⟨d, h, hd⟩ := tyD_one _ _ h
  split at h
  · split at h
    · rename_i pl hpl
      split at h
      · rename_i cells hc
        refine ⟨_, h, fun K' H' h' => hz _ (hd _ ?_)⟩
        simp only [hpl, hc]; exact h'
      · exact h.elim
    · exact h.elim
  · obtain ⟨i, h, hi⟩ := tyI_one _ _ h
    split at h
    · rename_i cells hc
      refine ⟨_, h, fun K' H' h' => hz _ (hd _ (hi _ ?_))⟩
      simp only [hc]; exact h'
    · exact h.elim
  · exact h.elim
theorem nUn_still (op : UnOp) (x : Value) : StillF (nUn op x) none_ := still_mk fun K H h => by
  unfold nUn at *
  split at h <;> first | exact h.elim | exact ⟨_, h, fun K' H' h => h⟩
theorem nExtract_still (x : Value) (i : Nat) : StillF (nExtract x i) none_ := still_mk fun K H h => by
  unfold nExtract at *
  split at h
  · split at h
    · rename_i v hv
      exact ⟨_, h, fun K' H' h => h⟩
    · exact h.elim
  · exact h.elim
theorem nIface_still (t : TypeId) (x : Value) : StillF (nIface P t x) none_ := still_mk fun K H h => by
  unfold nIface at *
  obtain ⟨d, h, hd⟩ := tyD_one _ _ h
  split at h
  · exact h.elim
  · rename_i hne
    refine ⟨_, h, fun K' H' h' => hd _ ?_⟩
    split
    · exact (hne _ rfl).elim
    · exact h'
theorem nLen_still (t : TypeId) (x : Value) : StillF (nLen P t x) none_ := still_mk fun K H h => by
  unfold nLen at *
  obtain ⟨d, h, hd⟩ := tyD_one _ _ h
  split at h <;> first | exact h.elim | exact ⟨_, h, fun K' H' h' => hd _ h'⟩
def scalarB (P : Program) (t : TypeId) : Bool := match P.underlying t with
  | some d => scalarD d
  | none => true
theorem nBin_still {op : BinOp} {t : TypeId} {ox oy : Operand} {x y : Value} (E : Value → Heap → Prop) (ht : scalarB P t = true) :
    StillF (fun K H => nBin P op t ox oy x y K E H) none_ := still_mk fun K H h => by
  unfold nBin at h
  split at h
  · rename_i c v hb
    refine ⟨v, h.2, fun K' H' h' => ?_⟩
    simp only [nBin, hb]; exact ⟨h.1, h'⟩
  · rename_i v hb
    refine ⟨v, h, fun K' H' h' => ?_⟩
    simp only [nBin, hb]; exact h'
  · obtain ⟨d, hd, h⟩ := tyD_elim h
    have ht : scalarD d = true := by simpa [scalarB, hd] using ht
    rw [ht] at h
    exact h.elim
theorem exL_len : ∀ (l : List Shp) (K : List Value → Prop), exL l K → exL l fun vs => vs.length = l.length ∧ K vs
  | [], K, h => ⟨rfl, h⟩
  | s :: l, K, h => exS_mono h fun v h => exL_mono (exL_len l _ h) fun vs h => ⟨by simp [h.1], h.2⟩
theorem nLoad_still (t : TypeId) (a : Value) : StillF (nLoad P t a) (fun b => ∃ ad, a = .pointer (some ad) ∧ b = ad.block) := fun K H h => by
  unfold nLoad at h
  split at h
  · rename_i p
    cases p with
    | none => exact h.elim
    | some ad =>
    obtain ⟨d, h, hd⟩ := tyD_one _ _ h
    have hcell : ∀ {a : Addr} {v : Value}, H.cell? a = some v → H a.block ≠ none := by
      intro a v hc hn
      simp only [Heap.cell?, hn] at hc; cases hc
    have hsame : ∀ {H' : Heap} (a : Addr), H' a.block = H a.block → H'.cell? a = H.cell? a := by
      intro H' a he; simp only [Heap.cell?, he]
    split at h
    · rename_i hg
      obtain ⟨i, h, hi⟩ := tyI_one _ _ h
      split at h
      · rename_i hb
        obtain ⟨vs, ⟨hlen, hr, h⟩, hvs⟩ := exL_one _ _ (exL_len _ _ h)
        have hblk : ∀ j, (ad.add j).block = ad.block := by intro j; unfold Addr.add; split <;> rfl
        refine ⟨_, h, ?_, fun K' H' hB h' => ?_⟩
        · rintro b ⟨ad', h1, rfl⟩
          cases h1
          cases vs with
          | nil =>
            simp only [Bool.and_eq_true] at hb
            have h1 := Nat.eq_of_beq_eq_true hb.1
            have h2 := Nat.le_of_ble_eq_true hb.2
            simp at hlen; omega
          | cons v l => have := hcell hr.1; rwa [hblk] at this
        · unfold nLoad
          show tyD P t _
          refine hd _ ?_
          simp only [hg]
          refine hi _ ?_
          simp only [hb]
          refine hvs _ ⟨?_, h'⟩
          have he := hB ad.block ⟨ad, rfl, rfl⟩
          have : ∀ (l : List Value) (j : Nat), H.rd ad j l → H'.rd ad j l := by
            intro l
            induction l with
            | nil => intro j _; trivial
            | cons v l ih => intro j hr; exact ⟨(hsame _ (by rw [hblk]; exact he)).trans hr.1, ih _ hr.2⟩
          exact this _ _ hr
      · exact h.elim
    · rename_i hg
      obtain ⟨v, ⟨hc, h⟩, hv⟩ := exS_one _ _ h
      refine ⟨v, h, ?_, fun K' H' hB h' => ?_⟩
      · rintro b ⟨ad', h1, rfl⟩
        cases h1; exact hcell hc
      · unfold nLoad
        show tyD P t _
        refine hd _ ?_
        simp only [hg]
        refine hv _ ⟨?_, h'⟩
        rw [hsame _ (hB ad.block ⟨ad, rfl, rfl⟩)]; exact hc
  · exact h.elim
end Go.V
