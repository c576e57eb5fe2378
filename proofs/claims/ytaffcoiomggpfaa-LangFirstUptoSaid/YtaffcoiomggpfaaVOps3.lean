import Derived.Test.YtaffcoiomggpfaaVOps
import Derived.Test.YtaffcoiomggpfaaVEq
/- More nice forms of operations: slicing, make, arithmetic, append, literals; 'vcOp'. -/
namespace Go.V
set_option linter.constructorNameAsVariable false
set_option linter.unusedVariables false
variable {P : Program}

theorem sb_vp {α : Type} {v : Value} {d y : Nat} {code : BoundsCode} {K : Nat → Prop} {f : Nat → Sem α} {Q : α → Heap → Prop} {E : Value → Heap → Prop} {H : Heap}
    (h : bnd (some v) d y K) (hk : ∀ n, K n → vp P (f n) Q E H) : vp P (Instr.sliceBound v y code >>= f) Q E H := by
  refine vp_bind' ?_
  cases v <;> simp only [bnd] at h
  case int k i =>
    obtain ⟨hb, h⟩ := h
    unfold Instr.sliceBound
    refine vp_bind' ?_
    show vp P (if 0 ≤ i ∧ i ≤ (y : Int) then _ else _) _ _ _
    rw [if_pos hb]; exact hk _ h
theorem sp_vp {α : Type} {d y : Nat} {K : Nat → Prop} {f : Nat → Sem α} {Q : α → Heap → Prop} {E : Value → Heap → Prop} {H : Heap}
    (h : bnd none d y K) (hk : ∀ n, K n → vp P (f n) Q E H) : vp P (pure d >>= f) Q E H := vp_bind' (hk _ h)
theorem bounds_vp {α : Type} {b : Bool} {lo hi mx : Option Value} {n c : Nat} {f : Nat × Nat × Nat → Sem α} {Q : α → Heap → Prop} {E : Value → Heap → Prop} {H : Heap}
    (hx : mx = none ∨ hi ≠ none) (h : bnd mx c c fun m => bnd hi n m fun h' => bnd lo 0 h' fun l => vp P (f (l, h', m)) Q E H) :
    vp P (Instr.sliceBounds b n c lo hi mx >>= f) Q E H := by
  refine vp_bind' ?_
  unfold Instr.sliceBounds
  cases mx <;> cases hi
  case some.none => rcases hx with hx | hx <;> simp at hx
  case none.none =>
    refine sp_vp h fun m h => ?_
    refine sp_vp h fun h' h => ?_
    cases lo
    · exact sp_vp h fun l h => h
    · exact sb_vp h fun l h => h
  case none.some =>
    refine sp_vp h fun m h => ?_
    refine sb_vp h fun h' h => ?_
    cases lo
    · exact sp_vp h fun l h => h
    · exact sb_vp h fun l h => h
  case some.some =>
    refine sb_vp h fun m h => ?_
    refine sb_vp h fun h' h => ?_
    cases lo
    · exact sp_vp h fun l h => h
    · exact sb_vp h fun l h => h
theorem bnd_mono {o : Option Value} {d y : Nat} {K K' : Nat → Prop} (h : bnd o d y K) (hk : ∀ n, K n → K' n) : bnd o d y K' := by
  unfold bnd at h ⊢
  split at h
  · exact hk _ h
  · exact ⟨h.1, hk _ h.2⟩
  · exact h
theorem nSlice_vp {t : TypeId} {x : Value} {lo hi mx : Option Value} {K : Value → Heap → Prop} {E : Value → Heap → Prop} {H : Heap} (h : nSlice P t x lo hi mx K H) :
    vp P (Instr.sliceAt t x lo hi mx) K E H := by
  unfold nSlice at h
  replace h := tyD_elim h; obtain ⟨d, hd, h⟩ := h
  unfold Instr.sliceAt
  refine vp_und hd ?_
  split at h
  · rename_i s
    split at h
    · show vp P (Instr.slice t (.string s) lo hi none) K E H
      unfold Instr.slice
      refine vp_und hd ?_
      show vp P (Instr.sliceBounds _ _ _ _ _ _ >>= _) _ _ _
      refine bounds_vp (.inl rfl) ?_
      exact h
    · exact h.elim
  · rename_i e p n c
    replace h := tyI_elim h; obtain ⟨i, hi', h⟩ := h
    show vp P (Instr.slice t (.slice p n c) lo hi mx) K E H
    unfold Instr.slice
    refine vp_und hd ?_
    have hx : mx = none ∨ hi ≠ none := by
      cases mx <;> cases hi <;> simp_all
    refine bounds_vp hx ?_
    have h : bnd mx c c fun m => bnd hi n m fun h => bnd lo 0 h fun l => K (.slice (if m = l then p else p.map (·.add (l * i.size))) (h - l) (m - l)) H := by
      cases mx <;> cases hi <;> simp_all
    refine bnd_mono h fun m h => bnd_mono h fun h' h => bnd_mono h fun l h => ?_
    refine vp_size hi' ?_
    exact h
  · rename_i n e p
    replace h := tyI_elim h; obtain ⟨i, hi', h⟩ := h
    replace h := ptr_elim h; obtain ⟨ad, rfl, h⟩ := h
    show vp P (Instr.sureAddr _ >>= _) K E H
    refine vp_bind' ?_
    show vp P (Instr.sliceBounds _ _ _ _ _ _ >>= _) _ _ _
    have hx : mx = none ∨ hi ≠ none := by
      cases mx <;> cases hi <;> simp_all
    refine bounds_vp hx ?_
    have h : bnd mx n n fun m => bnd hi n m fun h => bnd lo 0 h fun l => K (.slice (some (if m = l then ad else ad.add (l * i.size))) (h - l) (m - l)) H := by
      cases mx <;> cases hi <;> simp_all
    refine bnd_mono h fun m h => bnd_mono h fun h' h => bnd_mono h fun l h => ?_
    refine vp_size hi' ?_
    exact h
  · exact h.elim

theorem rep_length {α : Type} (n : Nat) (l : List α) : (rep n l).length = n * l.length := by
  induction n with
  | zero => simp [rep]
  | succ n ih => simp [rep, ih, Nat.add_mul]; omega
theorem rep_get {α : Type} (l : List α) : ∀ (n j : Nat), j < n * l.length → (rep n l)[j]? = l[j % l.length]?
  | 0, j, h => by simp at h
  | n + 1, j, h => by
    rw [rep, List.getElem?_append]
    split
    · rw [Nat.mod_eq_of_lt (by assumption)]
    · rename_i hge
      have hl : 0 < l.length := by
        rcases Nat.eq_zero_or_pos l.length with h0 | h0
        · rw [h0] at h; simp at h
        · exact h0
      rw [rep_get l n (j - l.length) (by rw [Nat.succ_mul] at h; omega)]
      rw [show j % l.length = (j - l.length) % l.length from Nat.mod_eq_sub_mod (by omega)]
theorem zeros_eq (z : Array Value) (n : Nat) : (Array.range (n * z.size)).map (fun i => z[i % z.size]!) = (rep n z.toList).toArray := by
  apply Array.ext_getElem?
  intro j
  have e1 : (rep n z.toList).toArray[j]? = (rep n z.toList)[j]? := by simp
  by_cases h : j < n * z.size
  · have hz : 0 < z.size := by
      rcases Nat.eq_zero_or_pos z.size with h0 | h0
      · rw [h0] at h; simp at h
      · exact h0
    have hm : j % z.size < z.size := Nat.mod_lt _ hz
    have := rep_get z.toList n j (by simpa using h)
    simp only [Array.length_toList, Array.getElem?_toList] at this
    rw [e1, this]
    simp [h, hm]
  · have h2 : (rep n z.toList).length ≤ j := by rw [rep_length]; simpa using h
    rw [e1, List.getElem?_eq_none h2]
    simp [h]
theorem nMake_vp {t : TypeId} {l c : Value} {K : Value → Heap → Prop} {E : Value → Heap → Prop} {H : Heap} (h : nMake P t l c K H) : vp P (Instr.makeSlice t l c) K E H := by
  unfold nMake at h
  split at h
  · rename_i kl l kc c
    replace h := tyD_elim h; obtain ⟨d, hd, h⟩ := h
    split at h
    · rename_i e
      replace h := tyI_elim h; obtain ⟨i, hi, h⟩ := h
      replace h := tyZ_elim h; obtain ⟨i', z, hi', hz, hs, h⟩ := h
      obtain rfl : i = i' := by rw [hi] at hi'; exact Option.some.inj hi'
      obtain ⟨⟨h0, h1, h2, h3⟩, h⟩ := h
      unfold Instr.makeSlice
      refine vp_und hd ?_
      refine vp_bind' ?_
      refine vp_bind' ?_
      show vp P (_ >>= _) _ _ _
      refine vp_bind' ?_
      refine vp_bind' ?_
      show vp P (_ >>= _) _ _ _
      refine vp_info hi ?_
      have hl : IntKind.i64.wrap l = l := by unfold IntKind.wrap; simp [IntKind.signed, IntKind.bits]; omega
      have hc : IntKind.i64.wrap c = c := by unfold IntKind.wrap; simp [IntKind.signed, IntKind.bits]; omega
      simp only [hl, hc]
      rw [if_neg (by simp; omega)]
      refine vp_bind' ?_
      have hask : ∀ (Q : Unit → Heap → Prop), Q () H → vp P (askRoom (c.toNat * i.bytes)) Q E H := by
        intro Q hq; unfold askRoom; split <;> exact hq
      refine hask _ ?_
      refine vp_size hi ?_
      by_cases h0 : c.toNat * i.size = 0
      · rw [if_pos h0]
        have : (rep c.toNat z.cells.toList).toArray = #[] := by
          apply Array.eq_empty_of_size_eq_zero
          rw [List.size_toArray, rep_length]; rw [← hs] at h0; simpa using h0
        rw [this] at h
        refine vp_bind' ?_
        show vp P (_ >>= _) _ _ _
        rw [h0]
        have e0 : (Array.range 0).map (fun x => (#[] : Array Value)[x % (#[] : Array Value).size]!) = #[] := by simp
        rw [e0]
        exact fun id hid => h id hid
      · rw [if_neg h0]
        refine vp_zero hi hz ?_
        refine vp_bind' ?_
        show vp P (_ >>= _) _ _ _
        rw [← hs, zeros_eq]
        exact fun id hid => h id hid
    · exact h.elim
  · exact h.elim

theorem binS_vp {op : BinOp} {t : TypeId} {ox oy : Operand} {x y : Value} {K : Value → Heap → Prop} {E : Value → Heap → Prop} {H : Heap} {r : Option Prop × Value}
    (h : binS (boolB P t) op x y = some r) (hc : ∀ c, r.1 = some c → c) (hk : K r.2 H) : vp P (do eqGuard op t ox oy x y; Go.binOp op t x y) K E H := by
  have hB : boolB P t = true → P.underlying t = some .bool := by
    intro hb; unfold boolB at hb; split at hb <;> simp_all
  unfold binS at h
  split at h
  · cases h
    have hb := hc _ rfl
    show vp P (if _ < (0 : Int) then _ else _) K E H
    rw [if_neg (by omega)]; exact hk
  · cases h
    have hb := hc _ rfl
    show vp P (if _ < (0 : Int) then _ else _) K E H
    rw [if_neg (by omega)]; exact hk
  · split at h
    · rename_i he
      obtain rfl := of_decide_eq_true he
      cases h
      have hb := hc _ rfl
      show vp P (if _ ≠ _ then _ else Op.intDiv _ _ _ _) K E H
      rw [if_neg (by simp)]
      unfold Op.intDiv
      rw [if_neg hb]; exact hk
    · cases h
  · split at h
    · rename_i he
      obtain rfl := of_decide_eq_true he
      cases h
      have hb := hc _ rfl
      show vp P (if _ ≠ _ then _ else Op.intDiv _ _ _ _) K E H
      rw [if_neg (by simp)]
      unfold Op.intDiv
      rw [if_neg hb]; exact hk
    · cases h
  · cases h
    have hb := hc _ rfl
    show vp P (if _ then _ else _) K E H
    rw [if_neg (by simpa [IntKind.max, IntKind.signed, IntKind.bits] using hb)]; exact hk
  · rename_i k a k' b hs1 hs2 hs3 hs4
    split at h
    · rename_i he
      obtain rfl := of_decide_eq_true he
      split at h
      · rename_i v hv
        cases h
        cases op <;> simp only [intOp, Option.some.injEq, reduceCtorEq] at hv <;> subst hv
        case add =>
          show vp P (if _ ≠ _ then _ else Op.intArith _ _ _ _) K E H
          rw [if_neg (by simp)]; exact hk
        case sub =>
          show vp P (if _ ≠ _ then _ else Op.intArith _ _ _ _) K E H
          rw [if_neg (by simp)]; exact hk
        case mul =>
          show vp P (if _ ≠ _ then _ else Op.intArith _ _ _ _) K E H
          rw [if_neg (by simp)]; exact hk
        case and =>
          show vp P (if _ ≠ _ then _ else Op.intBits _ _ _ _) K E H
          rw [if_neg (by simp)]; exact hk
        case or =>
          show vp P (if _ ≠ _ then _ else Op.intBits _ _ _ _) K E H
          rw [if_neg (by simp)]; exact hk
        case xor =>
          show vp P (if _ ≠ _ then _ else Op.intBits _ _ _ _) K E H
          rw [if_neg (by simp)]; exact hk
        case andNot =>
          show vp P (if _ ≠ _ then _ else Op.intBits _ _ _ _) K E H
          rw [if_neg (by simp)]; exact hk
        all_goals
          show vp P (if _ ≠ _ then _ else Op.intCmp _ _ _) K E H
          rw [if_neg (by simp)]; exact hk
      · cases h
    · cases h
  · split at h
    · rename_i v hv
      cases h
      cases op <;> simp only [strOp, Option.some.injEq, reduceCtorEq] at hv <;> subst hv <;> exact hk
    · cases h
  · split at h
    · rename_i hb
      cases h
      show vp P (Op.equal _ _ _ >>= _) K E H
      refine vp_bind' ?_
      show vp P (underlying t >>= _) _ _ _
      refine vp_und (hB hb) ?_
      exact hk
    · cases h
  · split at h
    · rename_i hb
      cases h
      show vp P (Op.equal _ _ _ >>= _) K E H
      refine vp_bind' ?_
      show vp P (underlying t >>= _) _ _ _
      refine vp_und (hB hb) ?_
      exact hk
    · cases h
  · cases h
theorem nBin_vp {op : BinOp} {t : TypeId} {ox oy : Operand} {x y : Value} {K : Value → Heap → Prop} {E : Value → Heap → Prop} {H : Heap} (h : nBin P op t ox oy x y K E H) :
    vp P (do eqGuard op t ox oy x y; Go.binOp op t x y) K E H := by
  unfold nBin at h
  split at h
  · rename_i c v hb
    exact binS_vp hb (fun c' hc => by cases hc; exact h.1) h.2
  · rename_i v hb
    exact binS_vp hb (fun c' hc => by cases hc) h
  · replace h := tyD_elim h; obtain ⟨d, hd, h⟩ := h
    split at h
    · exact h.elim
    · split at h
      · rename_i hfl
        simp only [Bool.and_eq_true, Bool.not_eq_true'] at hfl
        obtain ⟨hfl, hgd⟩ := hfl
        have key : ∀ (xs ys : Array Value), (confB (leafs P 20 t) xs.toList && confB (leafs P 20 t) ys.toList) = true → det P (Op.equal t (.agg xs) (.agg ys)) = some (eqVs xs.toList ys.toList) := by
          intro xs ys hc
          simp only [Bool.and_eq_true] at hc
          have hk := det_equal 20 Op.maxDepth t xs.toList ys.toList (by decide) hfl hc.1 hc.2
          have hag : aggD (und P t) = true := by
            unfold und; rw [hd]; simp only [Option.getD_some]
            unfold flatB at hfl; rw [hd] at hfl
            cases d <;> first | rfl | (exfalso; simp_all [scalarD])
          simp only [wrapV, hag] at hk
          exact hk
        split at h
        · rename_i xs ys hb'
          split at h
          · rename_i hc
            refine det_vp ?_ h
            have : det P (eqGuard .eql t ox oy (.agg xs) (.agg ys)) = some () := by
              have hp : det P program = some P := rfl
              simp [eqGuard, det_bind, hp, hgd, det_pure]
            rw [det_bind, this]
            show det P (Op.equal t (.agg xs) (.agg ys) >>= _) = _
            rw [det_bind, key xs ys hc]; rfl
          · exact h.elim
        · rename_i xs ys hb'
          split at h
          · rename_i hc
            refine det_vp ?_ h
            have : det P (eqGuard .neq t ox oy (.agg xs) (.agg ys)) = some () := by
              have hp : det P program = some P := rfl
              simp [eqGuard, det_bind, hp, hgd, det_pure]
            rw [det_bind, this]
            show det P (Op.equal t (.agg xs) (.agg ys) >>= _) = _
            rw [det_bind, key xs ys hc]; rfl
          · exact h.elim
        · exact h.elim
      · exact h
theorem nUn_vp {op : UnOp} {x : Value} {K : Value → Heap → Prop} {E : Value → Heap → Prop} {H : Heap} (h : nUn op x K H) : vp P (Op.unary op x) K E H := by
  unfold nUn at h
  split at h <;> first | exact h | exact h.elim
theorem nExtract_vp {i : Nat} {x : Value} {K : Value → Heap → Prop} {E : Value → Heap → Prop} {H : Heap} (h : nExtract x i K H) : vp P (Instr.extract x i) K E H := by
  unfold nExtract at h
  split at h
  · rename_i vs
    split at h
    · rename_i v hv
      have hv : vs[i]? = some v := by rw [← Array.getElem?_toList]; exact hv
      unfold Instr.extract
      simp only [hv]; exact h
    · exact h.elim
  · exact h.elim
theorem nIface_vp {t : TypeId} {x : Value} {K : Value → Heap → Prop} {E : Value → Heap → Prop} {H : Heap} (h : nIface P t x K H) : vp P (Instr.makeInterface t x) K E H := by
  replace h := tyD_elim h; obtain ⟨d, hd, h⟩ := h
  unfold Instr.makeInterface
  refine vp_und hd ?_
  cases d <;> first | exact h.elim | exact h
theorem nLen_vp {t ty : TypeId} {x : Value} {ts : Array TypeId} {args : Array Value} {K : Value → Heap → Prop} {E : Value → Heap → Prop} {H : Heap}
    (h0 : ts[0]? = some t) (h1 : args[0]? = some x) (h : nLen P t x K H) : vp P (Builtin.len_ ts ty args) K E H := by
  replace h := tyD_elim h; obtain ⟨d, hd, h⟩ := h
  unfold Builtin.len_
  simp only [h0, h1]
  refine vp_und hd ?_
  split at h <;> first | exact h | exact h.elim
theorem minV_vp {v : Value} {K : Value → Heap → Prop} {E : Value → Heap → Prop} {H : Heap} : ∀ (l : List Value) (x : Value), minV x l = some v → K v H → vp P (l.foldlM Builtin.min2 x) K E H
  | [], x, h, hk => by simp only [minV, Option.some.injEq] at h; subst h; exact hk
  | y :: l, x, h, hk => by
    cases x <;> cases y <;> simp only [minV, reduceCtorEq] at h
    rw [List.foldlM_cons]
    exact vp_bind' (minV_vp l _ h hk)
theorem maxV_vp {v : Value} {K : Value → Heap → Prop} {E : Value → Heap → Prop} {H : Heap} : ∀ (l : List Value) (x : Value), maxV x l = some v → K v H → vp P (l.foldlM Builtin.max2 x) K E H
  | [], x, h, hk => by simp only [maxV, Option.some.injEq] at h; subst h; exact hk
  | y :: l, x, h, hk => by
    cases x <;> cases y <;> simp only [maxV, reduceCtorEq] at h
    rw [List.foldlM_cons]
    exact vp_bind' (maxV_vp l _ h hk)

theorem callFunc_vp {g : FuncId} {args : Array Value} {K : Value → Heap → Prop} {E : Chain → Heap → Prop} {H : Heap} (h : Does P g args H K E) :
    vp P (callFunc g args) (nxt P K E) (raise E) H := by
  have hg := h.1
  unfold goFn at hg
  unfold callFunc
  refine vp_bind' ?_
  show vp P (match P.funcs[g]? with | none => _ | some fn => _) _ _ _
  split at hg
  · rename_i fn hf
    simp only [hf]
    simp only [Bool.and_eq_true, Bool.not_eq_true'] at hg
    rw [if_neg (by simp [hg.1])]
    rw [if_neg (by cases hb : fn.body <;> simp_all)]
    exact h
  · cases hg
theorem exT_elim {t : TypeId} {K : Value → Prop} (h : exT P t K) : ∃ v, K v := by
  unfold exT at h; split at h
  · obtain ⟨vs, _, h⟩ := exL_elim h; exact ⟨_, h⟩
  · exact exS_elim h
theorem exTs_elim : ∀ {l : List TypeId} {K : List Value → Prop}, exTs P l K → ∃ vs, K vs
  | [], K, h => ⟨[], h⟩
  | t :: l, K, h => by
    obtain ⟨v, h⟩ := exT_elim h
    obtain ⟨vs, h⟩ := exTs_elim h
    exact ⟨v :: vs, h⟩
theorem tyRes_elim {t : TypeId} {v : Value} {K : Value → Prop} (h : tyRes P t v K) : K v := by
  unfold tyRes at h
  split at h
  · exact h
  · obtain ⟨vs, he, h'⟩ := exTs_elim h; rw [he]; exact h'
  · obtain ⟨u, he, h'⟩ := exT_elim h; rw [he]; exact h'
theorem nCall_vp {t' : TypeId} {f : Operand} {c : Call} {ty : TypeId} {ρ : Operand → Value} {K : Value → Heap → Prop} {E : Chain → Heap → Prop} {H : Heap} (hc : c.callee = .value f)
    (h : nCall P t' E (ρ f) (c.args.map ρ) K H) : vp P (do let d ← resolve ρ c ty; invoke d.target d.args) (nxt P K E) (raise E) H := by
  unfold nCall callV at h
  split at h
  · rename_i g first caps hv
    refine vp_bind' ?_
    unfold resolve
    simp only [hc]
    unfold Deferred.ofValue
    simp only [hv]
    show vp P (callFunc g ((first ++ c.args.map ρ) ++ caps)) _ _ _
    have e : (first ++ c.args.map ρ) ++ caps = (first.toList ++ (c.args.map ρ).toList ++ caps.toList).toArray := by apply Array.ext'; simp
    rw [e]
    exact callFunc_vp (h.mono (fun v H h => tyRes_elim h) (fun _ _ h => h))
  · exact h.elim

theorem rdS_vp {α : Type} {size n m c : Nat} {p : Option Addr} {vs : List Value} {f : Array Value → Sem α} {Q : α → Heap → Prop} {E : Value → Heap → Prop} {H : Heap}
    (hl : vs.length = n * size) (hr : H.rdS p vs) (h : vp P (f vs.toArray) Q E H) : vp P (Builtin.firstCells size n (.slice p m c) >>= f) Q E H := by
  cases p with
  | none =>
    refine vp_bind' ?_
    have : vs = [] := hr
    subst this; exact h
  | some ad => exact vp_loadCells hl hr h
theorem wrS_vp {p : Option Addr} {o : Nat} {vs : List Value} {α : Type} {f : Sem α} {Q : α → Heap → Prop} {E : Value → Heap → Prop} {H : Heap}
    (h : wrS p o vs H fun H => vp P f Q E H) (K : PUnit → Sem α) (hK : K ⟨⟩ = f) : vp P ((if let some a := p then storeCells (a.add o) vs else pure ⟨⟩) >>= K) Q E H := by
  unfold wrS at h
  cases vs with
  | nil =>
    cases p with
    | none => refine vp_bind' ?_; show vp P (K ⟨⟩) _ _ _; rw [hK]; exact h
    | some a => refine vp_bind' ?_; show vp P (K ⟨⟩) _ _ _; rw [hK]; exact h
  | cons v l =>
    replace h := ptr_elim h; obtain ⟨ad, rfl, h⟩ := h
    refine vp_bind' ?_
    refine wr_vp ?_
    subst hK
    exact h
theorem zeroCells_eq (z : Array Value) (n : Nat) : Builtin.zeroCells z n = (rep n z.toList).toArray := zeros_eq z n
theorem vp_notInt {α : Type} {d : TypeDesc} {f : Bool → Sem α} {Q : α → Heap → Prop} {E : Value → Heap → Prop} {H : Heap}
    (h : vp P (f false) Q E H) : (∀ k, d ≠ .int k) → vp P (pure (d matches .int _) >>= f) Q E H := by
  intro hd
  refine vp_bind' ?_
  cases d <;> first | exact h | exact absurd rfl (hd _)
theorem src_vp {α : Type} {size : Nat} {x : Value} {H : Heap} {K : Nat → List Value → Prop} (h : srcOf size x H K) :
    ∃ n vs, vs.length = n * size ∧ K n vs ∧ Builtin.lenOf x = pure n ∧ ∀ {f : Array Value → Sem α} {Q : α → Heap → Prop} {E : Value → Heap → Prop},
      vp P (f vs.toArray) Q E H → vp P (Builtin.firstCells size n x >>= f) Q E H := by
  unfold srcOf at h
  split at h
  · rename_i p n c
    obtain ⟨vs, hl, hr, h⟩ := h
    exact ⟨n, vs, hl, h, rfl, fun hf => rdS_vp hl hr hf⟩
  · rename_i s
    obtain ⟨h1, h⟩ := h
    have hs : s.data.size = s.size := rfl
    refine ⟨s.size, bytesV s, by simp [bytesV, h1, hs], h, rfl, fun {f Q E} hf => ?_⟩
    refine vp_bind' ?_
    show vp P (f _) _ _ _
    have he : (s.extract 0 s.size).data = s.data := by
      rw [ByteArray.data_extract]
      show s.data.extract 0 s.data.size = s.data
      simp
    have : ((s.extract 0 s.size).data.map fun b => Value.int .u8 b.toNat) = (bytesV s).toArray := by
      rw [he]
      apply Array.ext'
      simp [bytesV, byteV]
    rw [this]; exact hf
  · exact h.elim
theorem app_vp {t : TypeId} {p : Option Addr} {n c : Nat} {x : Value} {K : Value → Heap → Prop} {E : Value → Heap → Prop} {H : Heap} {ats : Array TypeId} {ty tx : TypeId}
    (h0 : ats[0]? = some t) (h1 : ats[1]? = some tx) (hx : ∃ d, P.underlying tx = some d ∧ ∀ k, d ≠ .int k) (h : app P t p n c x H fun p n c H => K (.slice p n c) H) :
    vp P (Builtin.append_ ats ty #[.slice p n c, x]) K E H := by
  unfold app at h
  replace h := tyD_elim h; obtain ⟨d, hd, h⟩ := h
  split at h
  · rename_i e
    replace h := tyI_elim h; obtain ⟨i, hi, h⟩ := h
    replace h := tyZ_elim h; obtain ⟨i', z, hi', hz, hs, h⟩ := h
    obtain rfl : i = i' := by rw [hi] at hi'; exact Option.some.inj hi'
    replace h := src_vp (P := P) (α := Value) h
    obtain ⟨n', vs, hl, ⟨hin, hout⟩, hlen, hread⟩ := h
    obtain ⟨dx, hdx, hint⟩ := hx
    unfold Builtin.append_
    simp only [h0, h1]
    refine vp_und hd ?_
    show vp P (sizeOf e >>= _) _ _ _
    refine vp_size hi ?_
    refine vp_und hdx ?_
    refine vp_notInt ?_ hint
    show vp P (Builtin.lenOf x >>= _) _ _ _
    rw [hlen]
    refine vp_bind' ?_
    show vp P (if n + n' ≤ c then _ else _) _ _ _
    by_cases hc : n + n' ≤ c
    · rw [if_pos hc]
      show vp P (Builtin.firstCells i.size n' x >>= _) _ _ _
      refine hread ?_
      have hin := hin hc
      unfold wrS at hin
      cases vs with
      | nil =>
        cases p with
        | none => exact hin
        | some a => exact vp_bind' hin
      | cons v l =>
        replace hin := ptr_elim hin; obtain ⟨ad, rfl, hin⟩ := hin
        refine vp_bind' ?_
        exact wr_vp hin
    · rw [if_neg hc]
      obtain ⟨hb, hpos, us, hul, hur, hk⟩ := hout (by omega)
      refine vp_info hi ?_
      rw [if_neg (by simp; omega)]
      refine vp_info hi ?_
      rw [if_neg (by omega)]
      refine vp_bind' ?_
      unfold choose
      simp only [vp, Question.forced, Bool.false_eq_true, if_false]
      intro tape
      refine vp_info hi ?_
      refine vp_bind' ?_
      have hask : ∀ (m : Nat) (Q : Unit → Heap → Prop), Q () H → vp P (askRoom m) Q E H := by
        intro m Q hq; unfold askRoom; split <;> exact hq
      refine hask _ _ ?_
      show vp P (Builtin.firstCells i.size n (.slice p n c) >>= _) _ _ _
      refine rdS_vp hul hur ?_
      show vp P (Builtin.firstCells i.size n' x >>= _) _ _ _
      refine hread ?_
      refine vp_zero hi hz ?_
      rw [zeroCells_eq]
      have hcut : n + n' ≤ (Question.appendCap (n + n') c e).cut tape := by
        show n + n' ≤ n + n' + _; omega
      have := hk _ hcut
      have e1 : us.toArray ++ vs.toArray ++ (rep ((Question.appendCap (n + n') c e).cut tape - (n + n')) z.cells.toList).toArray =
          (us ++ vs ++ rep ((Question.appendCap (n + n') c e).cut tape - (n + n')) z.cells.toList).toArray := by simp
      rw [e1]
      exact this
  · exact h.elim
end Go.V

/- More nice forms of operations: literals, conversions; 'vcOp' and its soundness. -/
namespace Go.V
set_option linter.constructorNameAsVariable false
set_option linter.unusedVariables false
variable {P : Program}

instance : LawfulMonad Sem := LawfulMonad.mk'
  (id_map := fun s => by show s.bind (fun a => Sem.pure (id a)) = s; exact bind_pure_ s)
  (pure_bind := fun _ _ => rfl)
  (bind_assoc := fun s f g => bind_assoc s f g)

section
variable (P : Program)
def szs : List Field → Option (List (Nat × Nat))
  | [] => some []
  | f :: l => match P.info? f.type, szs l with
    | some i, some r => some ((f.offset, i.size) :: r)
    | _, _ => none
end
def fillN (place : Nat → Option (Nat × Nat)) : Array Value → List (Nat × Value) → Option (Array Value)
  | c, [] => some c
  | c, (i, v) :: rest => match place i with
    | none => none
    | some (off, size) => match Nat.beq v.cells.size size && Nat.ble (off + v.cells.size) c.size with
      | true => fillN place (over c off v.cells.toList) rest
      | false => none
theorem over_foldl (vs : List Value) : ∀ (c : Array Value) (off k : Nat),
    (vs.zipIdx k).foldl (fun cs (x : Value × Nat) => cs.setIfInBounds (off + x.2) x.1) c = over c (off + k) vs := by
  induction vs with
  | nil => intro c off k; rfl
  | cons v vs ih => intro c off k; simp only [List.zipIdx_cons, List.foldl_cons, over]; rw [ih]; congr 1
theorem fill_eq (place : Nat → Option (Nat × Nat)) : ∀ (parts : List (Nat × Value)) (c : Array Value), Instr.fill place c parts = fillN place c parts
  | [], c => rfl
  | (i, v) :: rest, c => by
    unfold Instr.fill fillN
    cases hp : place i with
    | none => rfl
    | some os =>
      obtain ⟨off, size⟩ := os
      simp only []
      have e1 : v.cells.zipIdx.foldl (fun cs (x : Value × Nat) => cs.setIfInBounds (off + x.2) x.1) c = over c off v.cells.toList := by
        rw [← Array.foldl_toList, Array.toList_zipIdx]; exact over_foldl _ _ _ 0
      have e2 : (v.cells.zipIdx.foldl (fun cs x => match x with | (c, j) => cs.setIfInBounds (off + j) c) c) = over c off v.cells.toList := e1
      rw [e2, fill_eq place rest]
      by_cases h1 : v.cells.size = size
      · subst h1
        by_cases h2 : off + v.cells.size ≤ c.size
        · have : (Nat.beq v.cells.size v.cells.size && Nat.ble (off + v.cells.size) c.size) = true := by simp; omega
          rw [this, if_neg (by simp; omega)]
        · have : (Nat.beq v.cells.size v.cells.size && Nat.ble (off + v.cells.size) c.size) = false := by
            have hb : Nat.ble (off + v.cells.size) c.size = false := by
              cases h : Nat.ble (off + v.cells.size) c.size
              · rfl
              · exact absurd (Nat.le_of_ble_eq_true h) h2
            rw [hb, Bool.and_false]
          rw [this, if_pos (by simp; omega)]
      · have : (Nat.beq v.cells.size size && Nat.ble (off + v.cells.size) c.size) = false := by simp [h1]
        rw [this, if_pos (by simp [h1])]
section
variable (P : Program)
def nBuild (t : TypeId) (parts : List (Nat × Value)) (K : Value → Heap → Prop) (H : Heap) : Prop :=
  tyZ P t fun z => tyD P t fun d => match d with
  | .struct fs => match szs P fs.toList with
    | some pl => match fillN (fun i => pl[i]?) z.toArray parts with
      | some cells => K (.agg cells) H
      | none => False
    | none => False
  | .array _ e => tyI P e fun i => match fillN (fun j => some (j * i.size, i.size)) z.toArray parts with
    | some cells => K (.agg cells) H
    | none => False
  | _ => False
def nBuildSlice (t : TypeId) (len : Nat) (parts : List (Nat × Value)) (K : Value → Heap → Prop) (H : Heap) : Prop :=
  tyD P t fun d => match d with
  | .slice e => tyI P e fun i => tyZ P e fun z => match Nat.ble (len * i.size) 16777216 with
    | true => match fillN (fun j => some (j * i.size, i.size)) (rep len z).toArray parts with
      | some cells => nw (.cells cells e (0, 0)) H fun id H => K (.slice (some ⟨id, 0, none⟩) len len) H
      | none => False
    | false => False
  | _ => False
def nConv (s d : TypeId) (x : Value) (K : Value → Heap → Prop) (H : Heap) : Prop :=
  tyD P s fun ds => tyD P d fun dd => match dd, x with
  | .int k, .int _ n => K (.int k (k.wrap n)) H
  | .string, .string s => K (.string s) H
  | .slice e, .string s => tyD P e fun de => match de with
    | .int .u8 => ∀ c, s.size ≤ c → nw (.cells (bytesV s ++ List.replicate (c - s.size) (Value.int .u8 0)).toArray e (c, c + 1)) H fun id H => K (.slice (some ⟨id, 0, none⟩) s.size c) H
    | _ => False
  | .string, .slice p n c => match ds with
    | .slice e => tyD P e fun de => match de with
      | .int .u8 => ∃ bs : List UInt8, bs.length = n ∧ H.rdS p (bs.map byteV) ∧ K (.string ⟨bs.toArray⟩) H
      | _ => False
    | _ => False
  | .slice e, .slice (some a) n c => match ds with
    | .slice _ => match Nat.beq s d with
      | true => tyD P e fun de => match de with
        | .int .u8 => ∃ (cs : Array Value) (t : TypeId), H a.block = some (.cells cs t (0, 0)) ∧ K (.slice (some a) n c) (H.set a.block (.cells cs t (cs.size, cs.size + 1)))
        | _ => False
      | false => False
    | _ => False
  | _, _ => False
end
theorem mapM_szs (P : Program) : ∀ (fs : List Field) (pl : List (Nat × Nat)) {α : Type} (f : List (Nat × Nat) → Sem α) {Q : α → Heap → Prop} {E : Value → Heap → Prop} {H : Heap},
    szs P fs = some pl → vp P (f pl) Q E H → vp P (fs.mapM (fun f => do pure (f.offset, ← sizeOf f.type)) >>= f) Q E H
  | [], pl, α, f, Q, E, H, hs, h => by
    simp only [szs, Option.some.injEq] at hs; subst hs
    exact h
  | x :: l, pl, α, f, Q, E, H, hs, h => by
    simp only [szs] at hs
    split at hs
    · rename_i i r hi hr
      cases hs
      rw [List.mapM_cons, LawfulMonad.bind_assoc, LawfulMonad.bind_assoc]
      refine vp_size hi ?_
      show vp P (_ >>= _) _ _ _
      simp only [LawfulMonad.pure_bind, LawfulMonad.bind_assoc]
      exact mapM_szs P l r _ hr h
    · cases hs
theorem nBuild_vp {t : TypeId} {parts : Array (Nat × Value)} {K : Value → Heap → Prop} {E : Value → Heap → Prop} {H : Heap} (h : nBuild P t parts.toList K H) :
    vp P (Instr.build t parts) K E H := by
  replace h := tyZ_elim h; obtain ⟨i, z, hi, hz, hs, h⟩ := h
  replace h := tyD_elim h; obtain ⟨d, hd, h⟩ := h
  unfold Instr.build
  refine vp_zero hi hz ?_
  refine vp_und hd ?_
  split at h
  · rename_i fs
    split at h
    · rename_i pl hpl
      split at h
      · rename_i cells hc
        show vp P (fs.mapM _ >>= _) _ _ _
        rw [Array.mapM_eq_mapM_toList, map_eq_pure_bind, Go.V.bind_assoc]
        refine mapM_szs P _ pl _ hpl ?_
        refine vp_bind' ?_
        show vp P _ K E H
        rw [fill_eq]
        have e1 : (fun i => pl.toArray[i]?) = fun (i : Nat) => pl[i]? := by funext i; simp
        rw [e1]
        simp only [Array.toArray_toList] at hc
        rw [hc]; exact h
      · exact h.elim
    · exact h.elim
  · rename_i n e
    replace h := tyI_elim h; obtain ⟨ie, hie, h⟩ := h
    split at h
    · rename_i cells hc
      refine vp_size hie ?_
      rw [fill_eq]
      simp only [Array.toArray_toList] at hc
      rw [hc]; exact h
    · exact h.elim
  · exact h.elim
theorem nBuildSlice_vp {t : TypeId} {len : Nat} {parts : Array (Nat × Value)} {K : Value → Heap → Prop} {E : Value → Heap → Prop} {H : Heap} (h : nBuildSlice P t len parts.toList K H) :
    vp P (Instr.buildSlice t len parts) K E H := by
  replace h := tyD_elim h; obtain ⟨d, hd, h⟩ := h
  unfold Instr.buildSlice
  refine vp_und hd ?_
  split at h
  · rename_i e
    replace h := tyI_elim h; obtain ⟨i, hi, h⟩ := h
    replace h := tyZ_elim h; obtain ⟨i', z, hi', hz, hs, h⟩ := h
    obtain rfl : i = i' := by rw [hi] at hi'; exact Option.some.inj hi'
    split at h
    · rename_i hle
      split at h
      · rename_i cells hc
        refine vp_size hi ?_
        rw [if_neg (by have := Nat.le_of_ble_eq_true hle; omega)]
        by_cases h0 : len * i.size = 0
        · rw [if_pos h0]
          refine vp_bind' ?_
          have e0 : (Array.range (len * i.size)).map (fun x => (#[] : Array Value)[x % (#[] : Array Value).size]!) = (rep len z.cells.toList).toArray := by
            rw [h0]
            have : (rep len z.cells.toList).toArray = #[] := by
              apply Array.eq_empty_of_size_eq_zero
              rw [List.size_toArray, rep_length]; rw [← hs] at h0; simpa using h0
            rw [this]; simp
          show vp P _ K E H
          dsimp only
          rw [e0, fill_eq, hc]
          exact fun id hid => h id hid
        · rw [if_neg h0]
          refine vp_zero hi hz ?_
          refine vp_bind' ?_
          show vp P _ K E H
          dsimp only
          have e0 : (Array.range (len * i.size)).map (fun x => z.cells[x % z.cells.size]!) = (rep len z.cells.toList).toArray := by
            rw [← hs, zeros_eq]
          rw [e0, fill_eq, hc]
          exact fun id hid => h id hid
      · exact h.elim
    · exact h.elim
  · exact h.elim
theorem bytes_loop {α : Type} {f : ByteArray → Sem α} {Q : α → Heap → Prop} {E : Value → Heap → Prop} {H : Heap} : ∀ (bs : List UInt8) (s : ByteArray),
    vp P (f ⟨s.data ++ bs.toArray⟩) Q E H → vp P ((forIn (bs.map byteV) s fun c s => do
      let .int .u8 n := c | stuck "bytesToString: byte expected"
      pure (ForInStep.yield (s.push (UInt8.ofNat n.toNat)))) >>= f) Q E H
  | [], s, h => by simpa using h
  | b :: bs, s, h => by
    simp only [List.map_cons, List.forIn_cons, LawfulMonad.bind_assoc]
    show vp P (_ >>= f) Q E H
    refine bytes_loop bs (s.push (UInt8.ofNat (b.toNat : Int).toNat)) ?_
    have : (⟨(s.push (UInt8.ofNat (b.toNat : Int).toNat)).data ++ bs.toArray⟩ : ByteArray) = ⟨s.data ++ (b :: bs).toArray⟩ := by
      congr 1
      show s.data.push _ ++ _ = _
      simp
    rw [this]; exact h
theorem nConv_vp {s d : TypeId} {x : Value} {K : Value → Heap → Prop} {E : Value → Heap → Prop} {H : Heap} (h : nConv P s d x K H) : vp P (convert s d x) K E H := by
  replace h := tyD_elim h; obtain ⟨ds, hds, h⟩ := h
  replace h := tyD_elim h; obtain ⟨dd, hdd, h⟩ := h
  unfold convert
  refine vp_und hds ?_
  refine vp_und hdd ?_
  split at h
  · cases ds <;> exact h
  · cases ds <;> exact h
  · rename_i e s
    replace h := tyD_elim h; obtain ⟨de, hde, h⟩ := h
    split at h
    · have hm : vp P (underlying e >>= fun x => match x with | .int .u8 => Conv.stringToBytes e s | .int .i32 => Conv.stringToRunes e s | _ => stuck "Convert: string to a slice of what?") K E H := by
        refine vp_und hde ?_
        show vp P (Conv.stringToBytes e s) _ _ _
        unfold Conv.stringToBytes
        refine vp_bind' ?_
        unfold choose
        simp only [vp, Question.forced, Bool.false_eq_true, if_false]
        intro tape
        have hcut : s.size ≤ (Question.appendCap s.size 0 e).cut tape := by
          show s.size ≤ s.size + _; omega
        have h := h _ hcut
        generalize (Question.appendCap s.size 0 e).cut tape = cap at h hcut
        intro id hid
        have h := h id hid
        have e1 : (s.data.map fun b => Value.int .u8 b.toNat) ++ Array.replicate (cap - s.size) (Value.int .u8 0) = (bytesV s ++ List.replicate (cap - s.size) (Value.int .u8 0)).toArray := by
          apply Array.ext'
          simp [bytesV, byteV]
        have e2 : (bytesV s ++ List.replicate (cap - s.size) (Value.int .u8 0)).toArray.size = cap := by
          have : s.data.size = s.size := rfl
          simp [bytesV]; omega
        rw [e1]
        refine vp_bind' ?_
        refine vp_bind' ?_
        show vp P (Sem.shape _ _) _ _ _
        simp only [vp, Heap.set_self]
        refine vp_bind (freeze { block := id, off := (bytesV s ++ List.replicate (cap - s.size) (Value.int .u8 0)).toArray.size } 1) _ ?_
        unfold freeze
        simp only [vp, Heap.set_self]
        simp only [Nat.one_ne_zero, if_false, BEq.rfl, if_true, Heap.set_set]
        rw [e2]
        exact h
      cases ds <;> exact hm
    · exact h.elim
  · rename_i p n c
    split at h
    · rename_i e
      replace h := tyD_elim h; obtain ⟨de, hde, h⟩ := h
      split at h
      · obtain ⟨bs, hl, hr, h⟩ := h
        show vp P (underlying e >>= _) _ _ _
        refine vp_und hde ?_
        show vp P (Conv.bytesToString _) _ _ _
        unfold Conv.bytesToString
        cases p with
        | none =>
          have : bs = [] := by simpa [Heap.rdS] using hr
          subst this
          exact h
        | some ad =>
          show vp P (loadCells ad n >>= _) _ _ _
          refine vp_loadCells (by simpa using hl) hr ?_
          rw [← Array.forIn_toList]
          refine bytes_loop bs .empty ?_
          have : (⟨ByteArray.empty.data ++ bs.toArray⟩ : ByteArray) = ⟨bs.toArray⟩ := by congr 1; simp
          rw [this]; exact h
      · exact h.elim
    · exact h.elim
  · rename_i e a n c
    split at h
    · split at h
      · rename_i hb
        replace h := tyD_elim h; obtain ⟨de, hde, h⟩ := h
        split at h
        · obtain ⟨cs, t, h1, h⟩ := h
          show vp P (underlying e >>= _) _ _ _
          refine vp_und hde ?_
          have hb : (s == d) = true := by simpa using hb
          rw [hb]
          show vp P (markStringish a >>= _) _ _ _
          refine vp_bind' ?_
          unfold markStringish
          show vp P (Sem.shape _ _) _ _ _
          simp only [vp, h1]
          unfold freeze
          show vp P (Sem.freeze _ _ _) _ _ _
          simp only [vp, h1, Nat.one_ne_zero, if_false, BEq.rfl, if_true]
          exact h
        · exact h.elim
      · exact h.elim
    · exact h.elim
  · exact h.elim
theorem nClear_vp {ats : Array TypeId} {ty : TypeId} {args : Array Value} {K : Value → Heap → Prop} {E : Value → Heap → Prop} {H : Heap} (h : nClear P ats.toList args.toList K H) : vp P (Builtin.clear_ ats ty args) K E H := by
  unfold nClear at h
  split at h
  · rename_i t p n c hts hargs
    replace h := tyD_elim h; obtain ⟨d, hd, h⟩ := h
    split at h
    · rename_i e
      replace h := tyI_elim h; obtain ⟨i, hi, h⟩ := h
      replace h := tyZ_elim h; obtain ⟨i', z, hi', hz, hs, h⟩ := h
      have ht0 : ats[0]? = some t := by rw [← Array.getElem?_toList, hts]; rfl
      have hx0 : args[0]? = some (.slice p n c) := by rw [← Array.getElem?_toList, hargs]; rfl
      unfold Builtin.clear_
      simp only [ht0, hx0]
      refine vp_und hd ?_
      cases p with
      | none =>
        cases n with
        | zero => exact h
        | succ n =>
          unfold wrS at h
          split at h
          · exact h
          · exact h.elim
      | some a =>
        cases n with
        | zero => exact h
        | succ n =>
          show vp P (zeroValue e >>= _) _ _ _
          refine vp_zero hi' hz ?_
          rw [zeroCells_eq, List.toList_toArray]
          refine vp_bind' ?_
          unfold wrS at h
          split at h
          · rename_i he; rw [he]; exact h
          · rename_i v l he
            rw [he]
            exact wr_vp h
    · exact h.elim
  · exact h.elim
end Go.V
