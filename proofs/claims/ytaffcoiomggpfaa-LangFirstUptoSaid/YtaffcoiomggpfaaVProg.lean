/- The weakest precondition of code, and its soundness. -/
import Derived.Test.YtaffcoiomggpfaaVIter
namespace Go.V
set_option linter.constructorNameAsVariable false
set_option linter.unusedVariables false

section
variable (P : Program)
def nApp (ts : List TypeId) (args : List Value) (K : Value → Heap → Prop) (H : Heap) : Prop :=
  match ts, args with
  | [t, tx], [.slice p n c, x] => tyD P tx fun d => match d with
    | .int _ => False
    | _ => app P t p n c x H fun p n c H => K (.slice p n c) H
  | _, _ => False
def vcOp (o : Oper) (ρ : Operand → Value) (K : Value → Heap → Prop) (E : Chain → Heap → Prop) (H : Heap) : Prop :=
  match o.op with
  | .move x | .assign x => K (ρ x) H
  | .pick c a b => nPick (ρ c) (ρ a) (ρ b) K H
  | .alloc e => nAlloc P e K H
  | .box e x => nBox e (ρ x) K H
  | .build t parts => nBuild P t (parts.toList.map fun p => (p.1, ρ p.2)) K H
  | .buildSlice t n parts => nBuildSlice P t n (parts.toList.map fun p => (p.1, ρ p.2)) K H
  | .load t a => nLoad P t (ρ a) K H
  | .store t a x => nStore P t (ρ a) (ρ x) K H
  | .nilCheck x => nNilCheck (ρ x) K H
  | .binOp op t x y _ => nBin P op t x y (ρ x) (ρ y) K (raise E) H
  | .convert s d x => nConv P s d (ρ x) K H
  | .unOp op _ x => nUn op (ρ x) K H
  | .extract x i => nExtract (ρ x) i K H
  | .makeInterface t x => nIface P t (ρ x) K H
  | .makeFunc fn first caps => K (.func fn (first.toList.map ρ).toArray (caps.toList.map ρ).toArray) H
  | .slice t x lo hi mx => nSlice P t (ρ x) (lo.map ρ) (hi.map ρ) (mx.map ρ) K H
  | .fieldAddr s x f => nFieldAddr P s (ρ x) f K H
  | .field t x f => nField P t (ρ x) f K H
  | .indexAddr t x i => nIndexAddr P t (ρ x) (ρ i) K H
  | .index t x i => nIndex P t (ρ x) (ρ i) K H
  | .makeSlice t l c => nMake P t (ρ l) (ρ c) K H
  | .range t x => nRange P t (ρ x) K H
  | .next it b => nNext (ρ it) b K H
  | .call c => match c.callee with
    | .value f => nCall P o.type E (ρ f) (c.args.toList.map ρ).toArray K H
    | .builtin .append => nApp P c.argTypes.toList (c.args.toList.map ρ) K H
    | .builtin .clear => nClear P c.argTypes.toList (c.args.toList.map ρ) K H
    | .builtin .len => match c.argTypes.toList, c.args.toList.map ρ with
      | [t], [x] => nLen P t x K H
      | _, _ => False
    | .builtin .min => match c.args.toList.map ρ with
      | x :: l => match minV x l with
        | some v => K v H
        | none => False
      | [] => False
    | .builtin .max => match c.args.toList.map ρ with
      | x :: l => match maxV x l with
        | some v => K v H
        | none => False
      | [] => False
    | _ => vraw P o ρ K E H
  | _ => vraw P o ρ K E H
end
variable {P : Program}

theorem map_eq (a : Array Operand) (ρ : Operand → Value) : a.map ρ = (a.toList.map ρ).toArray := by
  apply Array.ext'; simp
theorem mapP_eq (a : Array (Nat × Operand)) (ρ : Operand → Value) : (a.map fun (i, x) => (i, ρ x)) = (a.toList.map fun p => (p.1, ρ p.2)).toArray := by
  apply Array.ext'; simp
theorem vcOp_raw {o : Oper} {ρ : Operand → Value} {K : Value → Heap → Prop} {E : Chain → Heap → Prop} {H : Heap} (h : vcOp P o ρ K E H) : vraw P o ρ K E H := by
  obtain ⟨dst, op, type, pos, after, guard⟩ := o
  cases op
  case move x => exact h
  case assign x => exact h
  case pick c a b =>
    simp only [vcOp, nPick] at h
    show vp P (_ >>= _) _ _ _
    refine vp_bind' ?_
    split at h
    · rename_i b hb
      rw [hb]
      cases b <;> exact h
    · exact h.elim
  case alloc e => exact vp_v (nAlloc_vp h)
  case box e x => exact vp_v (nBox_vp h)
  case build t parts =>
    show vp P (do pure (Next.value (← Instr.build t (parts.map fun (i, x) => (i, ρ x))))) _ _ _
    rw [mapP_eq]
    have h : nBuild P t (parts.toList.map fun p => (p.1, ρ p.2)) K H := h
    refine vp_v (nBuild_vp ?_)
    rw [List.toList_toArray]; exact h
  case buildSlice t n parts =>
    unfold vraw execOp
    simp only []
    rw [mapP_eq]
    simp only [vcOp] at h
    have h2 := nBuildSlice_vp (E := raise E) (parts := (parts.toList.map fun p => (p.1, ρ p.2)).toArray) (by rw [List.toList_toArray]; exact h)
    exact vp_v h2
  case load t a => exact vp_v (nLoad_vp h)
  case store t a x => exact vp_u (nStore_vp h)
  case nilCheck x =>
    simp only [vcOp, nNilCheck] at h
    unfold vraw execOp
    split at h <;> rename_i hx <;> simp only [hx]
    · replace h := ptr_elim h; obtain ⟨ad, rfl, h⟩ := h; exact h
    all_goals first | exact h | exact h.elim
  case binOp op t x y yt => exact vp_v (nBin_vp h)
  case convert s d x => exact vp_v (nConv_vp h)
  case unOp op t x => exact vp_v (nUn_vp h)
  case extract x i => exact vp_v (nExtract_vp h)
  case makeInterface t x => exact vp_v (nIface_vp h)
  case makeFunc fn first caps =>
    unfold vraw execOp
    simp only []
    rw [map_eq, map_eq]
    exact h
  case slice t x lo hi mx => exact vp_v (nSlice_vp h)
  case fieldAddr s x f => exact vp_v (nFieldAddr_vp h)
  case field t x f => exact vp_v (nField_vp h)
  case indexAddr t x i => exact vp_v (nIndexAddr_vp h)
  case index t x i => exact vp_v (nIndex_vp h)
  case makeSlice t l c => exact vp_v (nMake_vp h)
  case range t x => exact vp_v (nRange_vp h)
  case next it b => exact vp_v (nNext_vp h)
  case call c =>
    simp only [vcOp] at h
    split at h
    · rename_i f hf
      exact nCall_vp hf (by rw [map_eq]; exact h)
    · rename_i hf
      unfold nApp at h
      split at h
      · rename_i t tx p n cc x hts hargs
        replace h := tyD_elim h; obtain ⟨dx, hdx, h⟩ := h
        have hx : (∀ k, dx ≠ .int k) ∧ app P t p n cc x H fun p n c H => K (.slice p n c) H := by
          split at h
          · exact h.elim
          · rename_i hne; exact ⟨fun k hk => hne k hk, h⟩
        show vp P (resolve ρ c type >>= _) _ _ _
        refine vp_bind' ?_
        unfold resolve
        simp only [hf]
        have ha : c.args.map ρ = #[.slice p n cc, x] := by rw [map_eq, hargs]
        have ht0 : c.argTypes[0]? = some t := by rw [← Array.getElem?_toList, hts]; rfl
        have ht1 : c.argTypes[1]? = some tx := by rw [← Array.getElem?_toList, hts]; rfl
        show vp P (do pure (Next.value (← Builtin.append_ c.argTypes type (c.args.map ρ)))) _ _ _
        rw [ha]
        exact vp_v (app_vp ht0 ht1 ⟨dx, hdx, hx.1⟩ hx.2)
      · exact h.elim
    · rename_i hf
      show vp P (resolve ρ c type >>= _) _ _ _
      refine vp_bind' ?_
      unfold resolve
      simp only [hf]
      show vp P (do pure (Next.value (← Builtin.clear_ c.argTypes type (c.args.map ρ)))) _ _ _
      exact vp_v (nClear_vp (by rw [map_eq, List.toList_toArray]; exact h))
    · rename_i hf
      split at h
      · rename_i t x hts hargs
        show vp P (resolve ρ c type >>= _) _ _ _
        refine vp_bind' ?_
        unfold resolve
        simp only [hf]
        have ht0 : c.argTypes[0]? = some t := by rw [← Array.getElem?_toList, hts]; rfl
        have hx0 : (c.args.map ρ)[0]? = some x := by rw [map_eq, hargs]; rfl
        show vp P (do pure (Next.value (← Builtin.len_ c.argTypes type (c.args.map ρ)))) _ _ _
        exact vp_v (nLen_vp ht0 hx0 h)
      · exact h.elim
    · rename_i hf
      split at h
      · rename_i x l hargs
        split at h
        · rename_i v hv
          show vp P (resolve ρ c type >>= _) _ _ _
          refine vp_bind' ?_
          unfold resolve
          simp only [hf]
          show vp P (do pure (Next.value (← Builtin.min_ c.argTypes type (c.args.map ρ)))) _ _ _
          refine vp_v ?_
          unfold Builtin.min_
          have e : (c.args.map ρ).toList = x :: l := by rw [map_eq, hargs]
          rw [e]
          exact minV_vp l x hv h
        · exact h.elim
      · exact h.elim
    · rename_i hf
      split at h
      · rename_i x l hargs
        split at h
        · rename_i v hv
          show vp P (resolve ρ c type >>= _) _ _ _
          refine vp_bind' ?_
          unfold resolve
          simp only [hf]
          show vp P (do pure (Next.value (← Builtin.max_ c.argTypes type (c.args.map ρ)))) _ _ _
          refine vp_v ?_
          unfold Builtin.max_
          have e : (c.args.map ρ).toList = x :: l := by rw [map_eq, hargs]
          rw [e]
          exact maxV_vp l x hv h
        · exact h.elim
      · exact h.elim
    · exact h
  all_goals exact h

/-! ### A region in a given order -/
section
variable (P : Program)
def vcGuard (ops : Array Oper) (o : Oper) (τ : Tau) (K : Bool → Tau → Prop) : Prop := match o.guard with
  | none => K true τ
  | some (j, want) => match (ops[j]?).bind (·.dst) with
    | none => K false τ
    | some t => match τ t with
      | .bool b => sel b (K (match want with | true => true | false => false) (τ.upd t (.bool true))) (K (match want with | true => false | false => true) (τ.upd t (.bool false)))
      | _ => K false τ
def vcStep (ops : Array Oper) (o : Oper) (τ : Tau) (K : Tau → Heap → Prop) (E : Chain → Heap → Prop) (H : Heap) : Prop :=
  vcGuard ops o τ fun w τ => match w with
    | true => vcOp P o (ev τ) (fun v H => K (τ.put o.dst v) H) E H
    | false => K (τ.put o.dst undef) H
def vcList (ops : Array Oper) : List Nat → Tau → (Tau → Heap → Prop) → (Chain → Heap → Prop) → Heap → Prop
  | [], τ, K, _, H => K τ H
  | i :: l, τ, K, E, H => match ops[i]? with
    | none => vcList ops l τ K E H
    | some o => vcStep P ops o τ (fun τ H => vcList ops l τ K E H) E H
end

/-- The temporaries are those of the frame. -/
structure Rel (n : Nat) (τ : Tau) (a : Act) : Prop where
  size : a.tmps.size = n
  val : ∀ i, a.tmps.getD i undef = τ i
theorem Rel.put {n : Nat} {τ : Tau} {a : Act} (h : Rel n τ a) {dst : Option Nat} (hd : ∀ d, dst = some d → d < n) (v : Value) : Rel n (τ.put dst v) (a.put dst v) := by
  cases dst with
  | none => exact h
  | some d =>
    have hlt := hd d rfl
    refine ⟨by simp [Act.put, h.size], fun i => ?_⟩
    simp only [Act.put, Tau.put, Tau.upd]
    by_cases hi : i = d
    · subst hi
      have : Nat.beq i i = true := Nat.beq_refl i
      rw [this]
      simp [h.size, hlt]
    · have hb : Nat.beq i d = false := by
        cases h : Nat.beq i d
        · rfl
        · exact absurd (Nat.eq_of_beq_eq_true h) hi
      rw [hb]
      simp only [cond_false]
      rw [← h.val i]
      simp [Array.getElem?_setIfInBounds_ne (Ne.symm hi)]
theorem Rel.eval {n : Nat} {τ : Tau} {a : Act} (h : Rel n τ a) : a.eval = ev τ := by
  funext x
  cases x <;> simp only [Act.eval, ev]
  exact h.val _
theorem Rel.yielded {n : Nat} {τ : Tau} {a : Act} (h : Rel n τ a) (ops : Array Oper) (j : Nat) :
    yielded ops a.tmps j = match (ops[j]?).bind (·.dst) with
      | none => none
      | some t => match τ t with
        | .bool b => some b
        | _ => none := by
  unfold Go.yielded
  cases hd : (ops[j]?).bind (·.dst) with
  | none => rfl
  | some t =>
    simp only [Option.bind_some]
    rw [← h.val t]
    by_cases ht : t < a.tmps.size
    · simp only [Array.getElem?_eq_getElem ht, Array.getD_eq_getD_getElem?, Option.getD_some]
      cases a.tmps[t] <;> rfl
    · simp [ht, undef]
theorem vcGuard_elim {ops : Array Oper} {o : Oper} {τ : Tau} {K : Bool → Tau → Prop} {n : Nat} {a : Act} (h : vcGuard ops o τ K) (hr : Rel n τ a) :
    K (Region.wanted o (yielded ops a.tmps)) τ := by
  unfold vcGuard at h
  unfold Region.wanted
  split at h
  · rename_i hg; rw [hg]; exact h
  · rename_i j want hg
    rw [hg]
    simp only [hr.yielded ops j]
    split at h
    · rename_i hd
      exact h
    · rename_i t hd
      split at h
      · rename_i b hb
        cases b
        · simp only [sel] at h
          rw [Tau.upd_eq τ hb] at h
          cases want <;> exact h
        · simp only [sel] at h
          rw [Tau.upd_eq τ hb] at h
          cases want <;> exact h
      · exact h

/-- What is known at an exit, said of the machine's own state. -/
def LQ (n : Nat) (D : List Deferred) (H₀ : Heap) (w₀ : World) (Q : Exit → Tau → Heap → Prop) (E : Chain → Heap → Prop) : Exit → Act → World → Prop
  | .panic ch, a, w => a.defers = D ∧ ∃ H, Sub H w ∧ Keeps H₀ H w₀ w ∧ E ch H
  | .outgrown, _, _ => False
  | e, a, w => a.defers = D ∧ ∃ τ H, Rel n τ a ∧ Sub H w ∧ Keeps H₀ H w₀ w ∧ Q e τ H
/-- The state stands for a view. -/
structure St (n : Nat) (D : List Deferred) (H₀ : Heap) (w₀ : World) (τ : Tau) (H : Heap) (a : Act) (w : World) : Prop where
  defers : a.defers = D
  rel : Rel n τ a
  sub : Sub H w
  keeps : Keeps H₀ H w₀ w

theorem Act.put_defers' (a : Act) (d : Option Tmp) (v : Value) : (a.put d v).defers = a.defers := by cases d <;> rfl
theorem vraw_wp {o : Oper} {n : Nat} {D : List Deferred} {H₀ : Heap} {w₀ : World} {τ : Tau} {H : Heap} {a : Act} {w : World} {K : Value → Heap → Prop} {E : Chain → Heap → Prop}
    {next : Act → World → Prop} {Q : Exit → Act → World → Prop} (hs : St n D H₀ w₀ τ H a w) (h : vraw P o (ev τ) K E H)
    (hn : ∀ v H' w', Sub H' w' → Keeps H₀ H' w₀ w' → K v H' → next (a.put o.dst v) w')
    (hp : ∀ ch H' w', Sub H' w' → Keeps H₀ H' w₀ w' → E ch H' → Q (.panic ch) a w') : o.wp P a w next Q := by
  unfold Oper.wp
  rw [hs.rel.eval]
  have := vp_sound P _ _ _ H w h hs.sub
  generalize (execOp (ev τ) o).run P w = r at this
  cases r with
  | ok x w' =>
    obtain ⟨H', hs', hk', hq⟩ := this
    cases x <;> simp only [nxt] at hq <;> simp only [Oper.upon]
    case value v => exact hn v H' w' hs' (hs.keeps.trans hk') hq
    case skip => exact hn undef H' w' hs' (hs.keeps.trans hk') hq
    case enter f args =>
      refine Calls.mono (hq.2 w' hs') fun e w'' hr => ?_
      cases e with
      | returned v => obtain ⟨H'', h1, h2, h3⟩ := hr; exact hn v H'' w'' h1 ((hs.keeps.trans hk').trans h2) h3
      | panicked ch => obtain ⟨H'', h1, h2, h3⟩ := hr; exact hp ch H'' w'' h1 ((hs.keeps.trans hk').trans h2) h3
      | outgrown => exact hr.elim
  | halt x w' =>
    cases x <;> first | exact this.elim | skip
    obtain ⟨H', hs', hk', hq⟩ := this
    exact hp _ H' w' hs' (hs.keeps.trans hk') hq
def rawStep (P : Program) (ops : Array Oper) (o : Oper) (τ : Tau) (K : Tau → Heap → Prop) (E : Chain → Heap → Prop) (H : Heap) : Prop :=
  vcGuard ops o τ fun w τ => match w with
    | true => vraw P o (ev τ) (fun v H => K (τ.put o.dst v) H) E H
    | false => K (τ.put o.dst undef) H
theorem vcGuard_mono {ops : Array Oper} {o : Oper} {τ : Tau} {K K' : Bool → Tau → Prop} (h : vcGuard ops o τ K) (hk : ∀ w τ, K w τ → K' w τ) : vcGuard ops o τ K' := by
  unfold vcGuard at *
  repeat' split at h
  all_goals first | exact hk _ _ h | (exact (sel_iff _ _ _).2 ⟨fun hb => hk _ _ (((sel_iff _ _ _).1 h).1 hb), fun hb => hk _ _ (((sel_iff _ _ _).1 h).2 hb)⟩) | skip
theorem vcStep_raw {ops : Array Oper} {o : Oper} {τ : Tau} {K : Tau → Heap → Prop} {E : Chain → Heap → Prop} {H : Heap} (h : vcStep P ops o τ K E H) : rawStep P ops o τ K E H :=
  vcGuard_mono h fun w τ h => by
    cases w
    · exact h
    · exact vcOp_raw h
theorem rawStep_wp {ops : Array Oper} {i : Nat} {o : Oper} {n : Nat} {D : List Deferred} {H₀ : Heap} {w₀ : World} {τ : Tau} {H : Heap} {a : Act} {w : World} {K : Tau → Heap → Prop} {E : Chain → Heap → Prop}
    {next : Act → World → Prop} {Q : Exit → Act → World → Prop} (hi : ops[i]? = some o) (hd : ∀ d, o.dst = some d → d < n) (hs : St n D H₀ w₀ τ H a w) (h : rawStep P ops o τ K E H)
    (hn : ∀ τ' H' a' w', St n D H₀ w₀ τ' H' a' w' → K τ' H' → next a' w')
    (hp : ∀ ch H' w', Sub H' w' → Keeps H₀ H' w₀ w' → E ch H' → Q (.panic ch) a w') : wpOp P ops Q i next a w := by
  unfold wpOp
  simp only [hi]
  have h := vcGuard_elim h hs.rel
  split
  · rename_i hw
    rw [hw] at h
    refine .inl (vraw_wp hs h (fun v H' w' h1 h2 h3 => hn _ H' _ w' ⟨by rw [Act.put_defers']; exact hs.defers, hs.rel.put hd v, h1, h2⟩ h3) hp)
  · rename_i hw
    have hw : Region.wanted o (yielded ops a.tmps) = false := by simpa using hw
    rw [hw] at h
    exact hn _ H _ w ⟨by rw [Act.put_defers']; exact hs.defers, hs.rel.put hd undef, hs.sub, hs.keeps⟩ h
theorem vcStep_wp {ops : Array Oper} {i : Nat} {o : Oper} {n : Nat} {D : List Deferred} {H₀ : Heap} {w₀ : World} {τ : Tau} {H : Heap} {a : Act} {w : World} {K : Tau → Heap → Prop} {E : Chain → Heap → Prop}
    {next : Act → World → Prop} {Q : Exit → Act → World → Prop} (hi : ops[i]? = some o) (hd : ∀ d, o.dst = some d → d < n) (hs : St n D H₀ w₀ τ H a w) (h : vcStep P ops o τ K E H)
    (hn : ∀ τ' H' a' w', St n D H₀ w₀ τ' H' a' w' → K τ' H' → next a' w')
    (hp : ∀ ch H' w', Sub H' w' → Keeps H₀ H' w₀ w' → E ch H' → Q (.panic ch) a w') : wpOp P ops Q i next a w :=
  rawStep_wp hi hd hs (vcStep_raw h) hn hp
def dstsOk (n : Nat) (ops : Array Oper) : Bool := ops.toList.all fun o => match o.dst with
  | some d => Nat.blt d n
  | none => true
theorem dstsOk_spec {n : Nat} {ops : Array Oper} (h : dstsOk n ops = true) {i : Nat} {o : Oper} (hi : ops[i]? = some o) (d : Nat) (hd : o.dst = some d) : d < n := by
  have := List.all_eq_true.1 h o (by simpa using Array.mem_of_getElem? hi)
  rw [hd] at this
  exact Nat.le_of_ble_eq_true this
theorem vcList_wp {ops : Array Oper} {n : Nat} {D : List Deferred} {H₀ : Heap} {w₀ : World} {K : Tau → Heap → Prop} {E : Chain → Heap → Prop} {Q : Exit → Act → World → Prop}
    (hd : dstsOk n ops = true) (hn : ∀ τ' H' a' w', St n D H₀ w₀ τ' H' a' w' → K τ' H' → Q .normal a' w')
    (hp : ∀ a ch H' w', a.defers = D → Sub H' w' → Keeps H₀ H' w₀ w' → E ch H' → Q (.panic ch) a w') :
    ∀ (l : List Nat) (τ : Tau) (H : Heap) (a : Act) (w : World), St n D H₀ w₀ τ H a w → vcList P ops l τ K E H → wpOps P ops Q l a w
  | [], τ, H, a, w, hs, h => hn _ _ _ _ hs h
  | i :: l, τ, H, a, w, hs, h => by
    rw [wpOps_cons]
    unfold vcList at h
    split at h
    · rename_i hi; simp only [wpOp, hi]; exact vcList_wp hd hn hp l τ H a w hs h
    · rename_i o hi
      exact vcStep_wp hi (fun d => dstsOk_spec hd hi d) hs h (fun τ' H' a' w' hs' h' => vcList_wp hd hn hp l τ' H' a' w' hs' h')
        (fun ch H' w' h1 h2 h3 => hp a ch H' w' hs.defers h1 h2 h3)
end Go.V
