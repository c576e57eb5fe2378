import Derived.Test.YtombjgnlpdnclaaVDraw4
/- Statements, loops, calls: the weakest precondition of code over a heap view, and its soundness. -/
namespace Go.V
set_option linter.constructorNameAsVariable false
set_option linter.unusedVariables false

section
variable (P : Program)
def memN (i : Nat) : List Nat → Bool
  | [] => false
  | j :: l => match Nat.beq i j with
    | true => true
    | false => memN i l
def delN (i : Nat) : List Nat → List Nat
  | [] => []
  | j :: l => match Nat.beq i j with
    | true => l
    | false => j :: delN i l
def prio (o : Oper) : Nat := match stillB P o with
  | true => 0
  | false => match allocB o with
    | true => 2
    | false => 1
def pickN (ops : Array Oper) (p : Nat) (rem : List Nat) : List Nat → Option Nat
  | [] => none
  | i :: l => match ops[i]? with
    | some o => match Nat.beq (prio P o) p && (depsOf o).all fun e => !memN e rem with
      | true => some i
      | false => pickN ops p rem l
    | none => some i
def planGo (ops : Array Oper) : Nat → List Nat → List Nat
  | 0, rem => rem
  | k + 1, rem => match pickN P ops 0 rem rem with
    | some i => i :: planGo ops k (delN i rem)
    | none => match pickN P ops 1 rem rem with
      | some i => i :: planGo ops k (delN i rem)
      | none => match pickN P ops 2 rem rem with
        | some i => i :: planGo ops k (delN i rem)
        | none => rem
def plan (ops : Array Oper) : List Nat := planGo P ops ops.size (List.range ops.size)
def actsB (ops : Array Oper) (i : Nat) : Bool := match ops[i]? with
  | some o => !stillB P o && !allocB o
  | none => false
def loadAtB (ops : Array Oper) (i : Nat) : Bool := match ops[i]? with
  | some o => loadB o
  | none => false
def flagsGo (ops : Array Oper) (m : List Nat) : List Nat → List Nat
  | [] => []
  | y :: l => match loadAtB ops y with
    | true => match l.filter fun x => actsB P ops x && !(m.getD x 0).testBit y with
      | [] => flagsGo ops m l
      | xs => y :: xs ++ flagsGo ops m l
    | false => flagsGo ops m l
def vcReg (ops : Array Oper) (draw : Bool) (τ : Tau) (K : Tau → Heap → Prop) (E : Chain → Heap → Prop) (H : Heap) : Prop := match draw with
  | false => vcList P ops (List.range ops.size) τ K E H
  | true => match flagsGo P ops (masks ops.toList []) (plan P ops) with
    | [] => match drawOk P ops (fun _ => false) (plan P ops) with
      | true => vcDraw P ops (fun _ => false) none_ (plan P ops) τ K (fun _ _ => False) H
      | false => False
    | i :: l => match drawOk P ops (fun j => memN j (i :: l)) (plan P ops) with
      | true => ∃ Z : Nat → Prop, vcDraw P ops (fun j => memN j (i :: l)) Z (plan P ops) τ K (fun _ _ => False) H
      | false => False
def xthen (K : Tau → Heap → Prop) (Q : Exit → Tau → Heap → Prop) : Exit → Tau → Heap → Prop
  | .normal, τ, H => K τ H
  | e, τ, H => Q e τ H
def xblock (id : Nat) (Q : Exit → Tau → Heap → Prop) : Exit → Tau → Heap → Prop
  | .exit id', τ, H => match Nat.beq id' id with
    | true => Q .normal τ H
    | false => Q (.exit id') τ H
  | e, τ, H => Q e τ H
def xscope (Q : Exit → Tau → Heap → Prop) : Exit → Tau → Heap → Prop
  | .goto _, _, _ => False
  | e, τ, H => Q e τ H
def vc : Code → Tau → (Exit → Tau → Heap → Prop) → (Chain → Heap → Prop) → Heap → Prop
  | .skip, τ, Q, _, H => Q .normal τ H
  | .label _, τ, Q, _, H => Q .normal τ H
  | .region _ ops draw, τ, Q, E, H => vcReg P ops draw τ (fun τ H => Q .normal τ H) E H
  | .seq a b, τ, Q, E, H => vc a τ (xthen (fun τ H => vc b τ Q E H) Q) E H
  | .cond c x y, τ, Q, E, H => match ev τ c with
    | .bool b => sel b (vc x τ Q E H) (vc y τ Q E H)
    | _ => False
  | .block id c, τ, Q, E, H => vc c τ (xblock id Q) E H
  | .loop c, τ, Q, E, H => ∃ (I : Tau → Heap → Prop) (μ : Tau → Heap → Nat), I τ H ∧ ∀ τ' H', I τ' H' →
      vc c τ' (xthen (fun τ'' H'' => I τ'' H'' ∧ μ τ'' H'' < μ τ' H') Q) E H'
  | .scope c, τ, Q, E, H => vc c τ (xscope Q) E H
  | .exit id, τ, Q, _, H => Q (.exit id) τ H
  | .ret, τ, Q, _, H => Q .ret τ H
  | _, _, _, _, _ => False
end
variable {P : Program}

def codeOk (n : Nat) : Code → Bool
  | .region _ ops _ => dstsOk n ops
  | .seq a b => codeOk n a && codeOk n b
  | .cond _ a b => codeOk n a && codeOk n b
  | .block _ c | .loop c | .scope c => codeOk n c
  | _ => true

theorem St.normal {n : Nat} {D : List Deferred} {H₀ : Heap} {w₀ : World} {Q : Exit → Tau → Heap → Prop} {E : Chain → Heap → Prop} {τ : Tau} {H : Heap} {a : Act} {w : World}
    (h : St n D H₀ w₀ τ H a w) (hq : Q .normal τ H) : LQ n D H₀ w₀ Q E .normal a w := ⟨h.defers, τ, H, h.rel, h.sub, h.keeps, hq⟩

theorem vc_sound {n : Nat} {D : List Deferred} {H₀ : Heap} {w₀ : World} (hmix : P.follows .mixedOrders = true) : ∀ (c : Code) (τ : Tau) (Q : Exit → Tau → Heap → Prop) (E : Chain → Heap → Prop) (H : Heap) (a : Act) (w : World),
    codeOk n c = true → St n D H₀ w₀ τ H a w → vc P c τ Q E H → c.wp P (LQ n D H₀ w₀ Q E) a w := by
  intro c
  induction c with
  | skip => intro τ Q E H a w _ hs h; exact wp_skip (hs.normal h)
  | label l => intro τ Q E H a w _ hs h; exact wp_label (hs.normal h)
  | region id ops draw =>
    intro τ Q E H a w hd hs h
    have hd : dstsOk n ops = true := hd
    have hp : ∀ a ch H' w', a.defers = D → Sub H' w' → Keeps H₀ H' w₀ w' → E ch H' → LQ n D H₀ w₀ Q E (.panic ch) a w' := fun a ch H' w' h1 h2 h3 h4 => ⟨h1, H', h2, h3, h4⟩
    unfold vc vcReg at h
    cases draw with
    | false => exact wp_region (vcList_wp hd (fun τ' H' a' w' hs' h' => hs'.normal h') hp _ τ H a w hs h)
    | true =>
      simp only [] at h
      split at h
      · split at h
        · rename_i hok
          exact draw_wp hmix hd hok (fun τ' H' a' w' hs' h' => hs'.normal h') hs h
        · exact h.elim
      · split at h
        · rename_i hok
          obtain ⟨Z, h⟩ := h
          exact draw_wp hmix hd hok (fun τ' H' a' w' hs' h' => hs'.normal h') hs h
        · exact h.elim
  | seq x y ihx ihy =>
    intro τ Q E H a w hd hs h
    simp only [codeOk, Bool.and_eq_true] at hd
    refine wp_seq (wp_mono (ihx τ _ E H a w hd.1 hs h) fun e a' w' h' => ?_)
    cases e
    case normal =>
      obtain ⟨h1, τ', H', h2, h3, h4, h5⟩ := h'
      exact ihy τ' Q E H' a' w' hd.2 ⟨h1, h2, h3, h4⟩ h5
    all_goals exact h'
  | cond c x y ihx ihy =>
    intro τ Q E H a w hd hs h
    simp only [codeOk, Bool.and_eq_true] at hd
    unfold vc at h
    split at h
    · rename_i b hb
      refine wp_cond_split (t := b) (by rw [hs.rel.eval]; exact hb) (fun ht => ?_) (fun ht => ?_)
      · subst ht; exact ihx τ Q E H a w hd.1 hs h
      · subst ht; exact ihy τ Q E H a w hd.2 hs h
    · exact h.elim
  | block id c ih =>
    intro τ Q E H a w hd hs h
    refine wp_block (wp_mono (ih τ _ E H a w hd hs h) fun e a' w' h' => ?_)
    cases e
    case exit id' =>
      obtain ⟨h1, τ', H', h2, h3, h4, h5⟩ := h'
      simp only [Exit.inBlock]
      split
      · rename_i he
        subst he
        refine ⟨h1, τ', H', h2, h3, h4, ?_⟩
        simpa [xblock] using h5
      · rename_i he
        refine ⟨h1, τ', H', h2, h3, h4, ?_⟩
        have : Nat.beq id' id = false := by
          cases hb : Nat.beq id' id
          · rfl
          · exact absurd (Nat.eq_of_beq_eq_true hb) he
        simp only [xblock, this] at h5
        exact h5
    all_goals exact h'
  | loop c ih =>
    intro τ Q E H a w hd hs h
    obtain ⟨I, μ, h0, hround⟩ := h
    intro b k cs
    have key : ∀ m τ H a w, μ τ H = m → I τ H → St n D H₀ w₀ τ H a w →
        ∃ e a' w', LQ n D H₀ w₀ Q E e a' w' ∧ Arrives P (lone (b.at a (.code c :: .inLoop c :: k)) cs w) b k cs e a' w' := by
      intro m
      induction m using Nat.strongRecOn with
      | _ m ihm =>
        intro τ H a w hm hI hs
        obtain ⟨e, a₁, w₁, hq, harr⟩ := ih τ _ E H a w hd hs (hround τ H hI) b (.inLoop c :: k) cs
        cases e with
        | normal =>
          obtain ⟨h1, τ', H', h2, h3, h4, hI', hlt⟩ := hq
          obtain ⟨e₂, a₂, w₂, hq₂, harr₂⟩ := ihm (μ τ' H') (hm ▸ hlt) τ' H' a₁ w₁ rfl hI' ⟨h1, h2, h3, h4⟩
          exact ⟨e₂, a₂, w₂, hq₂, .of_steps (Steps.trans harr (.one step_inLoop)) harr₂⟩
        | exit id => exact ⟨.exit id, a₁, w₁, hq, .pass (x := .inLoop c) rfl (fun _ _ => .inl (by simp)) harr⟩
        | goto l => exact ⟨.goto l, a₁, w₁, hq, .pass (x := .inLoop c) rfl (fun _ _ => .inl (by simp)) harr⟩
        | ret => exact ⟨.ret, a₁, w₁, hq, .pass (x := .inLoop c) rfl (fun _ _ => .inl (by simp)) harr⟩
        | panic ch => exact ⟨.panic ch, a₁, w₁, hq, .pass (x := .inLoop c) rfl (fun _ _ => .inl (by simp)) harr⟩
        | outgrown => exact hq.elim
    obtain ⟨e, a', w', hq, harr⟩ := key _ τ H a w rfl h0 hs
    exact ⟨e, a', w', hq, .of_steps (.one step_loop) harr⟩
  | scope c ih =>
    intro τ Q E H a w hd hs h
    refine wp_scope_straight (wp_mono (ih τ _ E H a w hd hs h) fun e a' w' h' => ?_)
    cases e
    case goto l => obtain ⟨h1, τ', H', h2, h3, h4, h5⟩ := h'; exact h5.elim
    all_goals exact h'
  | exit id => intro τ Q E H a w _ hs h; exact wp_exit ⟨hs.defers, τ, H, hs.rel, hs.sub, hs.keeps, h⟩
  | ret => intro τ Q E H a w _ hs h; exact wp_ret ⟨hs.defers, τ, H, hs.rel, hs.sub, hs.keeps, h⟩
  | goto l => intro τ Q E H a w _ hs h; exact h.elim
  | rangeFunc f p x y _ _ => intro τ Q E H a w _ hs h; exact h.elim
  | refuse s => intro τ Q E H a w _ hs h; exact h.elim

theorem vcStep_mono {ops : Array Oper} {o : Oper} {τ : Tau} {K K' : Tau → Heap → Prop} {E : Chain → Heap → Prop} {H : Heap} (h : vcStep P ops o τ K E H) (hk : ∀ τ' H, (∀ t, o.dst ≠ some t → τ' t = τ t) → K τ' H → K' τ' H) :
    vcStep P ops o τ K' E H := by
  have hput : ∀ v, ∀ t, o.dst ≠ some t → (τ.put o.dst v) t = τ t := fun v t ht => Tau.put_ne fun e he het => ht (het ▸ he)
  unfold vcStep at *
  rw [vcGuard_iff] at *
  split at h
  · exact vcOp_mono h fun v H h => hk _ _ (hput v) h
  · exact hk _ _ (hput _) h
def regKeeps (ops : Array Oper) (t : Nat) : Bool := ops.toList.all fun o => match o.dst with
  | some d => !Nat.beq d t
  | none => true
theorem regKeeps_spec {ops : Array Oper} {t : Nat} (h : regKeeps ops t = true) {i : Nat} {o : Oper} (hi : ops[i]? = some o) : o.dst ≠ some t := by
  intro hd
  have := List.all_eq_true.1 h o (by simpa using Array.mem_of_getElem? hi)
  rw [hd] at this
  simp at this
theorem vcList_mono {ops : Array Oper} {E : Chain → Heap → Prop} {K K' : Tau → Heap → Prop} : ∀ (l : List Nat) (τ : Tau) (H : Heap),
    (∀ τ' H, (∀ t, regKeeps ops t = true → τ' t = τ t) → K τ' H → K' τ' H) → vcList P ops l τ K E H → vcList P ops l τ K' E H
  | [], τ, H, hk, h => hk _ _ (fun _ _ => rfl) h
  | i :: l, τ, H, hk, h => by
    unfold vcList at *
    split at h
    · exact vcList_mono l τ H hk h
    · rename_i o ho
      exact vcStep_mono h fun τ' H hτ h => vcList_mono l τ' H (fun τ'' H h1 h2 => hk τ'' H (fun t ht => (h1 t ht).trans (hτ t (regKeeps_spec ht ho))) h2) h
theorem dstep_mono' {ops : Array Oper} {fl : Bool} {Z : Nat → Prop} {o : Oper} {τ : Tau} {K K' : Tau → Heap → Prop} {E : Chain → Heap → Prop} {H : Heap}
    (h : dstep P ops fl Z o τ K E H) (hk : ∀ τ' H, (∀ t, o.dst ≠ some t → τ' t = τ t) → K τ' H → K' τ' H) : dstep P ops fl Z o τ K' E H := by
  have hput : ∀ v, ∀ t, o.dst ≠ some t → (τ.put o.dst v) t = τ t := fun v t ht => Tau.put_ne fun e he het => ht (het ▸ he)
  unfold dstep at *
  rw [vcGuard_iff] at *
  split at h
  · cases fl <;> simp only [] at h ⊢
    · exact vcOp_mono h fun v H h => hk _ _ (hput v) h
    · cases hl : loadB o <;> simp only [hl] at h ⊢
      · exact vcOp_mono h fun v H h => ⟨h.1, hk _ _ (hput v) h.2⟩
      · exact ⟨h.1, vcOp_mono h.2 fun v H h => hk _ _ (hput v) h⟩
  · exact hk _ _ (hput _) h
theorem vcDraw_mono' {ops : Array Oper} {fl : Nat → Bool} {Z : Nat → Prop} {E : Chain → Heap → Prop} {K K' : Tau → Heap → Prop} : ∀ (l : List Nat) (τ : Tau) (H : Heap),
    (∀ τ' H, (∀ t, regKeeps ops t = true → τ' t = τ t) → K τ' H → K' τ' H) → vcDraw P ops fl Z l τ K E H → vcDraw P ops fl Z l τ K' E H
  | [], τ, H, hk, h => hk _ _ (fun _ _ => rfl) h
  | i :: l, τ, H, hk, h => by
    unfold vcDraw at *
    split at h
    · exact vcDraw_mono' l τ H hk h
    · rename_i o ho
      exact dstep_mono' h fun τ' H hτ h => vcDraw_mono' l τ' H (fun τ'' H h1 h2 => hk τ'' H (fun t ht => (h1 t ht).trans (hτ t (regKeeps_spec ht ho))) h2) h
def keepsB (t : Nat) : Code → Bool
  | .region _ ops _ => regKeeps ops t
  | .seq a b => keepsB t a && keepsB t b
  | .cond _ a b => keepsB t a && keepsB t b
  | .block _ c | .loop c | .scope c => keepsB t c
  | _ => true
theorem vcReg_mono {ops : Array Oper} {draw : Bool} {τ : Tau} {E : Chain → Heap → Prop} {K K' : Tau → Heap → Prop} {H : Heap}
    (hk : ∀ τ' H, (∀ t, regKeeps ops t = true → τ' t = τ t) → K τ' H → K' τ' H) (h : vcReg P ops draw τ K E H) : vcReg P ops draw τ K' E H := by
  unfold vcReg at *
  cases draw with
  | false => exact vcList_mono _ τ H hk h
  | true =>
    simp only [] at h ⊢
    split at h
    · split at h
      · exact vcDraw_mono' _ τ H hk h
      · exact h.elim
    · split at h
      · obtain ⟨Z, h⟩ := h; exact ⟨Z, vcDraw_mono' _ τ H hk h⟩
      · exact h.elim
theorem vc_mono : ∀ (c : Code) (τ : Tau) {Q Q' : Exit → Tau → Heap → Prop} {E : Chain → Heap → Prop} {H : Heap},
    vc P c τ Q E H → (∀ e τ' H, (∀ t, keepsB t c = true → τ' t = τ t) → Q e τ' H → Q' e τ' H) → vc P c τ Q' E H := by
  intro c
  induction c with
  | skip => intro τ Q Q' E H h hk; exact hk _ _ _ (fun _ _ => rfl) h
  | label l => intro τ Q Q' E H h hk; exact hk _ _ _ (fun _ _ => rfl) h
  | region id ops draw => intro τ Q Q' E H h hk; exact vcReg_mono (fun τ' H hτ h => hk _ _ _ hτ h) h
  | seq x y ihx ihy =>
    intro τ Q Q' E H h hk
    refine ihx τ h fun e τ' H hτ h => ?_
    cases e
    case normal =>
      refine ihy τ' h fun e τ'' H hτ' h => hk e τ'' H (fun t ht => ?_) h
      simp only [keepsB, Bool.and_eq_true] at ht
      exact (hτ' t ht.2).trans (hτ t ht.1)
    all_goals
      refine hk _ _ _ (fun t ht => hτ t ?_) h
      simp only [keepsB, Bool.and_eq_true] at ht
      exact ht.1
  | cond c x y ihx ihy =>
    intro τ Q Q' E H h hk
    have h : (match ev τ c with | .bool b => sel b (vc P x τ Q E H) (vc P y τ Q E H) | _ => False) := h
    show (match ev τ c with | .bool b => sel b (vc P x τ Q' E H) (vc P y τ Q' E H) | _ => False)
    split at h
    · exact sel_mono h (fun h => ihx τ h fun e τ' H hτ h => hk _ _ _ (fun t ht => hτ t (by simp only [keepsB, Bool.and_eq_true] at ht; exact ht.1)) h)
        (fun h => ihy τ h fun e τ' H hτ h => hk _ _ _ (fun t ht => hτ t (by simp only [keepsB, Bool.and_eq_true] at ht; exact ht.2)) h)
    · exact h.elim
  | block id c ih =>
    intro τ Q Q' E H h hk
    refine ih τ h fun e τ' H hτ h => ?_
    cases e
    case exit id' =>
      simp only [xblock] at h ⊢
      split at h <;> exact hk _ _ _ hτ h
    all_goals exact hk _ _ _ hτ h
  | loop c ih =>
    intro τ Q Q' E H h hk
    obtain ⟨I, μ, h0, hround⟩ := h
    refine ⟨fun τ' H' => (∀ t, keepsB t c = true → τ' t = τ t) ∧ I τ' H', μ, ⟨fun _ _ => rfl, h0⟩, fun τ' H' hI => ?_⟩
    refine ih τ' (hround τ' H' hI.2) fun e τ'' H'' hτ h => ?_
    cases e
    case normal => exact ⟨⟨fun t ht => (hτ t ht).trans (hI.1 t ht), h.1⟩, h.2⟩
    all_goals exact hk _ _ _ (fun t ht => (hτ t ht).trans (hI.1 t ht)) h
  | scope c ih =>
    intro τ Q Q' E H h hk
    refine ih τ h fun e τ' H hτ h => ?_
    cases e
    case goto l => exact h
    all_goals exact hk _ _ _ hτ h
  | exit id => intro τ Q Q' E H h hk; exact hk _ _ _ (fun _ _ => rfl) h
  | ret => intro τ Q Q' E H h hk; exact hk _ _ _ (fun _ _ => rfl) h
  | goto l => intro τ Q Q' E H h hk; exact h.elim
  | rangeFunc f p x y _ _ => intro τ Q Q' E H h hk; exact h.elim
  | refuse s => intro τ Q Q' E H h hk; exact h.elim

/-! ### Functions -/
section
variable (P : Program)
def vcRes : List ResultVar → Tau → (List Value → Heap → Prop) → Heap → Prop
  | [], _, K, H => K [] H
  | .tmp t :: l, τ, K, H => vcRes l τ (fun vs H => K (τ t :: vs) H) H
  | .cell a t :: l, τ, K, H => nLoad P t (τ a) (fun v H => vcRes l τ (fun vs H => K (v :: vs) H) H) H
def oneOr : List Value → Value
  | [v] => v
  | vs => .tuple vs.toArray
def retQ (rs : List ResultVar) (Q : Value → Heap → Prop) : Exit → Tau → Heap → Prop
  | .normal, τ, H => vcRes P rs τ (fun vs H => Q (oneOr vs) H) H
  | .ret, τ, H => vcRes P rs τ (fun vs H => Q (oneOr vs) H) H
  | _, _, _ => False
def argT : List Value → Tau
  | [], _ => undef
  | v :: _, 0 => v
  | _ :: l, i + 1 => argT l i
end
def RO {α : Type} : Sem α → Prop
  | .pure _ => True
  | .load _ _ k => ∀ v, RO (k v)
  | .program k => ∀ p, RO (k p)
  | .mark _ k => RO k
  | .halt _ => True
  | _ => False
theorem RO.bind {α β : Type} {s : Sem α} {f : α → Sem β} (h : RO s) (hf : ∀ a, RO (f a)) : RO (s >>= f) := by
  show RO (s.bind f)
  induction s with
  | pure a => exact hf a
  | load m a k ih => exact fun v => ih v (h v)
  | program k ih => exact fun p => ih p (h p)
  | mark m k ih => exact ih h
  | halt x => trivial
  | _ => exact h.elim
theorem RO.run {α : Type} {s : Sem α} (h : RO s) (w : World) : ∀ a w', s.run P w = .ok a w' → w' = w := by
  induction s with
  | pure a => intro a' w' hr; cases hr; rfl
  | load m a k ih =>
    intro a' w' hr
    simp only [Sem.run] at hr
    split at hr
    · exact ih _ (h _) a' w' hr
    · split at hr
      · exact ih _ (h _) a' w' hr
      · cases hr
  | program k ih => intro a' w' hr; exact ih _ (h _) a' w' hr
  | mark m k ih => intro a' w' hr; exact ih h a' w' hr
  | halt x => intro a' w' hr; cases hr
  | _ => exact h.elim
theorem RO.und (t : TypeId) : RO (underlying t) := by
  unfold underlying
  refine RO.bind (fun p => trivial) fun p => ?_
  split <;> trivial
theorem RO.info (t : TypeId) : RO (typeInfo t) := by
  unfold typeInfo
  refine RO.bind (fun p => trivial) fun p => ?_
  split <;> trivial
theorem RO.loadCellsFrom (a : Addr) : ∀ (n i : Nat) (acc : Array Value), RO (loadCellsFrom a i n acc)
  | 0, i, acc => trivial
  | n + 1, i, acc => RO.bind (fun v => trivial) fun v => RO.loadCellsFrom a n (i + 1) _
theorem RO.loadVar (t : TypeId) (a : Addr) : RO (loadVar t a) := by
  unfold Go.loadVar
  refine RO.bind ?_ fun b => ?_
  · unfold isAgg
    refine RO.bind (RO.und t) fun d => ?_
    cases d <;> trivial
  · split
    · refine RO.bind ?_ fun n => RO.bind (RO.loadCellsFrom _ _ _ _) fun _ => trivial
      exact RO.bind (RO.info t) fun _ => trivial
    · exact fun v => trivial
theorem res_vp {n : Nat} {τ : Tau} {a : Act} (hr : Rel n τ a) : ∀ (rs : List ResultVar) {K : List Value → Heap → Prop} {H : Heap}, vcRes P rs τ K H →
    vp P (rs.mapM fun
      | .tmp t => pure (a.tmps.getD t undef)
      | .cell x t => do loadVar t (← asAddr (a.tmps.getD x undef))) K (fun _ _ => False) H ∧
    RO (rs.mapM fun
      | .tmp t => pure (a.tmps.getD t undef)
      | .cell x t => do loadVar t (← asAddr (a.tmps.getD x undef)))
  | [], K, H, h => ⟨h, trivial⟩
  | .tmp t :: rs, K, H, h => by
    rw [List.mapM_cons]
    obtain ⟨h1, h2⟩ := res_vp hr rs h
    refine ⟨vp_bind' ?_, RO.bind trivial fun _ => RO.bind h2 fun _ => trivial⟩
    show vp P (_ >>= _) _ _ _
    rw [hr.val t]
    exact vp_bind' h1
  | .cell x t :: rs, K, H, h => by
    rw [List.mapM_cons]
    have hx := hr.val x
    unfold vcRes at h
    cases hv : τ x <;> simp only [hv, nLoad] at h
    case pointer p =>
      cases p with
      | none => exact h.elim
      | some ad =>
        rw [hv] at hx
        have h : nLoad P t (.pointer (some ad)) (fun v H => vcRes P rs τ (fun vs H => K (v :: vs) H) H) H := h
        have hro : RO (rs.mapM fun
            | .tmp t => pure (a.tmps.getD t undef)
            | .cell x t => do loadVar t (← asAddr (a.tmps.getD x undef))) := by
          obtain ⟨v, h1, _, _⟩ := nLoad_still _ _ _ H h
          exact (res_vp hr rs h1).2
        constructor
        · refine vp_bind' ?_
          simp only [hx]
          show vp P (loadVar t ad) _ _ _
          refine vp_mono (loadVar_vp h) (fun v H h => ?_) (fun _ _ h => h)
          exact vp_bind' (res_vp hr rs h).1
        · refine RO.bind ?_ fun _ => RO.bind hro fun _ => trivial
          simp only [hx]
          exact RO.loadVar t ad
theorem results_run {n : Nat} {τ : Tau} {a : Act} {fn : Func} {Q : Value → Heap → Prop} {H : Heap} {w : World} (hr : Rel n τ a) (hs : Sub H w)
    (h : vcRes P fn.results.toList τ (fun vs H => Q (oneOr vs) H) H) : ∃ v H', (results fn a.tmps).run P w = .ok v w ∧ Sub H' w ∧ Keeps H H' w w ∧ Q v H' := by
  obtain ⟨h1, h2⟩ := res_vp hr fn.results.toList h
  have hvp : vp P (results fn a.tmps) Q (fun _ _ => False) H := by
    unfold results
    rw [Array.mapM_eq_mapM_toList, map_eq_pure_bind, Go.V.bind_assoc]
    refine vp_bind' (vp_mono h1 (fun vs H h => ?_) (fun _ _ h => h))
    show Q (if h : vs.toArray.size = 1 then vs.toArray[0] else .tuple vs.toArray) H
    cases vs with
    | nil => exact h
    | cons v l => cases l with
      | nil => exact h
      | cons u l => simpa [oneOr] using h
  have hro : RO (results fn a.tmps) := by
    unfold results
    rw [Array.mapM_eq_mapM_toList, map_eq_pure_bind, Go.V.bind_assoc]
    exact RO.bind h2 fun _ => trivial
  have := vp_sound P _ _ _ H w hvp hs
  cases hrun : (results fn a.tmps).run P w with
  | ok v w' =>
    rw [hrun] at this
    obtain ⟨H', k1, k2, k3⟩ := this
    have := hro.run w v w' hrun
    subst this
    exact ⟨v, H', rfl, k1, k2, k3⟩
  | halt x w' =>
    rw [hrun] at this
    cases x <;> first | exact this.elim | (obtain ⟨_, _, _, h⟩ := this; exact h.elim)

theorem argT_eq : ∀ (l : List Value) (i : Nat), argT l i = l.getD i undef
  | [], i => rfl
  | v :: l, 0 => rfl
  | v :: l, i + 1 => argT_eq l i
theorem Fn_of_vc {f : FuncId} {fn : Func} {c : Code} {args : List Value} {H : Heap} {Q : Value → Heap → Prop} {E : Chain → Heap → Prop} (hmix : P.follows .mixedOrders = true)
    (hf : P.funcs[f]? = some fn) (hgo : goFn P f = true) (hb : fn.body = some c) (hn : Nat.ble args.length fn.ntmps = true) (hok : codeOk fn.ntmps c = true)
    (h : vc P c (argT args) (retQ P fn.results.toList Q) E H) : Does P f args.toArray H Q E := by
  refine ⟨hgo, fun w hs => ?_⟩
  refine calls_of_wp hf hb ?_
  have hle := Nat.le_of_ble_eq_true hn
  have hst : St fn.ntmps [] H w (argT args) H { tmps := args.toArray ++ Array.replicate (fn.ntmps - args.toArray.size) undef, defers := [] } w := by
    refine ⟨rfl, ⟨by simp; omega, fun i => ?_⟩, hs, Keeps.refl _ _⟩
    rw [argT_eq]
    simp only [Array.getD_eq_getD_getElem?, List.getD_eq_getElem?_getD]
    by_cases hi : i < args.length
    · rw [Array.getElem?_append_left (by simpa using hi)]; simp
    · rw [Array.getElem?_append_right (by simpa using hi), List.getElem?_eq_none (by omega)]
      by_cases h2 : i - args.length < fn.ntmps - args.length
      · simp [h2]
      · simp [h2]
  refine wp_mono (vc_sound hmix c _ _ E H _ w hok hst h) fun e a w' hq => ?_
  cases e with
  | normal =>
    obtain ⟨h1, τ', H', h2, h3, h4, h5⟩ := hq
    obtain ⟨v, H'', r1, r2, r3, r4⟩ := results_run h2 h3 h5
    exact ⟨h1, v, r1, H'', r2, h4.trans r3, r4⟩
  | ret =>
    obtain ⟨h1, τ', H', h2, h3, h4, h5⟩ := hq
    obtain ⟨v, H'', r1, r2, r3, r4⟩ := results_run h2 h3 h5
    exact ⟨h1, v, r1, H'', r2, h4.trans r3, r4⟩
  | panic ch => obtain ⟨h1, H', h2, h3, h4⟩ := hq; exact ⟨h1, H', h2, h3, h4⟩
  | exit id => obtain ⟨_, _, _, _, _, _, h⟩ := hq; exact h.elim
  | goto l => obtain ⟨_, _, _, _, _, _, h⟩ := hq; exact h.elim
  | outgrown => exact hq.elim
theorem vc_seq {a b : Code} {τ : Tau} {K : Tau → Heap → Prop} {Q : Exit → Tau → Heap → Prop} {E : Chain → Heap → Prop} {H : Heap}
    (h : vc P a τ (xthen K Q) E H) (hb : ∀ τ H, K τ H → vc P b τ Q E H) : vc P (.seq a b) τ Q E H := by
  refine vc_mono a τ h fun e τ' H' _ h => ?_
  cases e <;> first | exact hb _ _ h | exact h
theorem vc_loop {c : Code} {τ : Tau} {Q : Exit → Tau → Heap → Prop} {E : Chain → Heap → Prop} {H : Heap} (fix : List Nat) (I : Tau → Heap → Prop) (μ : Tau → Heap → Nat)
    (hfix : (fix.all fun t => keepsB t c) = true) (h0 : I τ H)
    (hround : ∀ τ' H', (∀ i ∈ fix, τ' i = τ i) → I τ' H' → vc P c τ' (xthen (fun τ'' H'' => I τ'' H'' ∧ μ τ'' H'' < μ τ' H') Q) E H') : vc P (.loop c) τ Q E H := by
  refine ⟨fun τ' H' => (∀ i ∈ fix, τ' i = τ i) ∧ I τ' H', μ, ⟨fun _ _ => rfl, h0⟩, fun τ' H' hI => ?_⟩
  refine vc_mono c τ' (hround τ' H' hI.1 hI.2) fun e τ'' H'' hτ h => ?_
  cases e
  case normal => exact ⟨⟨fun i hi => (hτ i (List.all_eq_true.1 hfix i hi)).trans (hI.1 i hi), h.1⟩, h.2⟩
  all_goals exact h
theorem vc_xthen {c : Code} {τ : Tau} {Q : Exit → Tau → Heap → Prop} {E : Chain → Heap → Prop} {H : Heap} {K K' : Tau → Heap → Prop}
    (h : vc P c τ (xthen K Q) E H) (hk : ∀ τ H, K τ H → K' τ H) : vc P c τ (xthen K' Q) E H := by
  refine vc_mono c τ h fun e τ' H' _ h => ?_
  cases e <;> first | exact hk _ _ h | exact h
attribute [irreducible] vc
end Go.V

/- Words of the printed functions. -/
namespace Go.V
set_option linter.constructorNameAsVariable false
set_option linter.unusedVariables false
variable {P : Program}

def ldI (k : IntKind) (a : Addr) (H : Heap) (K : Int → Prop) : Prop := ∃ n : Int, H.cell? a = some (.int k n) ∧ K n
def ldB (a : Addr) (H : Heap) (K : Bool → Prop) : Prop := ∃ b : Bool, H.cell? a = some (.bool b) ∧ K b
def ldS (a : Addr) (H : Heap) (K : ByteArray → Prop) : Prop := ∃ s : ByteArray, H.cell? a = some (.string s) ∧ K s
def ldSl (a : Addr) (H : Heap) (K : Option Addr → Nat → Nat → Prop) : Prop := ∃ (p : Option Addr) (n c : Nat), H.cell? a = some (.slice p n c) ∧ K p n c

/-! A temporary of a kind. -/
def mI (k : IntKind) (v : Value) (f : Int → Prop) : Prop := match v with
  | .int k' n => match decide (k' = k) with
    | true => f n
    | false => False
  | _ => False
def mB (v : Value) (f : Bool → Prop) : Prop := match v with
  | .bool b => f b
  | _ => False
def mP (v : Value) (f : Option Addr → Prop) : Prop := match v with
  | .pointer b => f b
  | _ => False
def mSl (v : Value) (f : Option Addr → Nat → Nat → Prop) : Prop := match v with
  | .slice p n c => f p n c
  | _ => False
def mV (v : Value) (f : Value → Prop) : Prop := f v

theorem mI_elim {k : IntKind} {τ : Tau} {i : Nat} {f : Int → Prop} {G : Tau → Prop} (h : mI k (τ i) f) (g : ∀ n, f n → G (τ.upd i (.int k n))) : G τ := by
  unfold mI at h
  split at h
  · rename_i k' n hv
    split at h
    · rename_i hk
      obtain rfl := of_decide_eq_true hk
      have := g n h
      rwa [Tau.upd_eq τ hv] at this
    · exact h.elim
  · exact h.elim
theorem mB_elim {τ : Tau} {i : Nat} {f : Bool → Prop} {G : Tau → Prop} (h : mB (τ i) f) (g : ∀ n, f n → G (τ.upd i (.bool n))) : G τ := by
  unfold mB at h
  split at h
  · rename_i n hv; have := g n h; rwa [Tau.upd_eq τ hv] at this
  · exact h.elim
theorem mP_elim {τ : Tau} {i : Nat} {f : Option Addr → Prop} {G : Tau → Prop} (h : mP (τ i) f) (g : ∀ n, f n → G (τ.upd i (.pointer n))) : G τ := by
  unfold mP at h
  split at h
  · rename_i n hv; have := g n h; rwa [Tau.upd_eq τ hv] at this
  · exact h.elim
theorem mSl_elim {τ : Tau} {i : Nat} {f : Option Addr → Nat → Nat → Prop} {G : Tau → Prop} (h : mSl (τ i) f) (g : ∀ p n c, f p n c → G (τ.upd i (.slice p n c))) : G τ := by
  unfold mSl at h
  split at h
  · rename_i p n c hv; have := g p n c h; rwa [Tau.upd_eq τ hv] at this
  · exact h.elim
theorem mV_elim {τ : Tau} {i : Nat} {f : Value → Prop} {G : Tau → Prop} (h : mV (τ i) f) (g : ∀ v, f v → G (τ.upd i v)) : G τ := by
  have := g _ h; rwa [Tau.upd_self] at this
abbrev QT := Value → Heap → Prop
abbrev ET := Chain → Heap → Prop
abbrev HP := Heap → Prop
abbrev OA := Option Addr
section
variable {c : Code} {q : Exit → Tau → Heap → Prop} {E : Chain → Heap → Prop} {H : Heap} {τ : Tau} {i : Nat}
theorem vI {k : IntKind} {f : Int → Prop} (h : mI k (τ i) f) (g : ∀ n, f n → vc P c (τ.upd i (.int k n)) q E H) : vc P c τ q E H := mI_elim (G := fun τ => vc P c τ q E H) h g
theorem vB {f : Bool → Prop} (h : mB (τ i) f) (g : ∀ n, f n → vc P c (τ.upd i (.bool n)) q E H) : vc P c τ q E H := mB_elim (G := fun τ => vc P c τ q E H) h g
theorem vP {f : Option Addr → Prop} (h : mP (τ i) f) (g : ∀ n, f n → vc P c (τ.upd i (.pointer n)) q E H) : vc P c τ q E H := mP_elim (G := fun τ => vc P c τ q E H) h g
theorem vSl {f : Option Addr → Nat → Nat → Prop} (h : mSl (τ i) f) (g : ∀ p n k, f p n k → vc P c (τ.upd i (.slice p n k)) q E H) : vc P c τ q E H := mSl_elim (G := fun τ => vc P c τ q E H) h g
theorem vV {f : Value → Prop} (h : mV (τ i) f) (g : ∀ v, f v → vc P c (τ.upd i v) q E H) : vc P c τ q E H := mV_elim (G := fun τ => vc P c τ q E H) h g
end
theorem fix_elim {τ : Tau} {i : Nat} {v : Value} {G : Tau → Prop} (h : τ i = v) (g : G (τ.upd i v)) : G τ := by rwa [Tau.upd_eq τ h] at g

/-! Parts of a function's code. -/
def sA : Code → Code
  | .seq a _ => a
  | _ => .skip
def sB : Code → Code
  | .seq _ b => b
  | _ => .skip
def sT : Code → Code
  | .cond _ a _ => a
  | _ => .skip
def sE : Code → Code
  | .cond _ _ b => b
  | _ => .skip
def sI : Code → Code
  | .block _ c | .loop c | .scope c => c
  | _ => .skip
def bodyOf (fn : Func) : Code := fn.body.getD .skip

theorem sel_map {b : Bool} {X Y X' Y' : Prop} (h1 : X → X') (h2 : Y → Y') (h : sel b X Y) : sel b X' Y' := sel_mono h h1 h2
theorem conv {A B : Prop} (e : A = B) (a : A) : B := e ▸ a
def gI : Value → Int
  | .int _ n => n
  | _ => 0
def gB : Value → Bool
  | .bool b => b
  | _ => false
def gL1 : Value → Option Addr
  | .slice p _ _ => p
  | _ => none
def gL2 : Value → Nat
  | .slice _ n _ => n
  | _ => 0
def gL3 : Value → Nat
  | .slice _ _ n => n
  | _ => 0
/-! Shorter words for the printed texts. -/
abbrev XT := Exit → Tau → Heap → Prop
def Ok (P : Program) (M : Tau → Heap → Prop) (c : Code) (q : XT) (E : ET) : Prop := ∀ τ H, M τ H → vc P c τ q E H
theorem sel_mapT {b : Bool} {M1 M2 : Tau → Heap → Prop} {c1 c2 : Code} {q : XT} {E : ET} {τ : Tau} {H : Heap} (h1 : Ok P M1 c1 q E) (h2 : Ok P M2 c2 q E) (h : sel b (M1 τ H) (M2 τ H)) : sel b (vc P c1 τ q E H) (vc P c2 τ q E H) := sel_map (h1 τ H) (h2 τ H) h
def LG (P : Program) (c : Code) (It : Tau → Heap → Prop) (Mt : Tau → Heap → Nat) (q : XT) (E : ET) (H1 : Heap) (τ : Tau) : Prop := vc P c τ (xthen (fun τ2 H2 => It τ2 H2 ∧ Mt τ2 H2 < Mt τ H1) q) E H1
def KG (It : Tau → Heap → Prop) (Mt : Tau → Heap → Nat) (m : Nat) (H2 : Heap) (τ2 : Tau) : Prop := It τ2 H2 ∧ Mt τ2 H2 < m
theorem vc_loopG {c : Code} {τ : Tau} {Q : XT} {E : ET} {H : Heap} (fix : List Nat) (I : Tau → Heap → Prop) (μ : Tau → Heap → Nat) (hfix : (fix.all fun t => keepsB t c) = true) (h0 : I τ H)
    (rnd : ∀ τ' H', (∀ i ∈ fix, τ' i = τ i) → I τ' H' → LG P c I μ Q E H' τ') : vc P (.loop c) τ Q E H := vc_loop fix I μ hfix h0 rnd
theorem lgx {c : Code} {It : Tau → Heap → Prop} {Mt : Tau → Heap → Nat} {q : XT} {E : ET} {H1 : Heap} {τ : Tau} {K : Tau → Heap → Prop} (h : vc P c τ (xthen K q) E H1) (hk : ∀ τ2 H2, K τ2 H2 → KG It Mt (Mt τ H1) H2 τ2) : LG P c It Mt q E H1 τ := vc_xthen h hk
section
variable {c : Code} {q : XT} {E : ET} {H H1 H2 : Heap} {τ : Tau} {It : Tau → Heap → Prop} {Mt : Tau → Heap → Nat} {m : Nat}
theorem uF (i : Nat) (v : Value) (h : τ i = v) (g : LG P c It Mt q E H1 (τ.upd i v)) : LG P c It Mt q E H1 τ := fix_elim (G := LG P c It Mt q E H1) h g
theorem uI (i : Nat) {k : IntKind} {f : Int → Prop} (h : mI k (τ i) f) (g : ∀ n, f n → LG P c It Mt q E H1 (τ.upd i (.int k n))) : LG P c It Mt q E H1 τ := mI_elim (G := LG P c It Mt q E H1) h g
theorem uB (i : Nat) {f : Bool → Prop} (h : mB (τ i) f) (g : ∀ n, f n → LG P c It Mt q E H1 (τ.upd i (.bool n))) : LG P c It Mt q E H1 τ := mB_elim (G := LG P c It Mt q E H1) h g
theorem uSl (i : Nat) {f : Option Addr → Nat → Nat → Prop} (h : mSl (τ i) f) (g : ∀ p n k, f p n k → LG P c It Mt q E H1 (τ.upd i (.slice p n k))) : LG P c It Mt q E H1 τ := mSl_elim (G := LG P c It Mt q E H1) h g
theorem kI (i : Nat) {k : IntKind} {f : Int → Prop} (h : mI k (τ i) f) (g : ∀ n, f n → KG It Mt m H2 (τ.upd i (.int k n))) : KG It Mt m H2 τ := mI_elim (G := KG It Mt m H2) h g
theorem kB (i : Nat) {f : Bool → Prop} (h : mB (τ i) f) (g : ∀ n, f n → KG It Mt m H2 (τ.upd i (.bool n))) : KG It Mt m H2 τ := mB_elim (G := KG It Mt m H2) h g
theorem kSl (i : Nat) {f : Option Addr → Nat → Nat → Prop} (h : mSl (τ i) f) (g : ∀ p n k, f p n k → KG It Mt m H2 (τ.upd i (.slice p n k))) : KG It Mt m H2 τ := mSl_elim (G := KG It Mt m H2) h g
theorem wI (i : Nat) {k : IntKind} {f : Int → Prop} (h : mI k (τ i) f) (g : ∀ n, f n → vc P c (τ.upd i (.int k n)) q E H) : vc P c τ q E H := vI h g
theorem wB (i : Nat) {f : Bool → Prop} (h : mB (τ i) f) (g : ∀ n, f n → vc P c (τ.upd i (.bool n)) q E H) : vc P c τ q E H := vB h g
theorem wP (i : Nat) {f : Option Addr → Prop} (h : mP (τ i) f) (g : ∀ n, f n → vc P c (τ.upd i (.pointer n)) q E H) : vc P c τ q E H := vP h g
theorem wSl (i : Nat) {f : Option Addr → Nat → Nat → Prop} (h : mSl (τ i) f) (g : ∀ p n k, f p n k → vc P c (τ.upd i (.slice p n k)) q E H) : vc P c τ q E H := vSl h g
theorem wV (i : Nat) {f : Value → Prop} (h : mV (τ i) f) (g : ∀ v, f v → vc P c (τ.upd i v) q E H) : vc P c τ q E H := vV h g
end
end Go.V
