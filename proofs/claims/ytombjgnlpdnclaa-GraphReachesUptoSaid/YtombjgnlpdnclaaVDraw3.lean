import Derived.Test.YtombjgnlpdnclaaVDraw
/- A region that draws its order: one order is enough (2). -/
namespace Go.V
set_option linter.constructorNameAsVariable false
set_option linter.unusedVariables false
variable {P : Program}

theorem exT_mono {t : TypeId} {K K' : Value → Prop} (h : exT P t K) (hk : ∀ v, K v → K' v) : exT P t K' := by
  unfold exT at *; split at h
  · exact exL_mono h fun vs h => hk _ h
  · exact exS_mono h hk
theorem exTs_mono : ∀ {l : List TypeId} {K K' : List Value → Prop}, exTs P l K → (∀ v, K v → K' v) → exTs P l K'
  | [], K, K', h, hk => hk _ h
  | t :: l, K, K', h, hk => exT_mono h fun v h => exTs_mono h fun vs h => hk _ h
theorem tyRes_mono {t : TypeId} {v : Value} {K K' : Value → Prop} (h : tyRes P t v K) (hk : ∀ v, K v → K' v) : tyRes P t v K' := by
  unfold tyRes at *
  split at h
  · exact hk _ h
  · exact exTs_mono h fun vs h => ⟨h.1, hk _ h.2⟩
  · exact exT_mono h fun u h => ⟨h.1, hk _ h.2⟩
theorem nStore_mono {t : TypeId} {a x : Value} {K K' : Value → Heap → Prop} {H : Heap} (h : nStore P t a x K H) (hk : ∀ v H, K v H → K' v H) : nStore P t a x K' H := by
  unfold nStore at *
  split at h
  · refine ptr_mono h fun ad h => tyI_mono h fun i h => ?_
    split at h
    · exact wr_mono h fun H h => hk _ _ h
    · exact h.elim
  · exact h.elim
theorem nAlloc_mono {t : TypeId} {K K' : Value → Heap → Prop} {H : Heap} (h : nAlloc P t K H) (hk : ∀ v id o, H id = none → K v (H.set id o) → K' v (H.set id o)) : nAlloc P t K' H := by
  refine tyI_mono h fun i h => ?_
  split at h
  · exact fun id hid => hk _ _ _ hid (h id hid)
  · exact h.elim
theorem nBuildSlice_mono {t : TypeId} {n : Nat} {parts : List (Nat × Value)} {K K' : Value → Heap → Prop} {H : Heap} (h : nBuildSlice P t n parts K H)
    (hk : ∀ v id o, H id = none → K v (H.set id o) → K' v (H.set id o)) : nBuildSlice P t n parts K' H := by
  refine tyD_mono h fun d h => ?_
  split at h
  · refine tyI_mono h fun i h => tyZ_mono h fun z h => ?_
    split at h
    · split at h
      · exact fun id hid => hk _ _ _ hid (h id hid)
      · exact h.elim
    · exact h.elim
  · exact h.elim
theorem nMake_mono {t : TypeId} {l c : Value} {K K' : Value → Heap → Prop} {H : Heap} (h : nMake P t l c K H)
    (hk : ∀ v id o, H id = none → K v (H.set id o) → K' v (H.set id o)) : nMake P t l c K' H := by
  unfold nMake at *
  split at h
  · refine tyD_mono h fun d h => ?_
    split at h
    · exact tyI_mono h fun i h => tyZ_mono h fun z h => ⟨h.1, fun id hid => hk _ _ _ hid (h.2 id hid)⟩
    · exact h.elim
  · exact h.elim
theorem nConv_mono {s d : TypeId} {x : Value} {K K' : Value → Heap → Prop} {H : Heap} (h : nConv P s d x K H) (hk : ∀ v H, K v H → K' v H) : nConv P s d x K' H := by
  refine tyD_mono h fun ds h => tyD_mono h fun dd h => ?_
  split at h
  · exact hk _ _ h
  · exact hk _ _ h
  · refine tyD_mono h fun de h => ?_
    split at h
    · exact fun c hc => nw_mono (h c hc) fun _ _ h => hk _ _ h
    · exact h.elim
  · split at h
    · refine tyD_mono h fun de h => ?_
      split at h
      · obtain ⟨bs, h1, h2, h⟩ := h; exact ⟨bs, h1, h2, hk _ _ h⟩
      · exact h.elim
    · exact h.elim
  · split at h
    · split at h
      · refine tyD_mono h fun de h => ?_
        split at h
        · obtain ⟨cs, t, h1, h⟩ := h; exact ⟨cs, t, h1, hk _ _ h⟩
        · exact h.elim
      · exact h.elim
    · exact h.elim
  · exact h.elim
theorem nClear_mono {ts : List TypeId} {args : List Value} {K K' : Value → Heap → Prop} {H : Heap} (h : nClear P ts args K H) (hk : ∀ v H, K v H → K' v H) : nClear P ts args K' H := by
  unfold nClear at *
  split at h
  · refine tyD_mono h fun d h => ?_
    split at h
    · exact tyI_mono h fun i h => tyZ_mono h fun z h => wrS_mono h fun H h => hk _ _ h
    · exact h.elim
  · exact h.elim
theorem app_mono {t : TypeId} {p : Option Addr} {n c : Nat} {x : Value} {H : Heap} {K K' : Option Addr → Nat → Nat → Heap → Prop} (h : app P t p n c x H K)
    (hk : ∀ p n c H, K p n c H → K' p n c H) : app P t p n c x H K' := by
  refine tyD_mono h fun d h => ?_
  split at h
  · rename_i e
    refine tyI_mono h fun i h => tyZ_mono h fun z h => ?_
    unfold srcOf at *
    have go : ∀ {n' : Nat} {vs : List Value}, ((n + n' ≤ c → wrS p (n * i.size) vs H fun H => K p (n + n') c H) ∧
        (c < n + n' → Builtin.nextslicecap (n + n') c * i.bytes ≤ 281474976710656 ∧ 0 < i.bytes ∧ ∃ us : List Value, us.length = n * i.size ∧ H.rdS p us ∧
          ∀ c', n + n' ≤ c' → nw (.cells (us ++ vs ++ rep (c' - (n + n')) z).toArray e (0, 0)) H fun id H => K (some ⟨id, 0, none⟩) (n + n') c' H)) →
        ((n + n' ≤ c → wrS p (n * i.size) vs H fun H => K' p (n + n') c H) ∧
        (c < n + n' → Builtin.nextslicecap (n + n') c * i.bytes ≤ 281474976710656 ∧ 0 < i.bytes ∧ ∃ us : List Value, us.length = n * i.size ∧ H.rdS p us ∧
          ∀ c', n + n' ≤ c' → nw (.cells (us ++ vs ++ rep (c' - (n + n')) z).toArray e (0, 0)) H fun id H => K' (some ⟨id, 0, none⟩) (n + n') c' H)) := by
      intro n' vs h
      refine ⟨fun hc => wrS_mono (h.1 hc) fun H h => hk _ _ _ _ h, fun hc => ?_⟩
      obtain ⟨h1, h2, us, h3, h4, h5⟩ := h.2 hc
      exact ⟨h1, h2, us, h3, h4, fun c' hc' => nw_mono (h5 c' hc') fun _ _ h => hk _ _ _ _ h⟩
    split at h
    · obtain ⟨vs, h1, h2, h⟩ := h
      exact ⟨vs, h1, h2, go h⟩
    · exact ⟨h.1, go h.2⟩
    · exact h.elim
  · exact h.elim
theorem nxt_mono {K K' : Value → Heap → Prop} {E : Chain → Heap → Prop} (hk : ∀ v H, K v H → K' v H) (x : Next) (H : Heap) (h : nxt P K E x H) : nxt P K' E x H := by
  cases x <;> simp only [nxt] at h ⊢ <;> first | exact hk _ _ h | exact h.mono hk (fun _ _ h => h)
theorem vraw_mono {o : Oper} {ρ : Operand → Value} {K K' : Value → Heap → Prop} {E : Chain → Heap → Prop} {H : Heap} (h : vraw P o ρ K E H) (hk : ∀ v H, K v H → K' v H) :
    vraw P o ρ K' E H := vp_mono h (fun x H => nxt_mono hk x H) (fun _ _ h => h)

def stillB (P : Program) (o : Oper) : Bool := match o.op with
  | .move _ | .assign _ | .pick .. | .fieldAddr .. | .field .. | .indexAddr .. | .index .. | .slice .. | .nilCheck _ | .build .. | .extract .. | .makeInterface .. | .makeFunc .. | .unOp .. | .load .. => true
  | .binOp _ t _ _ _ => scalarB P t
  | .call c => match c.callee with
    | .builtin .len | .builtin .min | .builtin .max => true
    | _ => false
  | _ => false
def allocB (o : Oper) : Bool := match o.op with
  | .alloc _ | .box .. | .buildSlice .. | .makeSlice .. => true
  | _ => false
def loadB (o : Oper) : Bool := match o.op with
  | .load .. => true
  | _ => false
def loadBlk (ρ : Operand → Value) (o : Oper) : Nat → Prop := match o.op with
  | .load _ a => fun b => ∃ ad, ρ a = .pointer (some ad) ∧ b = ad.block
  | _ => none_

theorem vcOp_still {o : Oper} {ρ : Operand → Value} {K : Value → Heap → Prop} {E : Chain → Heap → Prop} {H : Heap} (ho : stillB P o = true) (h : vcOp P o ρ K E H) :
    ∃ v, K v H ∧ (∀ b, loadBlk ρ o b → H b ≠ none) ∧ ∀ (K' : Value → Heap → Prop) H', (∀ b, loadBlk ρ o b → H' b = H b) → K' v H' → vcOp P o ρ K' E H' := by
  obtain ⟨dst, op, type, pos, after, guard⟩ := o
  cases op <;> simp only [stillB, Bool.false_eq_true] at ho
  case move x => exact ⟨_, h, fun b hb => hb.elim, fun K' H' _ h => h⟩
  case assign x => exact ⟨_, h, fun b hb => hb.elim, fun K' H' _ h => h⟩
  case makeFunc f a b => exact ⟨_, h, fun b hb => hb.elim, fun K' H' _ h => h⟩
  case pick c a b => exact nPick_still _ _ _ K H h
  case build t ps => exact nBuild_still _ _ K H h
  case load t a => exact nLoad_still _ _ K H h
  case nilCheck x => exact nNilCheck_still _ K H h
  case binOp op t x y yt => exact nBin_still (raise E) ho K H h
  case unOp op t x => exact nUn_still _ _ K H h
  case makeInterface t x => exact nIface_still _ _ K H h
  case slice t x lo hi mx => exact nSlice_still _ _ _ _ _ K H h
  case fieldAddr s x f => exact nFieldAddr_still _ _ _ K H h
  case field t x f => exact nField_still _ _ _ K H h
  case indexAddr t x i => exact nIndexAddr_still _ _ _ K H h
  case index t x i => exact nIndex_still _ _ _ K H h
  case extract t i => exact nExtract_still _ _ K H h
  case call c =>
    obtain ⟨callee, args, ats⟩ := c
    cases callee <;> simp only [Bool.false_eq_true] at ho
    case builtin b =>
      cases b <;> simp only [Bool.false_eq_true] at ho
      case len =>
        simp only [vcOp] at h ⊢
        split at h
        · exact nLen_still _ _ K H h
        · exact h.elim
      case max =>
        simp only [vcOp] at h ⊢
        split at h
        · split at h
          · exact ⟨_, h, fun b hb => hb.elim, fun K' H' _ h => h⟩
          · exact h.elim
        · exact h.elim
      case min =>
        simp only [vcOp] at h ⊢
        split at h
        · split at h
          · exact ⟨_, h, fun b hb => hb.elim, fun K' H' _ h => h⟩
          · exact h.elim
        · exact h.elim
theorem ext_set {H : Heap} {id : Nat} {o : Obj} (hid : H id = none) : ∀ b, H b ≠ none → (H.set id o) b = H b := fun b hb =>
  Heap.set_ne _ _ (fun e => hb (e ▸ hid))
theorem vcOp_alloc {o : Oper} {ρ : Operand → Value} {K : Value → Heap → Prop} {E : Chain → Heap → Prop} {H : Heap} (ho : allocB o = true) (h : vcOp P o ρ K E H) :
    vcOp P o ρ (fun v H' => (∀ b, H b ≠ none → H' b = H b) ∧ K v H') E H := by
  obtain ⟨dst, op, type, pos, after, guard⟩ := o
  cases op <;> simp only [allocB, Bool.false_eq_true] at ho
  case alloc e => exact nAlloc_mono (K' := fun v H' => (∀ b, H b ≠ none → H' b = H b) ∧ K v H') h fun v id o hid h => ⟨ext_set hid, h⟩
  case box e x => exact fun id hid => ⟨ext_set hid, h id hid⟩
  case buildSlice t n ps =>
    simp only [vcOp] at h ⊢
    exact nBuildSlice_mono (K' := fun v H' => (∀ b, H b ≠ none → H' b = H b) ∧ K v H') h fun v id o hid h => ⟨ext_set hid, h⟩
  case makeSlice t l c => exact nMake_mono (K' := fun v H' => (∀ b, H b ≠ none → H' b = H b) ∧ K v H') h fun v id o hid h => ⟨ext_set hid, h⟩
theorem vcOp_mono {o : Oper} {ρ : Operand → Value} {K K' : Value → Heap → Prop} {E : Chain → Heap → Prop} {H : Heap} (h : vcOp P o ρ K E H) (hk : ∀ v H, K v H → K' v H) :
    vcOp P o ρ K' E H := by
  by_cases hs : stillB P o = true
  · obtain ⟨v, h1, h2, h3⟩ := vcOp_still hs h
    exact h3 _ _ (fun _ _ => rfl) (hk _ _ h1)
  obtain ⟨dst, op, type, pos, after, guard⟩ := o
  cases op <;> simp only [stillB, not_true_eq_false] at hs
  case alloc e => exact nAlloc_mono h fun v id o hid h => hk _ _ h
  case box e x => exact nw_mono h fun _ _ h => hk _ _ h
  case buildSlice t n ps =>
    simp only [vcOp] at h ⊢
    exact nBuildSlice_mono h fun v id o hid h => hk _ _ h
  case makeSlice t l c => exact nMake_mono h fun v id o hid h => hk _ _ h
  case store t a x => exact nStore_mono h hk
  case range t x =>
    simp only [vcOp, nRange] at h ⊢
    refine tyD_mono h fun d h => ?_
    split at h
    · exact nw_mono h fun _ _ h => hk _ _ h
    · exact h.elim
  case next it b =>
    simp only [vcOp] at h ⊢
    unfold nNext at *
    split at h
    · replace h := ptr_elim h
      obtain ⟨q, rfl, ho, s, pos, hs, h1, h2⟩ := h
      exact ⟨ho, s, pos, hs, fun hp => hk _ _ (h1 hp), fun hp => hk _ _ (h2 hp)⟩
    · exact h.elim
  case makeMap t r =>
    simp only [vcOp] at h ⊢
    unfold nMakeMap at *
    split at h
    · exact nw_mono h fun _ _ h => hk _ _ h
    · exact h.elim
  case lookup t x ix ok =>
    simp only [vcOp, nLookup] at h ⊢
    refine tyD_mono h fun d h => ?_
    split at h
    · split at h
      · refine tyI_mono h fun i h => ?_
        split at h
        · refine tyD_mono h fun d h => ?_
          split at h
          · refine exS_mono h fun v h => ?_
            obtain ⟨b, h1, h2⟩ := h
            refine ⟨b, h1, ?_⟩
            cases ok <;> exact hk _ _ h2
          · exact h.elim
        · exact h.elim
      · exact h.elim
    · exact h.elim
  case mapUpdate t m k x =>
    simp only [vcOp, nMapUpd] at h ⊢
    refine tyD_mono h fun d h => ?_
    split at h
    · split at h
      · obtain ⟨r, es, clk, h1, h2, h3, h4⟩ := h
        exact ⟨r, es, clk, h1, h2, h3, hk _ _ h4⟩
      · exact h.elim
    · exact h.elim
  case convert s d x => exact nConv_mono h hk
  case binOp op t x y yt =>
    simp only [vcOp, nBin] at h ⊢
    split at h
    · exact ⟨h.1, hk _ _ h.2⟩
    · exact hk _ _ h
    · refine tyD_mono h fun d h => ?_
      split at h
      · exact h.elim
      · split at h
        · split at h
          · split at h
            · exact hk _ _ h
            · exact h.elim
          · split at h
            · exact hk _ _ h
            · exact h.elim
          · exact h.elim
        · exact vp_mono h hk (fun _ _ h => h)
  case call c =>
    simp only [vcOp] at h ⊢
    split at h
    · unfold nCall callV at *
      split at h
      · exact h.mono (fun v H h => tyRes_mono h fun v h => hk v H h) (fun _ _ h => h)
      · exact h.elim
    · unfold nApp at *
      split at h
      · refine tyD_mono h fun d h => ?_
        split at h
        · exact h.elim
        · exact app_mono h fun p n c H h => hk _ _ h
      · exact h.elim
    · exact nClear_mono h hk
    · rename_i hc; exact (hs (by simp only [hc])).elim
    · rename_i hc; exact (hs (by simp only [hc])).elim
    · rename_i hc; exact (hs (by simp only [hc])).elim
    · exact vraw_mono h hk
  all_goals exact vraw_mono h hk

theorem vcOp_congr {o : Oper} {ρ ρ' : Operand → Value} {K : Value → Heap → Prop} {E : Chain → Heap → Prop} {H : Heap} (hs : ∀ cs b, o.op ≠ .select cs b)
    (h : ∀ x ∈ o.op.operands, ρ x = ρ' x) : vcOp P o ρ K E H = vcOp P o ρ' K E H := by
  have hraw : vraw P o ρ K E H = vraw P o ρ' K E H := by unfold vraw; rw [execOp_congr o hs h]
  obtain ⟨dst, op, type, pos, after, guard⟩ := o
  have pairs : ∀ ps : Array (Nat × Operand), (∀ x ∈ ps.toList.map (·.2), ρ x = ρ' x) →
      (ps.toList.map fun p => (p.1, ρ p.2)) = (ps.toList.map fun p => (p.1, ρ' p.2)) := fun ps hp =>
    List.map_congr_left fun p hm => by rw [hp p.2 (List.mem_map.2 ⟨p, hm, rfl⟩)]
  cases op <;> simp only [Op.operands] at h <;> simp only [vcOp]
  case build t ps => rw [pairs ps fun x hx => h x (by simpa using hx)]
  case buildSlice t n ps => rw [pairs ps fun x hx => h x (by simpa using hx)]
  case makeFunc fn first captured =>
    rw [List.map_congr_left (l := first.toList) fun x hx => h x (by simp; exact .inl (by simpa using hx)), List.map_congr_left (l := captured.toList) fun x hx => h x (by simp; exact .inr (by simpa using hx))]
  case slice t x lo hi mx => cases lo <;> cases hi <;> cases mx <;> simp_all
  case makeMap t r => cases r <;> simp_all
  case call c =>
    have ha : c.args.toList.map ρ = c.args.toList.map ρ' := List.map_congr_left fun x hx => h x (by
      simp only [Call.operands]; exact Array.mem_append.2 (.inr (by simpa using hx)))
    rw [ha]
    split
    · rename_i f hf
      rw [h f (by simp [Call.operands, hf])]
    all_goals first | rfl | exact hraw
  all_goals first | rfl | exact hraw | (simp_all; done)
end Go.V

/- A region that draws its order: one order is enough (3): the order does not matter. -/
namespace Go.V
set_option linter.constructorNameAsVariable false
set_option linter.unusedVariables false

section
variable (P : Program)
def loadZ (Z : Nat → Prop) (ρ : Operand → Value) (o : Oper) : Prop := match o.op with
  | .load _ a => match ρ a with
    | .pointer p => ptr p fun ad => Z ad.block
    | _ => False
  | _ => True
def dstep (ops : Array Oper) (fl : Bool) (Z : Nat → Prop) (o : Oper) (τ : Tau) (K : Tau → Heap → Prop) (E : Chain → Heap → Prop) (H : Heap) : Prop :=
  vcGuard ops o τ fun w τ => match w with
    | true => match fl with
      | false => vcOp P o (ev τ) (fun v H => K (τ.put o.dst v) H) E H
      | true => match loadB o with
        | true => loadZ Z (ev τ) o ∧ vcOp P o (ev τ) (fun v H => K (τ.put o.dst v) H) E H
        | false => vcOp P o (ev τ) (fun v H' => (∀ z, Z z → H z ≠ none → H' z = H z) ∧ K (τ.put o.dst v) H') E H
    | false => K (τ.put o.dst undef) H
def vcDraw (ops : Array Oper) (fl : Nat → Bool) (Z : Nat → Prop) : List Nat → Tau → (Tau → Heap → Prop) → (Chain → Heap → Prop) → Heap → Prop
  | [], τ, K, _, H => K τ H
  | i :: l, τ, K, E, H => match ops[i]? with
    | none => vcDraw ops fl Z l τ K E H
    | some o => dstep P ops (fl i) Z o τ (fun τ H => vcDraw ops fl Z l τ K E H) E H
end
variable {P : Program}

def wantT (ops : Array Oper) (o : Oper) (τ : Tau) : Bool := match o.guard with
  | none => true
  | some (j, want) => match (ops[j]?).bind (·.dst) with
    | none => false
    | some t => match τ t with
      | .bool b => b == want
      | _ => false
theorem vcGuard_iff {ops : Array Oper} {o : Oper} {τ : Tau} {K : Bool → Tau → Prop} : vcGuard ops o τ K ↔ K (wantT ops o τ) τ := by
  obtain ⟨dst, op, type, pos, after, guard⟩ := o
  unfold vcGuard wantT
  cases guard with
  | none => exact Iff.rfl
  | some jw =>
    obtain ⟨j, want⟩ := jw
    dsimp only
    generalize (ops[j]?).bind (·.dst) = od
    cases od with
    | none => exact Iff.rfl
    | some t =>
      dsimp only
      cases hv : τ t <;> try exact Iff.rfl
      rename_i b
      cases b
      · simp only [sel]; rw [Tau.upd_eq τ hv]; cases want <;> exact Iff.rfl
      · simp only [sel]; rw [Tau.upd_eq τ hv]; cases want <;> exact Iff.rfl
theorem Tau.put_ne {τ : Tau} {d : Option Nat} {v : Value} {t : Nat} (h : ∀ e, d = some e → e ≠ t) : (τ.put d v) t = τ t := by
  cases d with
  | none => rfl
  | some e =>
    simp only [Tau.put, Tau.upd]
    have : Nat.beq t e = false := by
      cases hb : Nat.beq t e
      · rfl
      · exact absurd (Nat.eq_of_beq_eq_true hb).symm (h e rfl)
    rw [this]; rfl
theorem Tau.put_comm {τ : Tau} {x y : Option Nat} {v u : Value} (h : ∀ d, x = some d → y ≠ some d) : (τ.put x v).put y u = (τ.put y u).put x v := by
  cases x with
  | none => rfl
  | some d => cases y with
    | none => rfl
    | some e =>
      have hne : d ≠ e := fun he => h d rfl (he ▸ rfl)
      funext t
      simp only [Tau.put, Tau.upd]
      cases h1 : Nat.beq t e <;> cases h2 : Nat.beq t d <;> try rfl
      exact absurd ((Nat.eq_of_beq_eq_true h2).symm.trans (Nat.eq_of_beq_eq_true h1)) hne
theorem wantT_put {ops : Array Oper} {o : Oper} {τ : Tau} {d : Option Nat} {v : Value} (h : ∀ e, d = some e → e ∉ o.looksAt ops) : wantT ops o (τ.put d v) = wantT ops o τ := by
  unfold wantT
  cases hg : o.guard with
  | none => rfl
  | some jw =>
    obtain ⟨j, want⟩ := jw
    simp only []
    cases ht : (ops[j]?).bind (·.dst) with
    | none => rfl
    | some t =>
      simp only []
      rw [Tau.put_ne fun e he het => h e he (by subst het; simp [Oper.looksAt, hg, ht])]
theorem ev_put {ops : Array Oper} {o : Oper} {τ : Tau} {d : Option Nat} {v : Value} (h : ∀ e, d = some e → e ∉ o.looksAt ops) : ∀ x ∈ o.op.operands, ev (τ.put d v) x = ev τ x := by
  intro x hx
  cases x with
  | tmp t => exact Tau.put_ne fun e he het => h e he (by
      subst het; exact List.mem_append_left _ (List.mem_filterMap.2 ⟨.tmp e, by simpa using hx, rfl⟩))
  | _ => rfl
theorem vcOp_put {ops : Array Oper} {o : Oper} {τ : Tau} {d : Option Nat} {v : Value} {K : Value → Heap → Prop} {E : Chain → Heap → Prop} {H : Heap} (hs : ∀ cs b, o.op ≠ .select cs b)
    (h : ∀ e, d = some e → e ∉ o.looksAt ops) : vcOp P o (ev (τ.put d v)) K E H = vcOp P o (ev τ) K E H := vcOp_congr hs (ev_put h)
theorem loadZ_put {ops : Array Oper} {Z : Nat → Prop} {o : Oper} {τ : Tau} {d : Option Nat} {v : Value} (h : ∀ e, d = some e → e ∉ o.looksAt ops) : loadZ Z (ev (τ.put d v)) o = loadZ Z (ev τ) o := by
  have := ev_put (v := v) (τ := τ) h
  obtain ⟨dst, op, type, pos, after, guard⟩ := o
  cases op <;> first | rfl | skip
  case load t a => simp only [loadZ]; rw [this a (by simp [Op.operands])]
theorem loadZ_blk {Z : Nat → Prop} {ρ : Operand → Value} {o : Oper} (h : loadZ Z ρ o) : ∀ b, loadBlk ρ o b → Z b := by
  intro b hb
  obtain ⟨dst, op, type, pos, after, guard⟩ := o
  cases op <;> first | exact hb.elim | skip
  case load t a =>
    obtain ⟨ad, h1, rfl⟩ := hb
    simp only [loadZ, h1] at h
    exact h
theorem loadBlk_none {ρ : Operand → Value} {o : Oper} (h : loadB o = false) : ∀ b, ¬ loadBlk ρ o b := by
  intro b hb
  obtain ⟨dst, op, type, pos, after, guard⟩ := o
  cases op <;> first | exact hb.elim | cases h

theorem dstep_mono {ops : Array Oper} {fl : Bool} {Z : Nat → Prop} {o : Oper} {τ : Tau} {K K' : Tau → Heap → Prop} {E : Chain → Heap → Prop} {H : Heap}
    (h : dstep P ops fl Z o τ K E H) (hk : ∀ τ H, K τ H → K' τ H) : dstep P ops fl Z o τ K' E H := by
  unfold dstep at *
  rw [vcGuard_iff] at *
  split at h
  · cases fl <;> simp only [] at h ⊢
    · exact vcOp_mono h fun v H h => hk _ _ h
    · cases hl : loadB o <;> simp only [hl] at h ⊢
      · exact vcOp_mono h fun v H h => ⟨h.1, hk _ _ h.2⟩
      · exact ⟨h.1, vcOp_mono h.2 fun v H h => hk _ _ h⟩
  · exact hk _ _ h
def Sx (P : Program) (o : Oper) (fl : Bool) (Z : Nat → Prop) (H H₁ : Heap) : Prop :=
  (stillB P o = true → H₁ = H) ∧ (allocB o = true → ∀ b, H b ≠ none → H₁ b = H b) ∧ (fl = true → loadB o = false → ∀ z, Z z → H z ≠ none → H₁ z = H z)
theorem alloc_not_still {o : Oper} (h : allocB o = true) : stillB P o = false := by
  obtain ⟨dst, op, type, pos, after, guard⟩ := o
  cases op <;> first | rfl | cases h
theorem vcOp_more {o : Oper} {ρ : Operand → Value} {K : Value → Heap → Prop} {E : Chain → Heap → Prop} {H : Heap} (h : vcOp P o ρ K E H) :
    vcOp P o ρ (fun v H' => (stillB P o = true → H' = H) ∧ (allocB o = true → ∀ b, H b ≠ none → H' b = H b) ∧ K v H') E H := by
  by_cases h1 : stillB P o = true
  · obtain ⟨v, h2, h3, h4⟩ := vcOp_still h1 h
    refine h4 _ _ (fun _ _ => rfl) ⟨fun _ => rfl, fun ha => ?_, h2⟩
    rw [alloc_not_still ha] at h1; cases h1
  · by_cases h2 : allocB o = true
    · exact vcOp_mono (vcOp_alloc h2 h) fun v H' h => ⟨fun h' => absurd h' h1, fun _ => h.1, h.2⟩
    · exact vcOp_mono h fun v H' h => ⟨fun h' => absurd h' h1, fun h' => absurd h' h2, h⟩
/-! ### The same, with what acts taken as the model has it -/
def bot : Chain → Heap → Prop := fun _ _ => False
def calmB (P : Program) (o : Oper) : Bool := stillB P o || allocB o
def sem (P : Program) (o : Oper) (ρ : Operand → Value) (K : Value → Heap → Prop) (H : Heap) : Prop := match calmB P o with
  | true => vcOp P o ρ K bot H
  | false => vraw P o ρ K bot H
theorem sem_of {o : Oper} {ρ : Operand → Value} {K : Value → Heap → Prop} {H : Heap} (h : vcOp P o ρ K bot H) : sem P o ρ K H := by
  unfold sem
  split
  · exact h
  · exact vcOp_raw h
theorem sem_raw {o : Oper} {ρ : Operand → Value} {K : Value → Heap → Prop} {H : Heap} (h : sem P o ρ K H) : vraw P o ρ K bot H := by
  unfold sem at h
  split at h
  · exact vcOp_raw h
  · exact h
theorem sem_mono {o : Oper} {ρ : Operand → Value} {K K' : Value → Heap → Prop} {H : Heap} (h : sem P o ρ K H) (hk : ∀ v H, K v H → K' v H) : sem P o ρ K' H := by
  unfold sem at *
  split at h
  · exact vcOp_mono h hk
  · exact vraw_mono h hk
theorem sem_still {o : Oper} {ρ : Operand → Value} {K : Value → Heap → Prop} {H : Heap} (ho : stillB P o = true) : sem P o ρ K H = vcOp P o ρ K bot H := by
  simp [sem, calmB, ho]
theorem sem_alloc {o : Oper} {ρ : Operand → Value} {K : Value → Heap → Prop} {H : Heap} (ho : allocB o = true) : sem P o ρ K H = vcOp P o ρ K bot H := by
  simp [sem, calmB, ho]
theorem sem_put {ops : Array Oper} {o : Oper} {τ : Tau} {d : Option Nat} {v : Value} {K : Value → Heap → Prop} {H : Heap} (hs : ∀ cs b, o.op ≠ .select cs b)
    (h : ∀ e, d = some e → e ∉ o.looksAt ops) : sem P o (ev (τ.put d v)) K H = sem P o (ev τ) K H := by
  unfold sem
  rw [vcOp_put hs h]
  have : vraw P o (ev (τ.put d v)) K bot H = vraw P o (ev τ) K bot H := by unfold vraw; rw [execOp_congr o hs (ev_put h)]
  rw [this]
theorem sem_more {o : Oper} {ρ : Operand → Value} {K : Value → Heap → Prop} {H : Heap} (h : sem P o ρ K H) :
    sem P o ρ (fun v H' => (stillB P o = true → H' = H) ∧ (allocB o = true → ∀ b, H b ≠ none → H' b = H b) ∧ K v H') H := by
  unfold sem at *
  cases hc : calmB P o <;> simp only [hc] at h ⊢
  · simp only [calmB, Bool.or_eq_false_iff] at hc
    exact vraw_mono h fun v H' h => ⟨fun h' => by simp [hc.1] at h', fun h' => by simp [hc.2] at h', h⟩
  · exact vcOp_more h
def rstep (P : Program) (ops : Array Oper) (fl : Bool) (Z : Nat → Prop) (o : Oper) (τ : Tau) (K : Tau → Heap → Prop) (H : Heap) : Prop :=
  vcGuard ops o τ fun w τ => match w with
    | true => match fl with
      | false => sem P o (ev τ) (fun v H => K (τ.put o.dst v) H) H
      | true => match loadB o with
        | true => loadZ Z (ev τ) o ∧ sem P o (ev τ) (fun v H => K (τ.put o.dst v) H) H
        | false => sem P o (ev τ) (fun v H' => (∀ z, Z z → H z ≠ none → H' z = H z) ∧ K (τ.put o.dst v) H') H
    | false => K (τ.put o.dst undef) H
def rDraw (P : Program) (ops : Array Oper) (fl : Nat → Bool) (Z : Nat → Prop) : List Nat → Tau → (Tau → Heap → Prop) → Heap → Prop
  | [], τ, K, H => K τ H
  | i :: l, τ, K, H => match ops[i]? with
    | none => rDraw P ops fl Z l τ K H
    | some o => rstep P ops (fl i) Z o τ (fun τ H => rDraw P ops fl Z l τ K H) H
theorem rstep_mono {ops : Array Oper} {fl : Bool} {Z : Nat → Prop} {o : Oper} {τ : Tau} {K K' : Tau → Heap → Prop} {H : Heap}
    (h : rstep P ops fl Z o τ K H) (hk : ∀ τ H, K τ H → K' τ H) : rstep P ops fl Z o τ K' H := by
  unfold rstep at *
  rw [vcGuard_iff] at *
  split at h
  · cases fl <;> simp only [] at h ⊢
    · exact sem_mono h fun v H h => hk _ _ h
    · cases hl : loadB o <;> simp only [hl] at h ⊢
      · exact sem_mono h fun v H h => ⟨h.1, hk _ _ h.2⟩
      · exact ⟨h.1, sem_mono h.2 fun v H h => hk _ _ h⟩
  · exact hk _ _ h
theorem rstep_of {ops : Array Oper} {fl : Bool} {Z : Nat → Prop} {o : Oper} {τ : Tau} {K : Tau → Heap → Prop} {H : Heap} (h : dstep P ops fl Z o τ K bot H) : rstep P ops fl Z o τ K H := by
  unfold dstep at h
  unfold rstep
  rw [vcGuard_iff] at *
  split at h
  · cases fl <;> simp only [] at h ⊢
    · exact sem_of h
    · cases hl : loadB o <;> simp only [hl] at h ⊢
      · exact sem_of h
      · exact ⟨h.1, sem_of h.2⟩
  · exact h
theorem rDraw_of {ops : Array Oper} {fl : Nat → Bool} {Z : Nat → Prop} {K : Tau → Heap → Prop} : ∀ (l : List Nat) (τ : Tau) (H : Heap), vcDraw P ops fl Z l τ K bot H → rDraw P ops fl Z l τ K H
  | [], τ, H, h => h
  | i :: l, τ, H, h => by
    unfold vcDraw at h
    unfold rDraw
    split at h
    · exact rDraw_of l τ H h
    · exact rstep_of (dstep_mono h fun τ H h => rDraw_of l τ H h)
theorem rstep_raw {ops : Array Oper} {fl : Bool} {Z : Nat → Prop} {o : Oper} {τ : Tau} {K : Tau → Heap → Prop} {H : Heap}
    (h : rstep P ops fl Z o τ K H) : rawStep P ops o τ K bot H := by
  unfold rstep at h
  unfold rawStep
  rw [vcGuard_iff] at *
  cases hw : wantT ops o τ <;> simp only [hw] at h ⊢
  case true =>
    cases fl <;> simp only [] at h
    · exact sem_raw h
    · cases hl : loadB o <;> simp only [hl] at h
      · exact vraw_mono (sem_raw h) fun v H h => h.2
      · exact sem_raw h.2
  case false => exact h
theorem xstep {ops : Array Oper} {fl : Bool} {Z : Nat → Prop} {o : Oper} {τ : Tau} {yd : Option Nat} {u : Value} {B : Tau → Heap → Prop} {H : Heap}
    (hs : ∀ cs b, o.op ≠ .select cs b) (h1 : ∀ e, yd = some e → e ∉ o.looksAt ops) (h2 : ∀ e, yd = some e → o.dst ≠ some e) (h : rstep P ops fl Z o (τ.put yd u) B H) :
    rstep P ops fl Z o τ (fun τ₁ H₁ => (∃ w, τ₁ = τ.put o.dst w) ∧ (wantT ops o τ = true → Sx P o fl Z H H₁) ∧ (wantT ops o τ = false → H₁ = H) ∧ B (τ₁.put yd u) H₁) H := by
  unfold rstep at *
  rw [vcGuard_iff] at *
  rw [wantT_put h1] at h
  split at h
  · rename_i hw
    simp only [hw] at h ⊢
    cases fl <;> simp only [] at h ⊢
    · rw [sem_put hs h1] at h
      refine sem_mono (sem_more h) fun w H' h => ⟨⟨w, rfl⟩, fun _ => ⟨h.1, h.2.1, fun hf => by cases hf⟩, fun hf => by simp at hf, ?_⟩
      rw [← Tau.put_comm h2]; exact h.2.2
    · cases hl : loadB o <;> simp only [hl] at h ⊢
      · rw [sem_put hs h1] at h
        refine sem_mono (sem_more h) fun w H' h => ⟨h.2.2.1, ⟨w, rfl⟩, fun _ => ⟨h.1, h.2.1, fun _ _ => h.2.2.1⟩, fun hf => by simp at hf, ?_⟩
        rw [← Tau.put_comm h2]; exact h.2.2.2
      · rw [sem_put hs h1, loadZ_put h1] at h
        refine ⟨h.1, sem_mono (sem_more h.2) fun w H' h => ⟨⟨w, rfl⟩, fun _ => ⟨h.1, h.2.1, fun _ hf => by simp [hl] at hf⟩, fun hf => by simp at hf, ?_⟩⟩
        rw [← Tau.put_comm h2]; exact h.2.2
  · rename_i hw
    simp only [hw] at h ⊢
    refine ⟨⟨undef, rfl⟩, fun hf => by simp at hf, by simp, ?_⟩
    rw [← Tau.put_comm h2]; exact h

theorem swap {ops : Array Oper} {fx fy : Bool} {Z : Nat → Prop} {oy ox : Oper} {τ : Tau} {B : Tau → Heap → Prop} {H : Heap}
    (hsy : ∀ cs b, oy.op ≠ .select cs b) (hsx : ∀ cs b, ox.op ≠ .select cs b) (hap : oy.apart ops ox = true) (sy : stillB P oy = true)
    (hfl : loadB oy = true → stillB P ox = true ∨ allocB ox = true ∨ (fy = true ∧ fx = true ∧ loadB ox = false))
    (h : rstep P ops fy Z oy τ (fun τ H => rstep P ops fx Z ox τ B H) H) : rstep P ops fx Z ox τ (fun τ H => rstep P ops fy Z oy τ B H) H := by
  obtain ⟨p1, p2, p3⟩ := Oper.apart_spec hap
  -- y's value, and how it is had again behind x
  have hy : ∃ u, rstep P ops fx Z ox (τ.put oy.dst u) B H ∧ ∀ w H₁, (wantT ops ox τ = true → Sx P ox fx Z H H₁) → (wantT ops ox τ = false → H₁ = H) →
      B ((τ.put ox.dst w).put oy.dst u) H₁ → rstep P ops fy Z oy (τ.put ox.dst w) B H₁ := by
    unfold rstep at h
    rw [vcGuard_iff] at h
    have hblk : ∀ {v : Value} {H₁ : Heap} {K : Value → Heap → Prop}, (wantT ops ox τ = true → Sx P ox fx Z H H₁) → (wantT ops ox τ = false → H₁ = H) →
        (∀ b, loadBlk (ev τ) oy b → H b ≠ none) → (fy = true → ∀ b, loadBlk (ev τ) oy b → Z b) → ∀ b, loadBlk (ev τ) oy b → H₁ b = H b := by
      intro v H₁ K h1 h2 h3 h4 b hb
      cases hw : wantT ops ox τ
      · rw [h2 hw]
      · obtain ⟨s1, s2, s3⟩ := h1 hw
        cases hl : loadB oy
        · exact absurd hb (loadBlk_none hl b)
        · rcases hfl hl with h5 | h5 | ⟨h5, h6, h7⟩
          · rw [s1 h5]
          · exact s2 h5 b (h3 b hb)
          · exact s3 h6 h7 b (h4 h5 b hb) (h3 b hb)
    cases hwy : wantT ops oy τ <;> simp only [hwy] at h
    · refine ⟨undef, h, fun w H₁ _ _ hB => ?_⟩
      unfold rstep
      rw [vcGuard_iff, wantT_put p3, hwy]
      exact hB
    · cases hfy : fy <;> simp only [hfy] at h
      · rw [sem_still sy] at h
        obtain ⟨v, h1, h2, h3⟩ := vcOp_still sy h
        refine ⟨v, h1, fun w H₁ hs1 hs2 hB => ?_⟩
        unfold rstep
        rw [vcGuard_iff, wantT_put p3, hwy]
        simp only []
        rw [sem_put hsy p3, sem_still sy]
        exact h3 _ _ (hblk (v := v) (K := fun _ _ => True) hs1 hs2 h2 (by simp [hfy])) hB
      · cases hl : loadB oy <;> simp only [hl] at h
        · rw [sem_still sy] at h
          obtain ⟨v, h1, h2, h3⟩ := vcOp_still sy h
          refine ⟨v, h1.2, fun w H₁ hs1 hs2 hB => ?_⟩
          unfold rstep
          rw [vcGuard_iff, wantT_put p3, hwy]
          simp only [hl]
          rw [sem_put hsy p3, sem_still sy]
          obtain ⟨v', h1', h2', h3'⟩ := vcOp_still (K := fun v' H' => v' = v ∧ H' = H) sy (h3 (fun v' H' => v' = v ∧ H' = H) H (fun _ _ => rfl) ⟨rfl, rfl⟩)
          exact h3 _ _ (fun b hb => absurd hb (loadBlk_none hl b)) ⟨fun _ _ _ => rfl, hB⟩
        · rw [sem_still sy] at h
          obtain ⟨v, h1, h2, h3⟩ := vcOp_still sy h.2
          refine ⟨v, h1, fun w H₁ hs1 hs2 hB => ?_⟩
          unfold rstep
          rw [vcGuard_iff, wantT_put p3, hwy]
          simp only [hl]
          rw [sem_put hsy p3, loadZ_put p3, sem_still sy]
          exact ⟨h.1, h3 _ _ (hblk (v := v) (K := fun _ _ => True) hs1 hs2 h2 (fun _ => loadZ_blk h.1)) hB⟩
  obtain ⟨u, hx, hagain⟩ := hy
  refine rstep_mono (xstep hsx p1 (fun e he hx => p2 e he hx) hx) fun τ₁ H₁ h => ?_
  obtain ⟨⟨w, rfl⟩, h1, h2, h3⟩ := h
  exact hagain w H₁ h1 h2 h3

end Go.V
