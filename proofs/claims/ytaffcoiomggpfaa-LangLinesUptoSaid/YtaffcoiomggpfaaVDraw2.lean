/- A region that draws its order: one order is enough (2). -/
import Derived.Test.YtaffcoiomggpfaaVDraw
namespace Go.V
set_option linter.constructorNameAsVariable false
set_option linter.unusedVariables false
variable {P : Program}

theorem exT_mono {t : TypeId} {K K' : Value → Prop} (h : exT P t K) (hk : ∀ v, K v → K' v) : exT P t K' := by
  unfold exT at *; split at h
  · exact exL_mono h fun vs h => hk _ h
  · exact exS_mono h hk
theorem exTs_mono : ∀ {l : List TypeId} {K K' : List Value → Prop}, exTs P l K → (∀ v, K v → K' v) → exTs P l K'
  | [], K, K', h, hk => hk _ h
  | t :: l, K, K', h, hk => exT_mono h fun v h => exTs_mono h fun vs h => hk _ h
theorem tyRes_mono {t : TypeId} {v : Value} {K K' : Value → Prop} (h : tyRes P t v K) (hk : ∀ v, K v → K' v) : tyRes P t v K' := by
  unfold tyRes at *
  split at h
  · exact hk _ h
  · exact exTs_mono h fun vs h => ⟨h.1, hk _ h.2⟩
  · exact exT_mono h fun u h => ⟨h.1, hk _ h.2⟩
theorem nStore_mono {t : TypeId} {a x : Value} {K K' : Value → Heap → Prop} {H : Heap} (h : nStore P t a x K H) (hk : ∀ v H, K v H → K' v H) : nStore P t a x K' H := by
  unfold nStore at *
  split at h
  · refine ptr_mono h fun ad h => tyI_mono h fun i h => ?_
    split at h
    · exact wr_mono h fun H h => hk _ _ h
    · exact h.elim
  · exact h.elim
theorem nAlloc_mono {t : TypeId} {K K' : Value → Heap → Prop} {H : Heap} (h : nAlloc P t K H) (hk : ∀ v id o, H id = none → K v (H.set id o) → K' v (H.set id o)) : nAlloc P t K' H := by
  refine tyI_mono h fun i h => ?_
  split at h
  · exact fun id hid => hk _ _ _ hid (h id hid)
  · exact h.elim
theorem nBuildSlice_mono {t : TypeId} {n : Nat} {parts : List (Nat × Value)} {K K' : Value → Heap → Prop} {H : Heap} (h : nBuildSlice P t n parts K H)
    (hk : ∀ v id o, H id = none → K v (H.set id o) → K' v (H.set id o)) : nBuildSlice P t n parts K' H := by
  refine tyD_mono h fun d h => ?_
  split at h
  · refine tyI_mono h fun i h => tyZ_mono h fun z h => ?_
    split at h
    · split at h
      · exact fun id hid => hk _ _ _ hid (h id hid)
      · exact h.elim
    · exact h.elim
  · exact h.elim
theorem nMake_mono {t : TypeId} {l c : Value} {K K' : Value → Heap → Prop} {H : Heap} (h : nMake P t l c K H)
    (hk : ∀ v id o, H id = none → K v (H.set id o) → K' v (H.set id o)) : nMake P t l c K' H := by
  unfold nMake at *
  split at h
  · refine tyD_mono h fun d h => ?_
    split at h
    · exact tyI_mono h fun i h => tyZ_mono h fun z h => ⟨h.1, fun id hid => hk _ _ _ hid (h.2 id hid)⟩
    · exact h.elim
  · exact h.elim
theorem nConv_mono {s d : TypeId} {x : Value} {K K' : Value → Heap → Prop} {H : Heap} (h : nConv P s d x K H) (hk : ∀ v H, K v H → K' v H) : nConv P s d x K' H := by
  refine tyD_mono h fun ds h => tyD_mono h fun dd h => ?_
  split at h
  · exact hk _ _ h
  · exact hk _ _ h
  · refine tyD_mono h fun de h => ?_
    split at h
    · exact fun c hc => nw_mono (h c hc) fun _ _ h => hk _ _ h
    · exact h.elim
  · split at h
    · refine tyD_mono h fun de h => ?_
      split at h
      · obtain ⟨bs, h1, h2, h⟩ := h; exact ⟨bs, h1, h2, hk _ _ h⟩
      · exact h.elim
    · exact h.elim
  · split at h
    · split at h
      · refine tyD_mono h fun de h => ?_
        split at h
        · obtain ⟨cs, t, h1, h⟩ := h; exact ⟨cs, t, h1, hk _ _ h⟩
        · exact h.elim
      · exact h.elim
    · exact h.elim
  · exact h.elim
theorem nClear_mono {ts : List TypeId} {args : List Value} {K K' : Value → Heap → Prop} {H : Heap} (h : nClear P ts args K H) (hk : ∀ v H, K v H → K' v H) : nClear P ts args K' H := by
  unfold nClear at *
  split at h
  · refine tyD_mono h fun d h => ?_
    split at h
    · exact tyI_mono h fun i h => tyZ_mono h fun z h => wrS_mono h fun H h => hk _ _ h
    · exact h.elim
  · exact h.elim
theorem app_mono {t : TypeId} {p : Option Addr} {n c : Nat} {x : Value} {H : Heap} {K K' : Option Addr → Nat → Nat → Heap → Prop} (h : app P t p n c x H K)
    (hk : ∀ p n c H, K p n c H → K' p n c H) : app P t p n c x H K' := by
  refine tyD_mono h fun d h => ?_
  split at h
  · rename_i e
    refine tyI_mono h fun i h => tyZ_mono h fun z h => ?_
    unfold srcOf at *
    have go : ∀ {n' : Nat} {vs : List Value}, ((n + n' ≤ c → wrS p (n * i.size) vs H fun H => K p (n + n') c H) ∧
        (c < n + n' → Builtin.nextslicecap (n + n') c * i.bytes ≤ 281474976710656 ∧ 0 < i.bytes ∧ ∃ us : List Value, us.length = n * i.size ∧ H.rdS p us ∧
          ∀ c', n + n' ≤ c' → nw (.cells (us ++ vs ++ rep (c' - (n + n')) z).toArray e (0, 0)) H fun id H => K (some ⟨id, 0, none⟩) (n + n') c' H)) →
        ((n + n' ≤ c → wrS p (n * i.size) vs H fun H => K' p (n + n') c H) ∧
        (c < n + n' → Builtin.nextslicecap (n + n') c * i.bytes ≤ 281474976710656 ∧ 0 < i.bytes ∧ ∃ us : List Value, us.length = n * i.size ∧ H.rdS p us ∧
          ∀ c', n + n' ≤ c' → nw (.cells (us ++ vs ++ rep (c' - (n + n')) z).toArray e (0, 0)) H fun id H => K' (some ⟨id, 0, none⟩) (n + n') c' H)) := by
      intro n' vs h
      refine ⟨fun hc => wrS_mono (h.1 hc) fun H h => hk _ _ _ _ h, fun hc => ?_⟩
      obtain ⟨h1, h2, us, h3, h4, h5⟩ := h.2 hc
      exact ⟨h1, h2, us, h3, h4, fun c' hc' => nw_mono (h5 c' hc') fun _ _ h => hk _ _ _ _ h⟩
    split at h
    · obtain ⟨vs, h1, h2, h⟩ := h
      exact ⟨vs, h1, h2, go h⟩
    · exact ⟨h.1, go h.2⟩
    · exact h.elim
  · exact h.elim
theorem nxt_mono {K K' : Value → Heap → Prop} {E : Chain → Heap → Prop} (hk : ∀ v H, K v H → K' v H) (x : Next) (H : Heap) (h : nxt P K E x H) : nxt P K' E x H := by
  cases x <;> simp only [nxt] at h ⊢ <;> first | exact hk _ _ h | exact h.mono hk (fun _ _ h => h)
theorem vraw_mono {o : Oper} {ρ : Operand → Value} {K K' : Value → Heap → Prop} {E : Chain → Heap → Prop} {H : Heap} (h : vraw P o ρ K E H) (hk : ∀ v H, K v H → K' v H) :
    vraw P o ρ K' E H := vp_mono h (fun x H => nxt_mono hk x H) (fun _ _ h => h)

def stillB (P : Program) (o : Oper) : Bool := match o.op with
  | .move _ | .assign _ | .pick .. | .fieldAddr .. | .field .. | .indexAddr .. | .index .. | .slice .. | .nilCheck _ | .build .. | .extract .. | .makeInterface .. | .makeFunc .. | .unOp .. | .load .. => true
  | .binOp _ t _ _ _ => scalarB P t
  | .call c => match c.callee with
    | .builtin .len | .builtin .min | .builtin .max => true
    | _ => false
  | _ => false
def allocB (o : Oper) : Bool := match o.op with
  | .alloc _ | .box .. | .buildSlice .. | .makeSlice .. => true
  | _ => false
def loadB (o : Oper) : Bool := match o.op with
  | .load .. => true
  | _ => false
def loadBlk (ρ : Operand → Value) (o : Oper) : Nat → Prop := match o.op with
  | .load _ a => fun b => ∃ ad, ρ a = .pointer (some ad) ∧ b = ad.block
  | _ => none_

theorem vcOp_still {o : Oper} {ρ : Operand → Value} {K : Value → Heap → Prop} {E : Chain → Heap → Prop} {H : Heap} (ho : stillB P o = true) (h : vcOp P o ρ K E H) :
    ∃ v, K v H ∧ (∀ b, loadBlk ρ o b → H b ≠ none) ∧ ∀ (K' : Value → Heap → Prop) H', (∀ b, loadBlk ρ o b → H' b = H b) → K' v H' → vcOp P o ρ K' E H' := by
  obtain ⟨dst, op, type, pos, after, guard⟩ := o
  cases op <;> simp only [stillB, Bool.false_eq_true] at ho
  case move x => exact ⟨_, h, fun b hb => hb.elim, fun K' H' _ h => h⟩
  case assign x => exact ⟨_, h, fun b hb => hb.elim, fun K' H' _ h => h⟩
  case makeFunc f a b => exact ⟨_, h, fun b hb => hb.elim, fun K' H' _ h => h⟩
  case pick c a b => exact nPick_still _ _ _ K H h
  case build t ps => exact nBuild_still _ _ K H h
  case load t a => exact nLoad_still _ _ K H h
  case nilCheck x => exact nNilCheck_still _ K H h
  case binOp op t x y yt => exact nBin_still (raise E) ho K H h
  case unOp op t x => exact nUn_still _ _ K H h
  case makeInterface t x => exact nIface_still _ _ K H h
  case slice t x lo hi mx => exact nSlice_still _ _ _ _ _ K H h
  case fieldAddr s x f => exact nFieldAddr_still _ _ _ K H h
  case field t x f => exact nField_still _ _ _ K H h
  case indexAddr t x i => exact nIndexAddr_still _ _ _ K H h
  case index t x i => exact nIndex_still _ _ _ K H h
  case extract t i => exact nExtract_still _ _ K H h
  case call c =>
    obtain ⟨callee, args, ats⟩ := c
    cases callee <;> simp only [Bool.false_eq_true] at ho
    case builtin b =>
      cases b <;> simp only [Bool.false_eq_true] at ho
      case len =>
        simp only [vcOp] at h ⊢
        split at h
        · exact nLen_still _ _ K H h
        · exact h.elim
      case max =>
        simp only [vcOp] at h ⊢
        split at h
        · split at h
          · exact ⟨_, h, fun b hb => hb.elim, fun K' H' _ h => h⟩
          · exact h.elim
        · exact h.elim
      case min =>
        simp only [vcOp] at h ⊢
        split at h
        · split at h
          · exact ⟨_, h, fun b hb => hb.elim, fun K' H' _ h => h⟩
          · exact h.elim
        · exact h.elim
theorem ext_set {H : Heap} {id : Nat} {o : Obj} (hid : H id = none) : ∀ b, H b ≠ none → (H.set id o) b = H b := fun b hb =>
  Heap.set_ne _ _ (fun e => hb (e ▸ hid))
theorem vcOp_alloc {o : Oper} {ρ : Operand → Value} {K : Value → Heap → Prop} {E : Chain → Heap → Prop} {H : Heap} (ho : allocB o = true) (h : vcOp P o ρ K E H) :
    vcOp P o ρ (fun v H' => (∀ b, H b ≠ none → H' b = H b) ∧ K v H') E H := by
  obtain ⟨dst, op, type, pos, after, guard⟩ := o
  cases op <;> simp only [allocB, Bool.false_eq_true] at ho
  case alloc e => exact nAlloc_mono (K' := fun v H' => (∀ b, H b ≠ none → H' b = H b) ∧ K v H') h fun v id o hid h => ⟨ext_set hid, h⟩
  case box e x => exact fun id hid => ⟨ext_set hid, h id hid⟩
  case buildSlice t n ps =>
    simp only [vcOp] at h ⊢
    exact nBuildSlice_mono (K' := fun v H' => (∀ b, H b ≠ none → H' b = H b) ∧ K v H') h fun v id o hid h => ⟨ext_set hid, h⟩
  case makeSlice t l c => exact nMake_mono (K' := fun v H' => (∀ b, H b ≠ none → H' b = H b) ∧ K v H') h fun v id o hid h => ⟨ext_set hid, h⟩
theorem vcOp_mono {o : Oper} {ρ : Operand → Value} {K K' : Value → Heap → Prop} {E : Chain → Heap → Prop} {H : Heap} (h : vcOp P o ρ K E H) (hk : ∀ v H, K v H → K' v H) :
    vcOp P o ρ K' E H := by
  by_cases hs : stillB P o = true
  · obtain ⟨v, h1, h2, h3⟩ := vcOp_still hs h
    exact h3 _ _ (fun _ _ => rfl) (hk _ _ h1)
  obtain ⟨dst, op, type, pos, after, guard⟩ := o
  cases op <;> simp only [stillB, not_true_eq_false] at hs
  case alloc e => exact nAlloc_mono h fun v id o hid h => hk _ _ h
  case box e x => exact nw_mono h fun _ _ h => hk _ _ h
  case buildSlice t n ps =>
    simp only [vcOp] at h ⊢
    exact nBuildSlice_mono h fun v id o hid h => hk _ _ h
  case makeSlice t l c => exact nMake_mono h fun v id o hid h => hk _ _ h
  case store t a x => exact nStore_mono h hk
  case convert s d x => exact nConv_mono h hk
  case binOp op t x y yt =>
    simp only [vcOp, nBin] at h ⊢
    split at h
    · exact ⟨h.1, hk _ _ h.2⟩
    · exact hk _ _ h
    · refine tyD_mono h fun d h => ?_
      split at h
      · exact h.elim
      · split at h
        · split at h
          · split at h
            · exact hk _ _ h
            · exact h.elim
          · split at h
            · exact hk _ _ h
            · exact h.elim
          · exact h.elim
        · exact vp_mono h hk (fun _ _ h => h)
  case call c =>
    simp only [vcOp] at h ⊢
    split at h
    · unfold nCall callV at *
      split at h
      · exact h.mono (fun v H h => tyRes_mono h fun v h => hk v H h) (fun _ _ h => h)
      · exact h.elim
    · unfold nApp at *
      split at h
      · refine tyD_mono h fun d h => ?_
        split at h
        · exact h.elim
        · exact app_mono h fun p n c H h => hk _ _ h
      · exact h.elim
    · exact nClear_mono h hk
    · rename_i hc; exact (hs (by simp only [hc])).elim
    · rename_i hc; exact (hs (by simp only [hc])).elim
    · rename_i hc; exact (hs (by simp only [hc])).elim
    · exact vraw_mono h hk
  all_goals exact vraw_mono h hk

theorem vcOp_congr {o : Oper} {ρ ρ' : Operand → Value} {K : Value → Heap → Prop} {E : Chain → Heap → Prop} {H : Heap} (hs : ∀ cs b, o.op ≠ .select cs b)
    (h : ∀ x ∈ o.op.operands, ρ x = ρ' x) : vcOp P o ρ K E H = vcOp P o ρ' K E H := by
  have hraw : vraw P o ρ K E H = vraw P o ρ' K E H := by unfold vraw; rw [execOp_congr o hs h]
  obtain ⟨dst, op, type, pos, after, guard⟩ := o
  have pairs : ∀ ps : Array (Nat × Operand), (∀ x ∈ ps.toList.map (·.2), ρ x = ρ' x) →
      (ps.toList.map fun p => (p.1, ρ p.2)) = (ps.toList.map fun p => (p.1, ρ' p.2)) := fun ps hp =>
    List.map_congr_left fun p hm => by rw [hp p.2 (List.mem_map.2 ⟨p, hm, rfl⟩)]
  cases op <;> simp only [Op.operands] at h <;> simp only [vcOp]
  case build t ps => rw [pairs ps fun x hx => h x (by simpa using hx)]
  case buildSlice t n ps => rw [pairs ps fun x hx => h x (by simpa using hx)]
  case makeFunc fn first captured =>
    rw [List.map_congr_left (l := first.toList) fun x hx => h x (by simp; exact .inl (by simpa using hx)), List.map_congr_left (l := captured.toList) fun x hx => h x (by simp; exact .inr (by simpa using hx))]
  case slice t x lo hi mx => cases lo <;> cases hi <;> cases mx <;> simp_all
  case call c =>
    have ha : c.args.toList.map ρ = c.args.toList.map ρ' := List.map_congr_left fun x hx => h x (by
      simp only [Call.operands]; exact Array.mem_append.2 (.inr (by simpa using hx)))
    rw [ha]
    split
    · rename_i f hf
      rw [h f (by simp [Call.operands, hf])]
    all_goals first | rfl | exact hraw
  all_goals first | rfl | exact hraw | (simp_all; done)
end Go.V
