/- A region that draws its order: one order is enough (3): the order does not matter. -/
import Derived.Test.YtaffcoiomggpfaaVDraw2
namespace Go.V
set_option linter.constructorNameAsVariable false
set_option linter.unusedVariables false

section
variable (P : Program)
def loadZ (Z : Nat → Prop) (ρ : Operand → Value) (o : Oper) : Prop := match o.op with
  | .load _ a => match ρ a with
    | .pointer p => ptr p fun ad => Z ad.block
    | _ => False
  | _ => True
/-- One operation; where it is marked: a load reads a block of Z, whatever else leaves Z alone. -/
def dstep (ops : Array Oper) (fl : Bool) (Z : Nat → Prop) (o : Oper) (τ : Tau) (K : Tau → Heap → Prop) (E : Chain → Heap → Prop) (H : Heap) : Prop :=
  vcGuard ops o τ fun w τ => match w with
    | true => match fl with
      | false => vcOp P o (ev τ) (fun v H => K (τ.put o.dst v) H) E H
      | true => match loadB o with
        | true => loadZ Z (ev τ) o ∧ vcOp P o (ev τ) (fun v H => K (τ.put o.dst v) H) E H
        | false => vcOp P o (ev τ) (fun v H' => (∀ z, Z z → H' z = H z) ∧ K (τ.put o.dst v) H') E H
    | false => K (τ.put o.dst undef) H
def vcDraw (ops : Array Oper) (fl : Nat → Bool) (Z : Nat → Prop) : List Nat → Tau → (Tau → Heap → Prop) → (Chain → Heap → Prop) → Heap → Prop
  | [], τ, K, _, H => K τ H
  | i :: l, τ, K, E, H => match ops[i]? with
    | none => vcDraw ops fl Z l τ K E H
    | some o => dstep P ops (fl i) Z o τ (fun τ H => vcDraw ops fl Z l τ K E H) E H
end
variable {P : Program}

def wantT (ops : Array Oper) (o : Oper) (τ : Tau) : Bool := match o.guard with
  | none => true
  | some (j, want) => match (ops[j]?).bind (·.dst) with
    | none => false
    | some t => match τ t with
      | .bool b => b == want
      | _ => false
theorem vcGuard_iff {ops : Array Oper} {o : Oper} {τ : Tau} {K : Bool → Tau → Prop} : vcGuard ops o τ K ↔ K (wantT ops o τ) τ := by
  obtain ⟨dst, op, type, pos, after, guard⟩ := o
  unfold vcGuard wantT
  cases guard with
  | none => exact Iff.rfl
  | some jw =>
    obtain ⟨j, want⟩ := jw
    dsimp only
    generalize (ops[j]?).bind (·.dst) = od
    cases od with
    | none => exact Iff.rfl
    | some t =>
      dsimp only
      cases hv : τ t <;> try exact Iff.rfl
      rename_i b
      cases b
      · simp only [sel]; rw [Tau.upd_eq τ hv]; cases want <;> exact Iff.rfl
      · simp only [sel]; rw [Tau.upd_eq τ hv]; cases want <;> exact Iff.rfl
theorem Tau.put_ne {τ : Tau} {d : Option Nat} {v : Value} {t : Nat} (h : ∀ e, d = some e → e ≠ t) : (τ.put d v) t = τ t := by
  cases d with
  | none => rfl
  | some e =>
    simp only [Tau.put, Tau.upd]
    have : Nat.beq t e = false := by
      cases hb : Nat.beq t e
      · rfl
      · exact absurd (Nat.eq_of_beq_eq_true hb).symm (h e rfl)
    rw [this]; rfl
theorem Tau.put_comm {τ : Tau} {x y : Option Nat} {v u : Value} (h : ∀ d, x = some d → y ≠ some d) : (τ.put x v).put y u = (τ.put y u).put x v := by
  cases x with
  | none => rfl
  | some d => cases y with
    | none => rfl
    | some e =>
      have hne : d ≠ e := fun he => h d rfl (he ▸ rfl)
      funext t
      simp only [Tau.put, Tau.upd]
      cases h1 : Nat.beq t e <;> cases h2 : Nat.beq t d <;> try rfl
      exact absurd ((Nat.eq_of_beq_eq_true h2).symm.trans (Nat.eq_of_beq_eq_true h1)) hne
theorem wantT_put {ops : Array Oper} {o : Oper} {τ : Tau} {d : Option Nat} {v : Value} (h : ∀ e, d = some e → e ∉ o.looksAt ops) : wantT ops o (τ.put d v) = wantT ops o τ := by
  unfold wantT
  cases hg : o.guard with
  | none => rfl
  | some jw =>
    obtain ⟨j, want⟩ := jw
    simp only []
    cases ht : (ops[j]?).bind (·.dst) with
    | none => rfl
    | some t =>
      simp only []
      rw [Tau.put_ne fun e he het => h e he (by subst het; simp [Oper.looksAt, hg, ht])]
theorem ev_put {ops : Array Oper} {o : Oper} {τ : Tau} {d : Option Nat} {v : Value} (h : ∀ e, d = some e → e ∉ o.looksAt ops) : ∀ x ∈ o.op.operands, ev (τ.put d v) x = ev τ x := by
  intro x hx
  cases x with
  | tmp t => exact Tau.put_ne fun e he het => h e he (by
      subst het; exact List.mem_append_left _ (List.mem_filterMap.2 ⟨.tmp e, by simpa using hx, rfl⟩))
  | _ => rfl
theorem vcOp_put {ops : Array Oper} {o : Oper} {τ : Tau} {d : Option Nat} {v : Value} {K : Value → Heap → Prop} {E : Chain → Heap → Prop} {H : Heap} (hs : ∀ cs b, o.op ≠ .select cs b)
    (h : ∀ e, d = some e → e ∉ o.looksAt ops) : vcOp P o (ev (τ.put d v)) K E H = vcOp P o (ev τ) K E H := vcOp_congr hs (ev_put h)
theorem loadBlk_put {ops : Array Oper} {o : Oper} {τ : Tau} {d : Option Nat} {v : Value} (h : ∀ e, d = some e → e ∉ o.looksAt ops) : loadBlk (ev (τ.put d v)) o = loadBlk (ev τ) o := by
  have := ev_put (v := v) (τ := τ) h
  obtain ⟨dst, op, type, pos, after, guard⟩ := o
  cases op <;> first | rfl | skip
  case load t a => simp only [loadBlk]; rw [this a (by simp [Op.operands])]
theorem loadZ_put {ops : Array Oper} {Z : Nat → Prop} {o : Oper} {τ : Tau} {d : Option Nat} {v : Value} (h : ∀ e, d = some e → e ∉ o.looksAt ops) : loadZ Z (ev (τ.put d v)) o = loadZ Z (ev τ) o := by
  have := ev_put (v := v) (τ := τ) h
  obtain ⟨dst, op, type, pos, after, guard⟩ := o
  cases op <;> first | rfl | skip
  case load t a => simp only [loadZ]; rw [this a (by simp [Op.operands])]
theorem loadZ_blk {Z : Nat → Prop} {ρ : Operand → Value} {o : Oper} (h : loadZ Z ρ o) : ∀ b, loadBlk ρ o b → Z b := by
  intro b hb
  obtain ⟨dst, op, type, pos, after, guard⟩ := o
  cases op <;> first | exact hb.elim | skip
  case load t a =>
    obtain ⟨ad, h1, rfl⟩ := hb
    simp only [loadZ, h1] at h
    exact h
theorem loadBlk_none {ρ : Operand → Value} {o : Oper} (h : loadB o = false) : ∀ b, ¬ loadBlk ρ o b := by
  intro b hb
  obtain ⟨dst, op, type, pos, after, guard⟩ := o
  cases op <;> first | exact hb.elim | cases h

theorem dstep_mono {ops : Array Oper} {fl : Bool} {Z : Nat → Prop} {o : Oper} {τ : Tau} {K K' : Tau → Heap → Prop} {E : Chain → Heap → Prop} {H : Heap}
    (h : dstep P ops fl Z o τ K E H) (hk : ∀ τ H, K τ H → K' τ H) : dstep P ops fl Z o τ K' E H := by
  unfold dstep at *
  rw [vcGuard_iff] at *
  split at h
  · cases fl <;> simp only [] at h ⊢
    · exact vcOp_mono h fun v H h => hk _ _ h
    · cases hl : loadB o <;> simp only [hl] at h ⊢
      · exact vcOp_mono h fun v H h => ⟨h.1, hk _ _ h.2⟩
      · exact ⟨h.1, vcOp_mono h.2 fun v H h => hk _ _ h⟩
  · exact hk _ _ h
theorem dstep_plain {ops : Array Oper} {fl : Bool} {Z : Nat → Prop} {o : Oper} {τ : Tau} {K : Tau → Heap → Prop} {E : Chain → Heap → Prop} {H : Heap}
    (h : dstep P ops fl Z o τ K E H) : vcStep P ops o τ K E H := by
  unfold dstep at h
  unfold vcStep
  rw [vcGuard_iff] at *
  cases hw : wantT ops o τ <;> simp only [hw] at h ⊢
  case true =>
    cases fl <;> simp only [] at h
    · exact h
    · cases hl : loadB o <;> simp only [hl] at h
      · exact vcOp_mono h fun v H h => h.2
      · exact h.2
  case false => exact h
/-- What is known of the heap behind an operation. -/
def Sx (P : Program) (o : Oper) (fl : Bool) (Z : Nat → Prop) (H H₁ : Heap) : Prop :=
  (stillB P o = true → H₁ = H) ∧ (allocB o = true → ∀ b, H b ≠ none → H₁ b = H b) ∧ (fl = true → loadB o = false → ∀ z, Z z → H₁ z = H z)
theorem alloc_not_still {o : Oper} (h : allocB o = true) : stillB P o = false := by
  obtain ⟨dst, op, type, pos, after, guard⟩ := o
  cases op <;> first | rfl | cases h
theorem vcOp_more {o : Oper} {ρ : Operand → Value} {K : Value → Heap → Prop} {E : Chain → Heap → Prop} {H : Heap} (h : vcOp P o ρ K E H) :
    vcOp P o ρ (fun v H' => (stillB P o = true → H' = H) ∧ (allocB o = true → ∀ b, H b ≠ none → H' b = H b) ∧ K v H') E H := by
  by_cases h1 : stillB P o = true
  · obtain ⟨v, h2, h3, h4⟩ := vcOp_still h1 h
    refine h4 _ _ (fun _ _ => rfl) ⟨fun _ => rfl, fun ha => ?_, h2⟩
    rw [alloc_not_still ha] at h1; cases h1
  · by_cases h2 : allocB o = true
    · exact vcOp_mono (vcOp_alloc h2 h) fun v H' h => ⟨fun h' => absurd h' h1, fun _ => h.1, h.2⟩
    · exact vcOp_mono h fun v H' h => ⟨fun h' => absurd h' h1, fun h' => absurd h' h2, h⟩
theorem vcDraw_mono {ops : Array Oper} {fl : Nat → Bool} {Z : Nat → Prop} {E : Chain → Heap → Prop} {K K' : Tau → Heap → Prop} (hk : ∀ τ H, K τ H → K' τ H) :
    ∀ (A : List Nat) (τ : Tau) (H : Heap), vcDraw P ops fl Z A τ K E H → vcDraw P ops fl Z A τ K' E H
  | [], τ, H, h => hk _ _ h
  | i :: A, τ, H, h => by
    unfold vcDraw at *
    split at h
    · exact vcDraw_mono hk A τ H h
    · exact dstep_mono h fun τ H h => vcDraw_mono hk A τ H h
theorem vcDraw_append {ops : Array Oper} {fl : Nat → Bool} {Z : Nat → Prop} {E : Chain → Heap → Prop} {K : Tau → Heap → Prop} :
    ∀ (A B : List Nat) (τ : Tau) (H : Heap), vcDraw P ops fl Z (A ++ B) τ K E H ↔ vcDraw P ops fl Z A τ (fun τ H => vcDraw P ops fl Z B τ K E H) E H
  | [], B, τ, H => Iff.rfl
  | i :: A, B, τ, H => by
    simp only [List.cons_append, vcDraw]
    cases hi : ops[i]? with
    | none => exact vcDraw_append A B τ H
    | some o =>
      exact ⟨fun h => dstep_mono h fun τ H h => (vcDraw_append A B τ H).1 h, fun h => dstep_mono h fun τ H h => (vcDraw_append A B τ H).2 h⟩

/-! ### The same, with what acts taken as the model has it -/
def bot : Chain → Heap → Prop := fun _ _ => False
def calmB (P : Program) (o : Oper) : Bool := stillB P o || allocB o
def sem (P : Program) (o : Oper) (ρ : Operand → Value) (K : Value → Heap → Prop) (H : Heap) : Prop := match calmB P o with
  | true => vcOp P o ρ K bot H
  | false => vraw P o ρ K bot H
theorem sem_of {o : Oper} {ρ : Operand → Value} {K : Value → Heap → Prop} {H : Heap} (h : vcOp P o ρ K bot H) : sem P o ρ K H := by
  unfold sem
  split
  · exact h
  · exact vcOp_raw h
theorem sem_raw {o : Oper} {ρ : Operand → Value} {K : Value → Heap → Prop} {H : Heap} (h : sem P o ρ K H) : vraw P o ρ K bot H := by
  unfold sem at h
  split at h
  · exact vcOp_raw h
  · exact h
theorem sem_mono {o : Oper} {ρ : Operand → Value} {K K' : Value → Heap → Prop} {H : Heap} (h : sem P o ρ K H) (hk : ∀ v H, K v H → K' v H) : sem P o ρ K' H := by
  unfold sem at *
  split at h
  · exact vcOp_mono h hk
  · exact vraw_mono h hk
theorem sem_still {o : Oper} {ρ : Operand → Value} {K : Value → Heap → Prop} {H : Heap} (ho : stillB P o = true) : sem P o ρ K H = vcOp P o ρ K bot H := by
  simp [sem, calmB, ho]
theorem sem_alloc {o : Oper} {ρ : Operand → Value} {K : Value → Heap → Prop} {H : Heap} (ho : allocB o = true) : sem P o ρ K H = vcOp P o ρ K bot H := by
  simp [sem, calmB, ho]
theorem sem_put {ops : Array Oper} {o : Oper} {τ : Tau} {d : Option Nat} {v : Value} {K : Value → Heap → Prop} {H : Heap} (hs : ∀ cs b, o.op ≠ .select cs b)
    (h : ∀ e, d = some e → e ∉ o.looksAt ops) : sem P o (ev (τ.put d v)) K H = sem P o (ev τ) K H := by
  unfold sem
  rw [vcOp_put hs h]
  have : vraw P o (ev (τ.put d v)) K bot H = vraw P o (ev τ) K bot H := by unfold vraw; rw [execOp_congr o hs (ev_put h)]
  rw [this]
theorem sem_more {o : Oper} {ρ : Operand → Value} {K : Value → Heap → Prop} {H : Heap} (h : sem P o ρ K H) :
    sem P o ρ (fun v H' => (stillB P o = true → H' = H) ∧ (allocB o = true → ∀ b, H b ≠ none → H' b = H b) ∧ K v H') H := by
  unfold sem at *
  cases hc : calmB P o <;> simp only [hc] at h ⊢
  · simp only [calmB, Bool.or_eq_false_iff] at hc
    exact vraw_mono h fun v H' h => ⟨fun h' => by simp [hc.1] at h', fun h' => by simp [hc.2] at h', h⟩
  · exact vcOp_more h
def rstep (P : Program) (ops : Array Oper) (fl : Bool) (Z : Nat → Prop) (o : Oper) (τ : Tau) (K : Tau → Heap → Prop) (H : Heap) : Prop :=
  vcGuard ops o τ fun w τ => match w with
    | true => match fl with
      | false => sem P o (ev τ) (fun v H => K (τ.put o.dst v) H) H
      | true => match loadB o with
        | true => loadZ Z (ev τ) o ∧ sem P o (ev τ) (fun v H => K (τ.put o.dst v) H) H
        | false => sem P o (ev τ) (fun v H' => (∀ z, Z z → H' z = H z) ∧ K (τ.put o.dst v) H') H
    | false => K (τ.put o.dst undef) H
def rDraw (P : Program) (ops : Array Oper) (fl : Nat → Bool) (Z : Nat → Prop) : List Nat → Tau → (Tau → Heap → Prop) → Heap → Prop
  | [], τ, K, H => K τ H
  | i :: l, τ, K, H => match ops[i]? with
    | none => rDraw P ops fl Z l τ K H
    | some o => rstep P ops (fl i) Z o τ (fun τ H => rDraw P ops fl Z l τ K H) H
theorem rstep_mono {ops : Array Oper} {fl : Bool} {Z : Nat → Prop} {o : Oper} {τ : Tau} {K K' : Tau → Heap → Prop} {H : Heap}
    (h : rstep P ops fl Z o τ K H) (hk : ∀ τ H, K τ H → K' τ H) : rstep P ops fl Z o τ K' H := by
  unfold rstep at *
  rw [vcGuard_iff] at *
  split at h
  · cases fl <;> simp only [] at h ⊢
    · exact sem_mono h fun v H h => hk _ _ h
    · cases hl : loadB o <;> simp only [hl] at h ⊢
      · exact sem_mono h fun v H h => ⟨h.1, hk _ _ h.2⟩
      · exact ⟨h.1, sem_mono h.2 fun v H h => hk _ _ h⟩
  · exact hk _ _ h
theorem rstep_of {ops : Array Oper} {fl : Bool} {Z : Nat → Prop} {o : Oper} {τ : Tau} {K : Tau → Heap → Prop} {H : Heap} (h : dstep P ops fl Z o τ K bot H) : rstep P ops fl Z o τ K H := by
  unfold dstep at h
  unfold rstep
  rw [vcGuard_iff] at *
  split at h
  · cases fl <;> simp only [] at h ⊢
    · exact sem_of h
    · cases hl : loadB o <;> simp only [hl] at h ⊢
      · exact sem_of h
      · exact ⟨h.1, sem_of h.2⟩
  · exact h
theorem rDraw_of {ops : Array Oper} {fl : Nat → Bool} {Z : Nat → Prop} {K : Tau → Heap → Prop} : ∀ (l : List Nat) (τ : Tau) (H : Heap), vcDraw P ops fl Z l τ K bot H → rDraw P ops fl Z l τ K H
  | [], τ, H, h => h
  | i :: l, τ, H, h => by
    unfold vcDraw at h
    unfold rDraw
    split at h
    · exact rDraw_of l τ H h
    · exact rstep_of (dstep_mono h fun τ H h => rDraw_of l τ H h)
theorem rstep_raw {ops : Array Oper} {fl : Bool} {Z : Nat → Prop} {o : Oper} {τ : Tau} {K : Tau → Heap → Prop} {H : Heap}
    (h : rstep P ops fl Z o τ K H) : rawStep P ops o τ K bot H := by
  unfold rstep at h
  unfold rawStep
  rw [vcGuard_iff] at *
  cases hw : wantT ops o τ <;> simp only [hw] at h ⊢
  case true =>
    cases fl <;> simp only [] at h
    · exact sem_raw h
    · cases hl : loadB o <;> simp only [hl] at h
      · exact vraw_mono (sem_raw h) fun v H h => h.2
      · exact sem_raw h.2
  case false => exact h
theorem xstep {ops : Array Oper} {fl : Bool} {Z : Nat → Prop} {o : Oper} {τ : Tau} {yd : Option Nat} {u : Value} {B : Tau → Heap → Prop} {H : Heap}
    (hs : ∀ cs b, o.op ≠ .select cs b) (h1 : ∀ e, yd = some e → e ∉ o.looksAt ops) (h2 : ∀ e, yd = some e → o.dst ≠ some e) (h : rstep P ops fl Z o (τ.put yd u) B H) :
    rstep P ops fl Z o τ (fun τ₁ H₁ => (∃ w, τ₁ = τ.put o.dst w) ∧ (wantT ops o τ = true → Sx P o fl Z H H₁) ∧ (wantT ops o τ = false → H₁ = H) ∧ B (τ₁.put yd u) H₁) H := by
  unfold rstep at *
  rw [vcGuard_iff] at *
  rw [wantT_put h1] at h
  split at h
  · rename_i hw
    simp only [hw] at h ⊢
    cases fl <;> simp only [] at h ⊢
    · rw [sem_put hs h1] at h
      refine sem_mono (sem_more h) fun w H' h => ⟨⟨w, rfl⟩, fun _ => ⟨h.1, h.2.1, fun hf => by cases hf⟩, fun hf => by simp at hf, ?_⟩
      rw [← Tau.put_comm h2]; exact h.2.2
    · cases hl : loadB o <;> simp only [hl] at h ⊢
      · rw [sem_put hs h1] at h
        refine sem_mono (sem_more h) fun w H' h => ⟨h.2.2.1, ⟨w, rfl⟩, fun _ => ⟨h.1, h.2.1, fun _ _ => h.2.2.1⟩, fun hf => by simp at hf, ?_⟩
        rw [← Tau.put_comm h2]; exact h.2.2.2
      · rw [sem_put hs h1, loadZ_put h1] at h
        refine ⟨h.1, sem_mono (sem_more h.2) fun w H' h => ⟨⟨w, rfl⟩, fun _ => ⟨h.1, h.2.1, fun _ hf => by simp [hl] at hf⟩, fun hf => by simp at hf, ?_⟩⟩
        rw [← Tau.put_comm h2]; exact h.2.2
  · rename_i hw
    simp only [hw] at h ⊢
    refine ⟨⟨undef, rfl⟩, fun hf => by simp at hf, by simp, ?_⟩
    rw [← Tau.put_comm h2]; exact h

theorem swap {ops : Array Oper} {fx fy : Bool} {Z : Nat → Prop} {oy ox : Oper} {τ : Tau} {B : Tau → Heap → Prop} {H : Heap}
    (hsy : ∀ cs b, oy.op ≠ .select cs b) (hsx : ∀ cs b, ox.op ≠ .select cs b) (hap : oy.apart ops ox = true) (sy : stillB P oy = true)
    (hfl : loadB oy = true → stillB P ox = true ∨ allocB ox = true ∨ (fy = true ∧ fx = true ∧ loadB ox = false))
    (h : rstep P ops fy Z oy τ (fun τ H => rstep P ops fx Z ox τ B H) H) : rstep P ops fx Z ox τ (fun τ H => rstep P ops fy Z oy τ B H) H := by
  obtain ⟨p1, p2, p3⟩ := Oper.apart_spec hap
  -- y's value, and how it is had again behind x
  have hy : ∃ u, rstep P ops fx Z ox (τ.put oy.dst u) B H ∧ ∀ w H₁, (wantT ops ox τ = true → Sx P ox fx Z H H₁) → (wantT ops ox τ = false → H₁ = H) →
      B ((τ.put ox.dst w).put oy.dst u) H₁ → rstep P ops fy Z oy (τ.put ox.dst w) B H₁ := by
    unfold rstep at h
    rw [vcGuard_iff] at h
    have hblk : ∀ {v : Value} {H₁ : Heap} {K : Value → Heap → Prop}, (wantT ops ox τ = true → Sx P ox fx Z H H₁) → (wantT ops ox τ = false → H₁ = H) →
        (∀ b, loadBlk (ev τ) oy b → H b ≠ none) → (fy = true → ∀ b, loadBlk (ev τ) oy b → Z b) → ∀ b, loadBlk (ev τ) oy b → H₁ b = H b := by
      intro v H₁ K h1 h2 h3 h4 b hb
      cases hw : wantT ops ox τ
      · rw [h2 hw]
      · obtain ⟨s1, s2, s3⟩ := h1 hw
        cases hl : loadB oy
        · exact absurd hb (loadBlk_none hl b)
        · rcases hfl hl with h5 | h5 | ⟨h5, h6, h7⟩
          · rw [s1 h5]
          · exact s2 h5 b (h3 b hb)
          · exact s3 h6 h7 b (h4 h5 b hb)
    cases hwy : wantT ops oy τ <;> simp only [hwy] at h
    · refine ⟨undef, h, fun w H₁ _ _ hB => ?_⟩
      unfold rstep
      rw [vcGuard_iff, wantT_put p3, hwy]
      exact hB
    · cases hfy : fy <;> simp only [hfy] at h
      · rw [sem_still sy] at h
        obtain ⟨v, h1, h2, h3⟩ := vcOp_still sy h
        refine ⟨v, h1, fun w H₁ hs1 hs2 hB => ?_⟩
        unfold rstep
        rw [vcGuard_iff, wantT_put p3, hwy]
        simp only []
        rw [sem_put hsy p3, sem_still sy]
        exact h3 _ _ (hblk (v := v) (K := fun _ _ => True) hs1 hs2 h2 (by simp [hfy])) hB
      · cases hl : loadB oy <;> simp only [hl] at h
        · rw [sem_still sy] at h
          obtain ⟨v, h1, h2, h3⟩ := vcOp_still sy h
          refine ⟨v, h1.2, fun w H₁ hs1 hs2 hB => ?_⟩
          unfold rstep
          rw [vcGuard_iff, wantT_put p3, hwy]
          simp only [hl]
          rw [sem_put hsy p3, sem_still sy]
          obtain ⟨v', h1', h2', h3'⟩ := vcOp_still (K := fun v' H' => v' = v ∧ H' = H) sy (h3 (fun v' H' => v' = v ∧ H' = H) H (fun _ _ => rfl) ⟨rfl, rfl⟩)
          exact h3 _ _ (fun b hb => absurd hb (loadBlk_none hl b)) ⟨fun _ _ => rfl, hB⟩
        · rw [sem_still sy] at h
          obtain ⟨v, h1, h2, h3⟩ := vcOp_still sy h.2
          refine ⟨v, h1, fun w H₁ hs1 hs2 hB => ?_⟩
          unfold rstep
          rw [vcGuard_iff, wantT_put p3, hwy]
          simp only [hl]
          rw [sem_put hsy p3, loadZ_put p3, sem_still sy]
          exact ⟨h.1, h3 _ _ (hblk (v := v) (K := fun _ _ => True) hs1 hs2 h2 (fun _ => loadZ_blk h.1)) hB⟩
  obtain ⟨u, hx, hagain⟩ := hy
  refine rstep_mono (xstep hsx p1 (fun e he hx => p2 e he hx) hx) fun τ₁ H₁ h => ?_
  obtain ⟨⟨w, rfl⟩, h1, h2, h3⟩ := h
  exact hagain w H₁ h1 h2 h3

end Go.V
