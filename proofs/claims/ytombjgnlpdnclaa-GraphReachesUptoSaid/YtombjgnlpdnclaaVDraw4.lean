import Derived.Test.YtombjgnlpdnclaaVDraw3
/- A region that draws its order: one order is enough (3b): an allocation may go before what acts. -/
namespace Go.V
set_option linter.constructorNameAsVariable false
set_option linter.unusedVariables false
set_option linter.unusedSimpArgs false
variable {P : Program}

/-! ### Views of finitely many blocks -/
def Fin_ (H : Heap) : Prop := ∃ N, ∀ i, N ≤ i → H i = none
theorem Sub.fin {H : Heap} {w : World} (h : Sub H w) : Fin_ H := ⟨w.heap.size, fun i hi => by
  cases hh : H i with
  | none => rfl
  | some o => exact absurd (h.lt hh) (by omega)⟩
theorem Fin_.set {H : Heap} (h : Fin_ H) (i : Nat) (o : Obj) : Fin_ (H.set i o) := by
  obtain ⟨N, h⟩ := h
  refine ⟨max N (i + 1), fun j hj => ?_⟩
  rw [Heap.set_ne _ _ (by omega)]
  exact h j (by omega)
theorem Fin_.free {H : Heap} (h : Fin_ H) : ∃ i, H i = none := by
  obtain ⟨N, h⟩ := h; exact ⟨N, h N (Nat.le_refl _)⟩
theorem Fin_.world {H : Heap} (h : Fin_ H) : ∃ w, Sub H w := by
  obtain ⟨N, h⟩ := h
  refine ⟨{ heap := Array.ofFn (n := N) fun i => (H i).getD (.cells #[] 0 (0, 0)), tape := fun _ _ => 0, drawn := 0, os := default, output := #[] }, fun i o hi => ?_⟩
  have hN : i < N := by
    by_cases hlt : i < N
    · exact hlt
    · rw [h i (by omega)] at hi; cases hi
  simp [hN, hi]

theorem vp_fin {α : Type} {s : Sem α} : ∀ {Q : α → Heap → Prop} {E : Value → Heap → Prop} {H : Heap}, Fin_ H → vp P s Q E H → vp P s (fun a H' => Fin_ H' ∧ Q a H') E H := by
  induction s with
  | pure a => intro Q E H hf h; exact ⟨hf, h⟩
  | load m a k ih => intro Q E H hf h; simp only [vp] at h ⊢; split at h <;> first | exact h.elim | exact ih _ hf h
  | store m a v k ih =>
    intro Q E H hf h
    simp only [vp] at h ⊢
    refine ⟨h.1, h.2.1, ?_⟩
    have h := h.2.2
    split at h
    · exact ⟨h.1, h.2.1, ih (hf.set _ _) h.2.2⟩
    · exact h.elim
  | new o k ih => intro Q E H hf h; simp only [vp] at h ⊢; exact fun id hid => ih _ (hf.set _ _) (h id hid)
  | shape r k ih => intro Q E H hf h; simp only [vp] at h ⊢; split at h <;> first | exact h.elim | exact ih _ hf h
  | freeze a n k ih =>
    intro Q E H hf h
    simp only [vp] at h ⊢
    split at h
    · refine ih ?_ h
      split
      · exact hf
      · exact hf.set _ _
    · exact h.elim
  | frozen a k ih => intro Q E H hf h; simp only [vp] at h ⊢; split at h <;> first | exact h.elim | exact ih _ hf h
  | getObj r k ih => intro Q E H hf h; simp only [vp] at h ⊢; split at h <;> first | exact h.elim | exact ih _ hf h
  | setObj r o k ih => intro Q E H hf h; simp only [vp] at h ⊢; split at h <;> first | exact h.elim | exact ih (hf.set _ _) h
  | choose q k ih =>
    intro Q E H hf h
    simp only [vp] at h ⊢
    split
    · rename_i hq; simp only [hq, if_true] at h; exact ih _ hf h
    · rename_i hq; simp only [hq, Bool.false_eq_true, if_false] at h; exact fun t => ih _ hf (h t)
  | sys c k ih => intro Q E H hf h; exact h.elim
  | program k ih => intro Q E H hf h; simp only [vp] at h ⊢; exact ih _ hf h
  | mark m k ih => intro Q E H hf h; simp only [vp] at h ⊢; exact ih hf h
  | halt x => intro Q E H hf h; cases x <;> first | exact h.elim | exact h
theorem vp_out {α : Type} {s : Sem α} : ∀ {Q : α → Heap → Prop} {E : Value → Heap → Prop} {H : Heap}, Fin_ H → (∀ v H, ¬ E v H) → vp P s Q E H → ∃ a H', Q a H' := by
  induction s with
  | pure a => intro Q E H hf he h; exact ⟨_, _, h⟩
  | load m a k ih => intro Q E H hf he h; simp only [vp] at h; split at h <;> first | exact h.elim | exact ih _ hf he h
  | store m a v k ih =>
    intro Q E H hf he h
    simp only [vp] at h
    have h := h.2.2
    split at h
    · exact ih (hf.set _ _) he h.2.2
    · exact h.elim
  | new o k ih => intro Q E H hf he h; simp only [vp] at h; obtain ⟨i, hi⟩ := hf.free; exact ih _ (hf.set _ _) he (h i hi)
  | shape r k ih => intro Q E H hf he h; simp only [vp] at h; split at h <;> first | exact h.elim | exact ih _ hf he h
  | freeze a n k ih =>
    intro Q E H hf he h
    simp only [vp] at h
    split at h
    · refine ih ?_ he h
      split
      · exact hf
      · exact hf.set _ _
    · exact h.elim
  | frozen a k ih => intro Q E H hf he h; simp only [vp] at h; split at h <;> first | exact h.elim | exact ih _ hf he h
  | getObj r k ih => intro Q E H hf he h; simp only [vp] at h; split at h <;> first | exact h.elim | exact ih _ hf he h
  | setObj r o k ih => intro Q E H hf he h; simp only [vp] at h; split at h <;> first | exact h.elim | exact ih (hf.set _ _) he h
  | choose q k ih =>
    intro Q E H hf he h
    simp only [vp] at h
    split at h
    · exact ih _ hf he h
    · exact ih _ hf he (h 0)
  | sys c k ih => intro Q E H hf he h; exact h.elim
  | program k ih => intro Q E H hf he h; simp only [vp] at h; exact ih _ hf he h
  | mark m k ih => intro Q E H hf he h; simp only [vp] at h; exact ih hf he h
  | halt x => intro Q E H hf he h; cases x <;> first | exact h.elim | exact (he _ _ h).elim
theorem cell_set {H : Heap} {id : Nat} {ob : Obj} (hid : H id = none) {a : Addr} {v : Value} (h : H.cell? a = some v) : (H.set id ob).cell? a = some v := by
  unfold Heap.cell? at *
  have : a.block ≠ id := fun e => by rw [e, hid] at h; simp at h
  rw [Heap.set_ne _ _ this]; exact h
theorem ne_of_set {H : Heap} {id b : Nat} {o : Obj} (hid : H id = none) (h : H b = some o) : b ≠ id := fun e => by rw [e, hid] at h; cases h
theorem vp_frame {α : Type} {s : Sem α} (id : Nat) (ob : Obj) : ∀ {Q : α → Heap → Prop} {E : Value → Heap → Prop} {H : Heap}, H id = none → (∀ v H, ¬ E v H) → vp P s Q E H →
    vp P s (fun a H'' => ∃ H', H'' = H'.set id ob ∧ H' id = none ∧ Q a H') E (H.set id ob) := by
  induction s with
  | pure a => intro Q E H hn he h; exact ⟨H, rfl, hn, h⟩
  | load m a k ih =>
    intro Q E H hn he h
    simp only [vp] at h ⊢
    split at h
    · rename_i v hv
      rw [cell_set hn hv]; exact ih _ hn he h
    · exact h.elim
  | store m a v k ih =>
    intro Q E H hn he h
    simp only [vp] at h ⊢
    refine ⟨h.1, h.2.1, ?_⟩
    have h := h.2.2
    split at h
    · rename_i hb
      have hne := ne_of_set hn hb
      rw [Heap.set_ne _ _ hne, hb]
      refine ⟨h.1, h.2.1, ?_⟩
      rw [Heap.set_comm _ _ _ (Ne.symm hne)]
      exact ih (by rw [Heap.set_ne _ _ (Ne.symm hne)]; exact hn) he h.2.2
    · exact h.elim
  | new o k ih =>
    intro Q E H hn he h
    simp only [vp] at h ⊢
    intro i hi
    have hne : i ≠ id := fun e => by rw [e, Heap.set_self] at hi; cases hi
    rw [Heap.set_ne _ _ hne] at hi
    rw [Heap.set_comm _ _ _ (Ne.symm hne)]
    exact ih _ (by rw [Heap.set_ne _ _ (Ne.symm hne)]; exact hn) he (h i hi)
  | shape r k ih =>
    intro Q E H hn he h
    simp only [vp] at h ⊢
    cases hb : H r with
    | none => rw [hb] at h; exact h.elim
    | some x =>
      have hne := ne_of_set hn hb
      rw [Heap.set_ne _ _ hne, hb]
      rw [hb] at h
      cases x <;> simp only [] at h ⊢ <;> first | exact h.elim | exact h | exact ih _ hn he h
  | freeze a n k ih =>
    intro Q E H hn he h
    simp only [vp] at h ⊢
    split at h
    · rename_i hb
      have hne := ne_of_set hn hb
      rw [Heap.set_ne _ _ hne, hb]
      simp only []
      split
      · rename_i h0; simp only [h0, if_true] at h; exact ih hn he h
      · rename_i h0; simp only [h0, if_false] at h
        rw [Heap.set_comm _ _ _ (Ne.symm hne)]
        exact ih (by rw [Heap.set_ne _ _ (Ne.symm hne)]; exact hn) he h
    · exact h.elim
  | frozen a k ih =>
    intro Q E H hn he h
    simp only [vp] at h ⊢
    cases hb : H a.block with
    | none => rw [hb] at h; exact h.elim
    | some x =>
      have hne := ne_of_set hn hb
      rw [Heap.set_ne _ _ hne, hb]
      rw [hb] at h
      cases x <;> simp only [] at h ⊢ <;> first | exact h.elim | exact h | exact ih _ hn he h
  | getObj r k ih =>
    intro Q E H hn he h
    simp only [vp] at h ⊢
    cases hb : H r with
    | none => rw [hb] at h; exact h.elim
    | some x =>
      have hne := ne_of_set hn hb
      rw [Heap.set_ne _ _ hne, hb]
      rw [hb] at h
      cases x <;> simp only [] at h ⊢ <;> first | exact h.elim | exact h | exact ih _ hn he h
  | setObj r o k ih =>
    intro Q E H hn he h
    simp only [vp] at h ⊢
    cases hb : H r with
    | none => rw [hb] at h; exact h.elim
    | some x =>
      have hne := ne_of_set hn hb
      rw [Heap.set_ne _ _ hne, hb]
      rw [hb] at h
      cases x <;> simp only [] at h ⊢ <;> first | exact h.elim | exact h | skip
      all_goals
        rw [Heap.set_comm _ _ _ (Ne.symm hne)]
        exact ih (by rw [Heap.set_ne _ _ (Ne.symm hne)]; exact hn) he h
  | choose q k ih =>
    intro Q E H hn he h
    simp only [vp] at h ⊢
    split
    · rename_i hq; simp only [hq, if_true] at h; exact ih _ hn he h
    · rename_i hq; simp only [hq, Bool.false_eq_true, if_false] at h; exact fun t => ih _ hn he (h t)
  | sys c k ih => intro Q E H hn he h; exact h.elim
  | program k ih => intro Q E H hn he h; simp only [vp] at h ⊢; exact ih _ hn he h
  | mark m k ih => intro Q E H hn he h; simp only [vp] at h ⊢; exact ih hn he h
  | halt x => intro Q E H hn he h; cases x <;> first | exact h.elim | exact (he _ _ h).elim

/-! ### Calls -/
theorem Does.fin {f : FuncId} {args : Array Value} {H : Heap} {Q : Value → Heap → Prop} {E : Chain → Heap → Prop} (h : Does P f args H Q E) : Does P f args H (fun v H' => Fin_ H' ∧ Q v H') E := by
  refine ⟨h.1, fun w hs => Calls.mono (h.2 w hs) fun e w' hr => ?_⟩
  cases e with
  | returned v => obtain ⟨H', a, b, c⟩ := hr; exact ⟨H', a, b, a.fin, c⟩
  | panicked ch => exact hr
  | outgrown => exact hr
theorem Does.out {f : FuncId} {args : Array Value} {H : Heap} {Q : Value → Heap → Prop} (hf : Fin_ H) (h : Does P f args H Q bot) : ∃ v H', Q v H' := by
  obtain ⟨w, hw⟩ := hf.world
  obtain ⟨e, w', fr, hr, _⟩ := h.2 w hw []
  cases e with
  | returned v => obtain ⟨H', a, b, c⟩ := hr; exact ⟨v, H', c⟩
  | panicked ch => obtain ⟨H', a, b, c⟩ := hr; exact c.elim
  | outgrown => exact hr.elim
theorem Does.frame {f : FuncId} {args : Array Value} {H : Heap} {Q : Value → Heap → Prop} (id : Nat) (ob : Obj) (hn : H id = none) (h : Does P f args H Q bot) :
    Does P f args (H.set id ob) (fun v H'' => ∃ H', H'' = H'.set id ob ∧ H' id = none ∧ Q v H') bot := by
  refine ⟨h.1, fun w hs => ?_⟩
  have hsub : Sub H w := fun i o hi => hs i o (by rw [Heap.set_ne _ _ (ne_of_set hn hi)]; exact hi)
  have hid : w.heap[id]? = some ob := hs id ob (Heap.set_self _ _ _)
  have hlt : id < w.heap.size := (Array.getElem?_eq_some_iff.1 hid).1
  refine Calls.mono (h.2 w hsub) fun e w' hr => ?_
  cases e with
  | returned v =>
    obtain ⟨H', a, b, c⟩ := hr
    have hn' : H' id = none := by
      cases hh : H' id with
      | none => rfl
      | some o => exact absurd (b.fresh id hn (by simp [hh])) (by omega)
    refine ⟨H'.set id ob, fun i o hi => ?_, ⟨b.os, b.tape, b.output, b.size, fun i hi hni => ?_, fun i hni hs' => ?_⟩, H', rfl, hn', c⟩
    · by_cases he : i = id
      · subst he; rw [Heap.set_self] at hi; cases hi; rw [b.same i hlt hn]; exact hid
      · rw [Heap.set_ne _ _ he] at hi; exact a i o hi
    · by_cases he : i = id
      · subst he; rw [Heap.set_self] at hni; cases hni
      · rw [Heap.set_ne _ _ he] at hni; exact b.same i hi hni
    · by_cases he : i = id
      · subst he; rw [Heap.set_self] at hni; cases hni
      · rw [Heap.set_ne _ _ he] at hni hs'; exact b.fresh i hni hs'
  | panicked ch => obtain ⟨H', a, b, c⟩ := hr; exact c.elim
  | outgrown => exact hr
theorem nxt_fin {K : Value → Heap → Prop} {E : Chain → Heap → Prop} (x : Next) {H : Heap} (hf : Fin_ H) (h : nxt P K E x H) : nxt P (fun v H' => Fin_ H' ∧ K v H') E x H := by
  cases x <;> simp only [nxt] at h ⊢ <;> first | exact ⟨hf, h⟩ | exact h.fin
theorem nxt_out {K : Value → Heap → Prop} (x : Next) {H : Heap} (hf : Fin_ H) (h : nxt P K bot x H) : ∃ v H', K v H' := by
  cases x <;> simp only [nxt] at h <;> first | exact ⟨_, _, h⟩ | exact h.out hf
theorem nxt_frame {K : Value → Heap → Prop} (x : Next) {H : Heap} (id : Nat) (ob : Obj) (hn : H id = none) (h : nxt P K bot x H) :
    nxt P (fun v H'' => ∃ H', H'' = H'.set id ob ∧ H' id = none ∧ K v H') bot x (H.set id ob) := by
  cases x <;> simp only [nxt] at h ⊢ <;> first | exact ⟨H, rfl, hn, h⟩ | exact h.frame id ob hn
theorem raise_bot : ∀ v H, ¬ raise bot v H := fun v H h => h
theorem vraw_fin {o : Oper} {ρ : Operand → Value} {K : Value → Heap → Prop} {H : Heap} (hf : Fin_ H) (h : vraw P o ρ K bot H) : vraw P o ρ (fun v H' => Fin_ H' ∧ K v H') bot H :=
  vp_mono (vp_fin hf h) (fun x H h => nxt_fin x h.1 h.2) (fun _ _ h => h)
theorem vraw_out {o : Oper} {ρ : Operand → Value} {K : Value → Heap → Prop} {H : Heap} (hf : Fin_ H) (h : vraw P o ρ K bot H) : ∃ v H', K v H' := by
  obtain ⟨x, H', h1, h2⟩ := vp_out hf raise_bot (vp_fin hf h)
  exact nxt_out x h1 h2
theorem vraw_frame {o : Oper} {ρ : Operand → Value} {K : Value → Heap → Prop} {H : Heap} (id : Nat) (ob : Obj) (hn : H id = none) (h : vraw P o ρ K bot H) :
    vraw P o ρ (fun v H'' => ∃ H', H'' = H'.set id ob ∧ H' id = none ∧ K v H') bot (H.set id ob) :=
  vp_mono (vp_frame id ob hn raise_bot h) (fun x H h => by obtain ⟨H', rfl, h1, h2⟩ := h; exact nxt_frame x id ob h1 h2) (fun _ _ h => h)

/-! ### Allocations -/
theorem alloc_form {o : Oper} {ρ : Operand → Value} {K : Value → Heap → Prop} {H : Heap} (ho : allocB o = true) (h : vcOp P o ρ K bot H) :
    ∃ (g : Nat → Value) (ob : Obj), ∀ (K : Value → Heap → Prop) (H : Heap), vcOp P o ρ K bot H ↔ ∀ id, H id = none → K (g id) (H.set id ob) := by
  obtain ⟨dst, op, type, pos, after, guard⟩ := o
  cases op <;> simp only [allocB, Bool.false_eq_true] at ho
  case alloc e =>
    simp only [vcOp, nAlloc, tyI] at h ⊢
    cases hi : P.info? e with
    | none => rw [hi] at h; exact h.elim
    | some i =>
      rw [hi] at h
      simp only [] at h ⊢
      cases hz : i.zero with
      | none => rw [hz] at h; exact h.elim
      | some z => exact ⟨fun id => .pointer (some ⟨id, 0, none⟩), .cells z.cells e (0, 0), fun K H => Iff.rfl⟩
  case box e x => exact ⟨fun id => .pointer (some ⟨id, 0, none⟩), .cells (ρ x).cells e (0, 0), fun K H => Iff.rfl⟩
  case buildSlice t n ps =>
    simp only [vcOp, nBuildSlice, tyD] at h ⊢
    cases hd : P.underlying t with
    | none => rw [hd] at h; exact h.elim
    | some d =>
      rw [hd] at h
      simp only [] at h ⊢
      split at h
      · rename_i e
        simp only [tyI, tyZ] at h ⊢
        cases hi : P.info? e with
        | none => rw [hi] at h; exact h.elim
        | some i =>
          rw [hi] at h
          simp only [] at h ⊢
          cases hz : i.zero with
          | none => rw [hz] at h; exact h.elim
          | some z =>
            rw [hz] at h
            simp only [] at h ⊢
            cases hb : Nat.beq z.cells.size i.size with
            | false => rw [hb] at h; exact h.elim
            | true =>
              rw [hb] at h
              simp only [] at h ⊢
              cases hl : Nat.ble (n * i.size) 16777216 with
              | false => rw [hl] at h; exact h.elim
              | true =>
                rw [hl] at h
                simp only [] at h ⊢
                cases hc : fillN (fun j => some (j * i.size, i.size)) (rep n z.cells.toList).toArray (ps.toList.map fun p => (p.1, ρ p.2)) with
                | none => simp only [hc] at h
                | some cells =>
                  simp only [hc] at h ⊢
                  exact ⟨fun id => .slice (some ⟨id, 0, none⟩) n n, .cells cells e (0, 0), fun K H => Iff.rfl⟩
      · exact h.elim
  case makeSlice t l c =>
    simp only [vcOp, nMake] at h ⊢
    split at h
    · rename_i k1 l' k2 c' hl hc
      simp only [tyD] at h ⊢
      cases hd : P.underlying t with
      | none => rw [hd] at h; exact h.elim
      | some d =>
        rw [hd] at h
        simp only [] at h ⊢
        split at h
        · rename_i e
          simp only [tyI, tyZ] at h ⊢
          cases hi : P.info? e with
          | none => rw [hi] at h; exact h.elim
          | some i =>
            rw [hi] at h
            simp only [] at h ⊢
            cases hz : i.zero with
            | none => rw [hz] at h; exact h.elim
            | some z =>
              rw [hz] at h
              simp only [] at h ⊢
              cases hb : Nat.beq z.cells.size i.size with
              | false => rw [hb] at h; exact h.elim
              | true =>
                rw [hb] at h
                simp only [] at h ⊢
                exact ⟨fun id => .slice (some ⟨id, 0, none⟩) l'.toNat c'.toNat, .cells (rep c'.toNat z.cells.toList).toArray e (0, 0), fun K H => ⟨fun h' => h'.2, fun h' => ⟨h.1, h'⟩⟩⟩
        · exact h.elim
    · exact h.elim
theorem sem_fin {o : Oper} {ρ : Operand → Value} {K : Value → Heap → Prop} {H : Heap} (hf : Fin_ H) (h : sem P o ρ K H) : sem P o ρ (fun v H' => Fin_ H' ∧ K v H') H := by
  unfold sem at *
  cases hc : calmB P o <;> simp only [hc] at h ⊢
  · exact vraw_fin hf h
  · simp only [calmB, Bool.or_eq_true] at hc
    rcases hc with hc | hc
    · exact vcOp_mono (vcOp_more h) fun v H' h => ⟨by rw [h.1 hc]; exact hf, h.2.2⟩
    · obtain ⟨g, ob, hg⟩ := alloc_form hc h
      rw [hg] at h ⊢
      exact fun id hid => ⟨hf.set _ _, h id hid⟩
theorem sem_out {o : Oper} {ρ : Operand → Value} {K : Value → Heap → Prop} {H : Heap} (hf : Fin_ H) (h : sem P o ρ K H) : ∃ v H', K v H' := vraw_out hf (sem_raw h)
theorem sem_frame {o : Oper} {ρ : Operand → Value} {K : Value → Heap → Prop} {H : Heap} (ho : stillB P o = false) (id : Nat) (ob : Obj) (hn : H id = none) (h : sem P o ρ K H) :
    sem P o ρ (fun v H'' => ∃ H', H'' = H'.set id ob ∧ H' id = none ∧ K v H') (H.set id ob) := by
  unfold sem at *
  cases hc : calmB P o <;> simp only [hc] at h ⊢
  · exact vraw_frame id ob hn h
  · simp only [calmB, ho, Bool.false_or] at hc
    obtain ⟨g, ob2, hg⟩ := alloc_form hc h
    rw [hg] at h ⊢
    intro i hi
    have hne : i ≠ id := fun e => by rw [e, Heap.set_self] at hi; cases hi
    rw [Heap.set_ne _ _ hne] at hi
    exact ⟨H.set i ob2, Heap.set_comm _ _ _ (Ne.symm hne), by rw [Heap.set_ne _ _ (Ne.symm hne)]; exact hn, h i hi⟩
theorem rstep_fin {ops : Array Oper} {fl : Bool} {Z : Nat → Prop} {o : Oper} {τ : Tau} {K : Tau → Heap → Prop} {H : Heap} (hf : Fin_ H)
    (h : rstep P ops fl Z o τ K H) : rstep P ops fl Z o τ (fun τ H => Fin_ H ∧ K τ H) H := by
  unfold rstep at *
  rw [vcGuard_iff] at *
  split at h
  · cases fl <;> simp only [] at h ⊢
    · exact sem_fin hf h
    · cases hl : loadB o <;> simp only [hl] at h ⊢
      · exact sem_mono (sem_fin hf h) fun v H h => ⟨h.2.1, h.1, h.2.2⟩
      · exact ⟨h.1, sem_fin hf h.2⟩
  · exact ⟨hf, h⟩
theorem swapA {ops : Array Oper} {fy : Bool} {Z : Nat → Prop} {oy ox : Oper} {τ : Tau} {B : Tau → Heap → Prop} {H : Heap}
    (hsy : ∀ cs b, oy.op ≠ .select cs b) (hsx : ∀ cs b, ox.op ≠ .select cs b) (hap : oy.apart ops ox = true) (ny : stillB P oy = false) (ax : allocB ox = true) (hf : Fin_ H)
    (h : rstep P ops fy Z oy τ (fun τ H => rstep P ops false Z ox τ B H) H) : rstep P ops false Z ox τ (fun τ H => rstep P ops fy Z oy τ B H) H := by
  obtain ⟨p1, p2, p3⟩ := Oper.apart_spec hap
  have hnl : loadB oy = false := by
    cases hl : loadB oy with
    | false => rfl
    | true =>
      obtain ⟨dst, op, type, pos, after, guard⟩ := oy
      cases op <;> simp_all [loadB, stillB]
  have hcomm : ∀ (v u : Value), (τ.put ox.dst u).put oy.dst v = (τ.put oy.dst v).put ox.dst u := fun v u => (Tau.put_comm fun d hd he => p2 d hd he).symm
  cases hwx : wantT ops ox τ
  · -- x is not wanted
    have hx : ∀ v, wantT ops ox (τ.put oy.dst v) = false := fun v => by rw [wantT_put p1]; exact hwx
    have goal : rstep P ops fy Z oy (τ.put ox.dst undef) B H := by
      unfold rstep at h ⊢
      rw [vcGuard_iff] at h ⊢
      rw [wantT_put p3]
      cases hwy : wantT ops oy τ <;> simp only [hwy] at h ⊢
      · rw [vcGuard_iff, hx] at h
        simp only [] at h
        rw [hcomm]; exact h
      · cases fy <;> simp only [hnl] at h ⊢
        · rw [sem_put hsy p3]
          refine sem_mono h fun v H' h => ?_
          rw [vcGuard_iff, hx] at h
          simp only [] at h
          rw [hcomm]; exact h
        · rw [sem_put hsy p3]
          refine sem_mono h fun v H' h => ⟨h.1, ?_⟩
          have h := h.2
          rw [vcGuard_iff, hx] at h
          simp only [] at h
          rw [hcomm]; exact h
    unfold rstep
    rw [vcGuard_iff, hwx]
    exact goal
  · have hx : ∀ v, wantT ops ox (τ.put oy.dst v) = true := fun v => by rw [wantT_put p1]; exact hwx
    have hy : ∀ v, wantT ops oy (τ.put ox.dst v) = wantT ops oy τ := fun v => wantT_put p3
    have hxs : ∀ (v : Value) (H' : Heap), rstep P ops false Z ox (τ.put oy.dst v) B H' ↔ vcOp P ox (ev τ) (fun u H2 => B ((τ.put oy.dst v).put ox.dst u) H2) bot H' := by
      intro v H'
      unfold rstep
      rw [vcGuard_iff, hx]
      simp only []
      rw [sem_put hsx p1, sem_alloc ax]
    have hgoal : ∀ (K : Tau → Heap → Prop), rstep P ops false Z ox τ K H ↔ vcOp P ox (ev τ) (fun u H2 => K (τ.put ox.dst u) H2) bot H := by
      intro K
      unfold rstep
      rw [vcGuard_iff, hwx]
      simp only []
      rw [sem_alloc ax]
    rw [hgoal]
    unfold rstep at h
    rw [vcGuard_iff] at h
    cases hwy : wantT ops oy τ
    · rw [hwy] at h
      simp only [] at h
      have h := (hxs undef H).1 h
      refine vcOp_mono h fun u H2 h => ?_
      unfold rstep
      rw [vcGuard_iff, hy, hwy]
      simp only []
      rw [hcomm]; exact h
    · rw [hwy] at h
      simp only [] at h
      have key : ∀ (fr : Heap → Prop), sem P oy (ev τ) (fun v H' => fr H' ∧ rstep P ops false Z ox (τ.put oy.dst v) B H') H →
          ∃ (g : Nat → Value) (ob : Obj), (∀ (K : Value → Heap → Prop) (H : Heap), vcOp P ox (ev τ) K bot H ↔ ∀ id, H id = none → K (g id) (H.set id ob)) ∧
            ∀ id, H id = none → sem P oy (ev τ) (fun v H2 => ∃ H', H2 = H'.set id ob ∧ H' id = none ∧ fr H' ∧ B ((τ.put ox.dst (g id)).put oy.dst v) H2) (H.set id ob) := by
        intro fr h
        obtain ⟨v0, H0, _, h0⟩ := sem_out hf h
        obtain ⟨g, ob, hg⟩ := alloc_form ax ((hxs v0 H0).1 h0)
        refine ⟨g, ob, hg, fun id hid => sem_mono (sem_frame ny id ob hid h) fun v H2 h => ?_⟩
        obtain ⟨H', rfl, hn, h1, h2⟩ := h
        refine ⟨H', rfl, hn, h1, ?_⟩
        have h2 := (hg _ _).1 ((hxs v H').1 h2) id hn
        rw [hcomm]; exact h2
      cases fy <;> simp only [hnl] at h
      · obtain ⟨g, ob, hg, hk⟩ := key (fun _ => True) (sem_mono h fun v H' h => ⟨trivial, h⟩)
        rw [hg]
        intro id hid
        unfold rstep
        rw [vcGuard_iff, hy, hwy]
        simp only []
        rw [sem_put hsy p3]
        exact sem_mono (hk id hid) fun v H2 h => by obtain ⟨_, _, _, _, h⟩ := h; exact h
      · obtain ⟨g, ob, hg, hk⟩ := key (fun H' => ∀ z, Z z → H z ≠ none → H' z = H z) h
        rw [hg]
        intro id hid
        unfold rstep
        rw [vcGuard_iff, hy, hwy]
        simp only [hnl]
        rw [sem_put hsy p3]
        refine sem_mono (hk id hid) fun v H2 h => ?_
        obtain ⟨H', rfl, h1, h2, h3⟩ := h
        refine ⟨fun z hz hne => ?_, h3⟩
        by_cases he : z = id
        · subst he; rw [Heap.set_self, Heap.set_self]
        · rw [Heap.set_ne _ _ he] at hne
          rw [Heap.set_ne _ _ he, Heap.set_ne _ _ he]; exact h2 z hz hne

def buildB (o : Oper) : Bool := match o.op with
  | .build .. => true
  | _ => false
theorem nBuild_iff {t : TypeId} {parts : List (Nat × Value)} {K : Value → Heap → Prop} {H : Heap} (h : nBuild P t parts K H) :
    ∃ v, ∀ (K' : Value → Heap → Prop) (H' : Heap), nBuild P t parts K' H' ↔ K' v H' := by
  simp only [nBuild, tyZ, tyI, tyD] at h ⊢
  cases hi : P.info? t with
  | none => rw [hi] at h; exact h.elim
  | some i =>
    rw [hi] at h
    simp only [] at h ⊢
    cases hz : i.zero with
    | none => rw [hz] at h; exact h.elim
    | some z =>
      rw [hz] at h
      simp only [] at h ⊢
      cases hb : Nat.beq z.cells.size i.size with
      | false => rw [hb] at h; exact h.elim
      | true =>
        rw [hb] at h
        simp only [] at h ⊢
        cases hd : P.underlying t with
        | none => rw [hd] at h; exact h.elim
        | some d =>
          rw [hd] at h
          simp only [] at h ⊢
          split at h
          · rename_i fs
            cases hs : szs P fs.toList with
            | none => simp only [hs] at h
            | some pl =>
              simp only [hs] at h ⊢
              cases hc : fillN (fun i => pl[i]?) z.cells.toList.toArray parts with
              | none => simp only [hc] at h
              | some cells => simp only [hc] at h ⊢; exact ⟨_, fun K' H' => Iff.rfl⟩
          · rename_i e
            cases hj : P.info? e with
            | none => rw [hj] at h; exact h.elim
            | some j =>
              rw [hj] at h
              simp only [] at h ⊢
              cases hc : fillN (fun k => some (k * j.size, j.size)) z.cells.toList.toArray parts with
              | none => simp only [hc] at h
              | some cells => simp only [hc] at h ⊢; exact ⟨_, fun K' H' => Iff.rfl⟩
          · exact h.elim
theorem build_iff {o : Oper} {ρ : Operand → Value} {K : Value → Heap → Prop} {H : Heap} (ho : buildB o = true) (h : vcOp P o ρ K bot H) :
    ∃ v, ∀ (K' : Value → Heap → Prop) (H' : Heap), vcOp P o ρ K' bot H' ↔ K' v H' := by
  obtain ⟨dst, op, type, pos, after, guard⟩ := o
  cases op <;> simp only [buildB, Bool.false_eq_true] at ho
  exact nBuild_iff h
theorem buildB_still {o : Oper} (ho : buildB o = true) : stillB P o = true := by
  obtain ⟨dst, op, type, pos, after, guard⟩ := o
  cases op <;> simp only [buildB, Bool.false_eq_true] at ho
  rfl
theorem swapB {ops : Array Oper} {Z : Nat → Prop} {oy ox : Oper} {τ : Tau} {B : Tau → Heap → Prop} {H : Heap}
    (hsy : ∀ cs b, oy.op ≠ .select cs b) (hsx : ∀ cs b, ox.op ≠ .select cs b) (hap : oy.apart ops ox = true) (ay : allocB oy = true) (bx : buildB ox = true) (hf : Fin_ H)
    (h : rstep P ops false Z oy τ (fun τ H => rstep P ops false Z ox τ B H) H) : rstep P ops false Z ox τ (fun τ H => rstep P ops false Z oy τ B H) H := by
  obtain ⟨p1, p2, p3⟩ := Oper.apart_spec hap
  have sx : stillB P ox = true := buildB_still bx
  have hcomm : ∀ (v u : Value), (τ.put ox.dst u).put oy.dst v = (τ.put oy.dst v).put ox.dst u := fun v u => (Tau.put_comm fun d hd he => p2 d hd he).symm
  have hx : ∀ v, wantT ops ox (τ.put oy.dst v) = wantT ops ox τ := fun v => wantT_put p1
  have hy : ∀ v, wantT ops oy (τ.put ox.dst v) = wantT ops oy τ := fun v => wantT_put p3
  unfold rstep at h ⊢
  rw [vcGuard_iff] at h ⊢
  cases hwy : wantT ops oy τ
  · rw [hwy] at h
    simp only [] at h
    rw [vcGuard_iff, hx] at h
    cases hwx : wantT ops ox τ
    · rw [hwx] at h
      simp only [] at h ⊢
      rw [vcGuard_iff, hy, hwy]
      simp only []
      rw [hcomm]; exact h
    · rw [hwx] at h
      simp only [] at h ⊢
      rw [sem_put hsx p1] at h
      refine sem_mono h fun v H' h => ?_
      rw [vcGuard_iff, hy, hwy]
      simp only []
      rw [hcomm]; exact h
  · rw [hwy] at h
    simp only [] at h
    rw [sem_alloc ay] at h
    obtain ⟨g, ob, hg⟩ := alloc_form ay h
    rw [hg] at h
    cases hwx : wantT ops ox τ
    · simp only []
      rw [vcGuard_iff, hy, hwy]
      simp only []
      rw [sem_put hsy p3, sem_alloc ay, hg]
      intro id hid
      have h := h id hid
      rw [vcGuard_iff, hx, hwx] at h
      simp only [] at h
      rw [hcomm]; exact h
    · simp only []
      rw [sem_still sx]
      have h' : ∀ id, H id = none → vcOp P ox (ev τ) (fun u H2 => B ((τ.put oy.dst (g id)).put ox.dst u) H2) bot (H.set id ob) := fun id hid => by
        have h := h id hid
        rw [vcGuard_iff, hx, hwx] at h
        simp only [] at h
        rw [sem_put hsx p1, sem_still sx] at h
        exact h
      obtain ⟨i0, hi0⟩ := hf.free
      obtain ⟨v, hv⟩ := build_iff bx (h' i0 hi0)
      rw [hv, vcGuard_iff, hy, hwy]
      simp only []
      rw [sem_put hsy p3, sem_alloc ay, hg]
      intro id hid
      rw [hcomm]
      exact (hv _ _).1 (h' id hid)

def passB (P : Program) (ops : Array Oper) (fl : Nat → Bool) (y x : Nat) : Bool := match ops[y]?, ops[x]? with
  | some oy, some ox => oy.apart ops ox && (match stillB P oy with
    | true => !loadB oy || stillB P ox || allocB ox || (fl y && fl x && !loadB ox)
    | false => (allocB ox && !fl x) || (allocB oy && !fl y && buildB ox && !fl x))
  | _, _ => false
theorem pull {ops : Array Oper} {fl : Nat → Bool} {Z : Nat → Prop} {K : Tau → Heap → Prop} (hns : Region.noSelect ops = true) (x : Nat) (B : List Nat) :
    ∀ (A : List Nat) (τ : Tau) (H : Heap), Fin_ H → (∀ y ∈ A, passB P ops fl y x = true) → rDraw P ops fl Z (A ++ x :: B) τ K H → rDraw P ops fl Z (x :: (A ++ B)) τ K H
  | [], τ, H, _, _, h => h
  | y :: A, τ, H, hf, hp, h => by
    have hy := hp y (by simp)
    unfold passB at hy
    split at hy
    · rename_i oy ox hoy hox
      simp only [Bool.and_eq_true] at hy
      obtain ⟨h1, h2⟩ := hy
      simp only [List.cons_append, rDraw, hoy] at h
      have h : rstep P ops (fl y) Z oy τ (fun τ H => rDraw P ops fl Z (x :: (A ++ B)) τ K H) H :=
        rstep_mono (rstep_fin hf h) fun τ H h => pull hns x B A τ H h.1 (fun z hz => hp z (by simp [hz])) h.2
      simp only [rDraw, hox] at h
      have hsy : ∀ cs b, oy.op ≠ .select cs b := (Region.noSelect_spec hns y oy · · hoy)
      have hsx : ∀ cs b, ox.op ≠ .select cs b := (Region.noSelect_spec hns x ox · · hox)
      simp only [rDraw, hox, hoy, List.cons_append]
      split at h2
      · rename_i hst
        simp only [Bool.or_eq_true, Bool.not_eq_true', Bool.and_eq_true] at h2
        exact swap hsy hsx h1 hst (fun hl => by
          rcases h2 with ((h3 | h3) | h3) | h3
          · rw [hl] at h3; cases h3
          · exact .inl h3
          · exact .inr (.inl h3)
          · exact .inr (.inr ⟨h3.1.1, h3.1.2, h3.2⟩)) h
      · rename_i hst
        simp only [Bool.or_eq_true, Bool.and_eq_true, Bool.not_eq_true'] at h2
        rcases h2 with h2 | h2
        · rw [h2.2] at h ⊢
          exact swapA hsy hsx h1 hst h2.1 hf h
        · rw [h2.2, h2.1.1.2] at h ⊢
          exact swapB hsy hsx h1 h2.1.1.1 h2.1.2 hf h
    · cases hy
end Go.V

/- A region that draws its order: one order is enough (4): the machine's side. -/
namespace Go.V
set_option linter.constructorNameAsVariable false
set_option linter.unusedVariables false
variable {P : Program}

def depsOf (o : Oper) : List Nat := (o.after.toList.filter (Region.binds .any)).map (·.on)
def masks : List Oper → List Nat → List Nat
  | [], acc => acc
  | o :: l, acc => masks l (acc ++ [(depsOf o).foldl (fun s e => s ||| 2 ^ e ||| acc.getD e 0) 0])
theorem fold_bit (acc : List Nat) (y : Nat) : ∀ (ds : List Nat) (s : Nat), (ds.foldl (fun s e => s ||| 2 ^ e ||| acc.getD e 0) s).testBit y = true →
    s.testBit y = true ∨ ∃ e ∈ ds, y = e ∨ (acc.getD e 0).testBit y = true
  | [], s, h => .inl h
  | d :: ds, s, h => by
    rcases fold_bit acc y ds _ h with h | ⟨e, he, h⟩
    · simp only [Nat.testBit_or, Bool.or_eq_true, Nat.testBit_two_pow] at h
      rcases h with (h | h) | h
      · exact .inl h
      · have h' : d = y := by simpa using h
        exact .inr ⟨d, by simp, .inl h'.symm⟩
      · exact .inr ⟨d, by simp, .inr h⟩
    · exact .inr ⟨e, by simp [he], h⟩
def MOk (os : List Oper) (m : List Nat) : Prop := ∀ x y, (m.getD x 0).testBit y = true → ∃ o, os[x]? = some o ∧ ∃ e ∈ depsOf o, y = e ∨ (m.getD e 0).testBit y = true
theorem masks_ok (os : List Oper) : ∀ (l done : List Oper) (acc : List Nat), os = done ++ l → acc.length = done.length →
    (∀ x y, (acc.getD x 0).testBit y = true → ∃ o, os[x]? = some o ∧ ∃ e ∈ depsOf o, y = e ∨ (e < acc.length ∧ (acc.getD e 0).testBit y = true)) →
    MOk os (masks l acc)
  | [], done, acc, h1, h2, h3 => fun x y h => by
    obtain ⟨o, ho, e, he, h⟩ := h3 x y h
    exact ⟨o, ho, e, he, h.imp id (·.2)⟩
  | o :: l, done, acc, h1, h2, h3 => by
    refine masks_ok os l (done ++ [o]) _ (by simp [h1]) (by simp [h2]) fun x y h => ?_
    have hlt : ∀ e, e < acc.length → (acc ++ [(depsOf o).foldl (fun s e => s ||| 2 ^ e ||| acc.getD e 0) 0]).getD e 0 = acc.getD e 0 := by
      intro e he; simp [List.getD_eq_getElem?_getD, List.getElem?_append_left he]
    by_cases hx : x < acc.length
    · rw [hlt x hx] at h
      obtain ⟨o', ho, e, he, h⟩ := h3 x y h
      refine ⟨o', ho, e, he, h.imp id fun h => ⟨by simp; omega, ?_⟩⟩
      rw [hlt e h.1]; exact h.2
    · by_cases hx2 : x = acc.length
      · subst hx2
        have e1 : (acc ++ [(depsOf o).foldl (fun s e => s ||| 2 ^ e ||| acc.getD e 0) 0]).getD acc.length 0 = (depsOf o).foldl (fun s e => s ||| 2 ^ e ||| acc.getD e 0) 0 := by simp [List.getD_eq_getElem?_getD]
        rw [e1] at h
        rcases fold_bit acc y _ _ h with h | ⟨e, he, h⟩
        · simp at h
        · refine ⟨o, by rw [h1, h2]; simp, e, he, h.imp id fun h => ?_⟩
          have hel : e < acc.length := by
            rcases Nat.lt_or_ge e acc.length with h' | h'
            · exact h'
            · simp [List.getD_eq_getElem?_getD, List.getElem?_eq_none h'] at h
          refine ⟨by simp; omega, ?_⟩
          rw [hlt e hel]; exact h
      · have : (acc ++ [(depsOf o).foldl (fun s e => s ||| 2 ^ e ||| acc.getD e 0) 0]).getD x 0 = 0 := by
          rw [List.getD_eq_getElem?_getD, List.getElem?_eq_none (by simp; omega)]; rfl
        rw [this] at h; simp at h

def pairB (P : Program) (ops : Array Oper) (m : List Nat) (fl : Nat → Bool) (y x : Nat) : Bool :=
  !Nat.beq y x && !((ops[y]?).any fun o => (depsOf o).contains x) && ((m.getD x 0).testBit y || passB P ops fl y x)
def pairsB (P : Program) (ops : Array Oper) (m : List Nat) (fl : Nat → Bool) : List Nat → Bool
  | [] => true
  | y :: l => l.all (pairB P ops m fl y) && pairsB P ops m fl l
def drawOk (P : Program) (ops : Array Oper) (fl : Nat → Bool) (ord : List Nat) : Bool :=
  Region.noSelect ops && Nat.beq ord.length ops.size && (List.range ops.size).all ord.contains && ord.all (fun j => Nat.blt j ops.size) &&
  (List.range ops.size).all (fun x => (ops[x]?).all fun o => (depsOf o).all fun e => Nat.blt e ops.size && !Nat.beq e x) &&
  pairsB P ops (masks ops.toList []) fl ord

theorem pairsB_spec {ops : Array Oper} {m : List Nat} {fl : Nat → Bool} : ∀ {l : List Nat}, pairsB P ops m fl l = true → l.Pairwise fun y x => pairB P ops m fl y x = true
  | [], _ => .nil
  | y :: l, h => by
    simp only [pairsB, Bool.and_eq_true, List.all_eq_true] at h
    exact .cons h.1 (pairsB_spec h.2)

structure Inv (P : Program) (ops : Array Oper) (m : List Nat) (fl : Nat → Bool) (rem : List Nat) (listed : Array Bool) : Prop where
  mem : ∀ j, j ∈ rem ↔ j < ops.size ∧ listed.getD j true = false
  size : listed.size = ops.size
  nodup : rem.Nodup
  pairs : rem.Pairwise fun y x => pairB P ops m fl y x = true
  closed : ∀ e, listed.getD e false = true → ∀ y, (m.getD e 0).testBit y = true → listed.getD y false = true

theorem dsound {ops : Array Oper} {m : List Nat} {fl : Nat → Bool} {Z : Nat → Prop} {n : Nat} {D : List Deferred} {H₀ : Heap} {w₀ : World} {K : Tau → Heap → Prop} {Q : Exit → Act → World → Prop}
    (hns : Region.noSelect ops = true) (hd : dstsOk n ops = true) (hm : MOk ops.toList m)
    (hdeps : ∀ x o, ops[x]? = some o → ∀ e ∈ depsOf o, e < ops.size ∧ e ≠ x)
    (hn : ∀ τ' H' a' w', St n D H₀ w₀ τ' H' a' w' → K τ' H' → Q .normal a' w') :
    ∀ (fuel : Nat) (rem : List Nat) (listed : Array Bool) (τ : Tau) (H : Heap) (a : Act) (w : World), Inv P ops m fl rem listed → rem.length ≤ fuel →
      St n D H₀ w₀ τ H a w → rDraw P ops fl Z rem τ K H → wpAny P .any ops Q fuel listed a w := by
  intro fuel
  have hend : ∀ (rem : List Nat) (listed : Array Bool), Inv P ops m fl rem listed → Region.ready .any ops listed = [] → rem = [] := by
    intro rem listed hi hr
    cases rem with
    | nil => rfl
    | cons x B =>
      have hx := (hi.mem x).1 (by simp)
      obtain ⟨o, ho⟩ : ∃ o, ops[x]? = some o := ⟨_, Array.getElem?_eq_getElem hx.1⟩
      have : x ∈ Region.ready .any ops listed := by
        rw [mem_ready]
        refine ⟨hx.2, o, ho, fun e he hb => ?_⟩
        have hmem : e.on ∈ depsOf o := List.mem_map.2 ⟨e, List.mem_filter.2 ⟨by simpa using he, hb⟩, rfl⟩
        obtain ⟨h1, h2⟩ := hdeps x o ho _ hmem
        cases hl : listed.getD e.on false with
        | true => rfl
        | false =>
          have hin : e.on ∈ x :: B := (hi.mem _).2 ⟨h1, by
            have hlt : e.on < listed.size := by rw [hi.size]; exact h1
            simp [hlt] at hl ⊢; exact hl⟩
          rcases List.mem_cons.1 hin with h | h
          · exact absurd h h2
          · have := (List.pairwise_cons.1 hi.pairs).1 _ h
            simp only [pairB, ho, Option.any_some, Bool.and_eq_true, Bool.not_eq_true'] at this
            rw [List.contains_iff_mem.2 hmem] at this
            have := this.1.2
            simp at this
      rw [hr] at this; cases this
  induction fuel with
  | zero =>
    intro rem listed τ H a w hi hl hs h
    have : rem = [] := List.eq_nil_of_length_eq_zero (by omega)
    subst this
    refine ⟨?_, hn _ _ _ _ hs h⟩
    cases hr : Region.ready .any ops listed with
    | nil => rfl
    | cons x xs =>
      have hx : x ∈ Region.ready .any ops listed := by rw [hr]; simp
      obtain ⟨h1, o, ho, _⟩ := mem_ready.1 hx
      exact absurd ((hi.mem x).2 ⟨(Array.getElem?_eq_some_iff.1 ho).1, h1⟩) (by simp)
  | succ fuel ih =>
    intro rem listed τ H a w hi hl hs h
    refine ⟨fun hr => ?_, fun x hx => ?_⟩
    · have := hend rem listed hi hr
      subst this
      exact hn _ _ _ _ hs h
    · obtain ⟨h1, o, ho, hall⟩ := mem_ready.1 hx
      have hxlt := (Array.getElem?_eq_some_iff.1 ho).1
      have hmem : x ∈ rem := (hi.mem x).2 ⟨hxlt, h1⟩
      obtain ⟨A, B, rfl⟩ := List.append_of_mem hmem
      have hdl : ∀ e ∈ depsOf o, listed.getD e false = true := by
        intro e he
        obtain ⟨e', he', rfl⟩ := List.mem_map.1 he
        obtain ⟨h2, h3⟩ := List.mem_filter.1 he'
        exact hall e' (by simpa using h2) h3
      have hun : ∀ y, y ∈ A ++ x :: B → listed.getD y false = false := by
        intro y hy
        obtain ⟨h2, h3⟩ := (hi.mem y).1 hy
        have hlt : y < listed.size := by rw [hi.size]; exact h2
        simp [hlt] at h3 ⊢; exact h3
      have hpass : ∀ y ∈ A, passB P ops fl y x = true := by
        intro y hy
        have hp := (List.pairwise_append.1 hi.pairs).2.2 y hy x (by simp)
        simp only [pairB, Bool.and_eq_true, Bool.or_eq_true] at hp
        rcases hp.2 with h2 | h2
        · exfalso
          obtain ⟨o', ho', e, he, h3⟩ := hm x y h2
          have : o' = o := by
            have : ops[x]? = some o' := by rw [← Array.getElem?_toList]; exact ho'
            rw [ho] at this; exact (Option.some.inj this).symm
          subst this
          have hel := hdl e he
          have : listed.getD y false = true := by
            rcases h3 with h3 | h3
            · subst h3; exact hel
            · exact hi.closed e hel y h3
          rw [hun y (by simp [hy])] at this; cases this
        · exact h2
      have h := pull hns x B A τ H hs.sub.fin hpass h
      simp only [rDraw, ho] at h
      refine rawStep_wp ho (fun d => dstsOk_spec hd ho d) hs (rstep_raw h) (fun τ' H' a' w' hs' h' => ih (A ++ B) _ τ' H' a' w' ?_ ?_ hs' h') (fun ch H' w' _ _ h => h.elim)
      · have hnd := hi.nodup
        rw [List.nodup_append] at hnd
        obtain ⟨n1, n2, n3⟩ := hnd
        rw [List.nodup_cons] at n2
        refine ⟨fun j => ?_, by simp [hi.size], ?_, ?_, fun e he y hy => ?_⟩
        · by_cases hjx : j = x
          · subst hjx
            constructor
            · intro hj
              rcases List.mem_append.1 hj with hj | hj
              · exact absurd rfl (n3 j hj j (by simp))
              · exact absurd hj n2.1
            · rintro ⟨_, hj⟩
              have hlt : j < listed.size := by rw [hi.size]; exact hxlt
              simp [hlt] at hj
          · rw [getD_set_ne true (Ne.symm hjx)]
            rw [← hi.mem j]
            simp [hjx]
        · rw [List.nodup_append]
          exact ⟨n1, n2.2, fun a ha b hb => n3 a ha b (by simp [hb])⟩
        · exact hi.pairs.sublist (by simp)
        · by_cases hex : e = x
          · subst hex
            obtain ⟨o', ho', e', he', h3⟩ := hm e y hy
            have : o' = o := by
              have : ops[e]? = some o' := by rw [← Array.getElem?_toList]; exact ho'
              rw [ho] at this; exact (Option.some.inj this).symm
            subst this
            have hel := hdl e' he'
            refine getD_set_true ?_
            rcases h3 with h3 | h3
            · subst h3; exact hel
            · exact hi.closed e' hel y h3
          · rw [getD_set_ne false (Ne.symm hex)] at he
            exact getD_set_true (hi.closed e he y hy)
      · simp at hl ⊢; omega

theorem draw_wp {id n : Nat} {ops : Array Oper} {fl : Nat → Bool} {Z : Nat → Prop} {ord : List Nat} {D : List Deferred} {H₀ : Heap} {w₀ : World} {K : Tau → Heap → Prop} {Q : Exit → Act → World → Prop}
    {τ : Tau} {H : Heap} {a : Act} {w : World} (hmix : P.follows .mixedOrders = true) (hd : dstsOk n ops = true) (hok : drawOk P ops fl ord = true)
    (hn : ∀ τ' H' a' w', St n D H₀ w₀ τ' H' a' w' → K τ' H' → Q .normal a' w') (hs : St n D H₀ w₀ τ H a w) (h : vcDraw P ops fl Z ord τ K (fun _ _ => False) H) :
    (Code.region id ops true).wp P Q a w := by
  simp only [drawOk, Bool.and_eq_true] at hok
  obtain ⟨⟨⟨⟨⟨h1, h2⟩, h3⟩, h3'⟩, h4⟩, h5⟩ := hok
  refine wp_region_any hmix ?_
  have hlen := Nat.eq_of_beq_eq_true h2
  have hcov : ∀ j, j < ops.size → j ∈ ord := fun j hj => List.contains_iff_mem.1 (List.all_eq_true.1 h3 j (List.mem_range.2 hj))
  have hm : MOk ops.toList (masks ops.toList []) := masks_ok ops.toList ops.toList [] [] rfl rfl (fun x y h => by simp at h)
  have hdeps : ∀ x o, ops[x]? = some o → ∀ e ∈ depsOf o, e < ops.size ∧ e ≠ x := by
    intro x o ho e he
    have := List.all_eq_true.1 h4 x (List.mem_range.2 (Array.getElem?_eq_some_iff.1 ho).1)
    rw [ho] at this
    have hall : (depsOf o).all (fun e => Nat.blt e ops.size && !Nat.beq e x) = true := this
    have := List.all_eq_true.1 hall e he
    simp only [Bool.and_eq_true, Bool.not_eq_true'] at this
    exact ⟨Nat.le_of_ble_eq_true this.1, fun h => by subst h; simp at this⟩
  have hpw := pairsB_spec h5
  have hnodup : ord.Nodup ∧ ∀ j ∈ ord, j < ops.size := by
    refine ⟨hpw.imp fun {y x} h e => ?_, fun j hj => Nat.le_of_ble_eq_true (List.all_eq_true.1 h3' j hj)⟩
    subst e
    simp [pairB] at h
  have hs' : St n D H₀ w₀ τ H a { w with drawn := w.drawn + 1 } :=
    ⟨hs.defers, hs.rel, hs.sub, hs.keeps.trans ⟨rfl, rfl, rfl, Nat.le_refl _, fun _ _ _ => rfl, fun _ h h' => absurd h h'⟩⟩
  refine dsound h1 hd hm hdeps hn ops.size ord _ τ H a _ ⟨fun j => ?_, by simp, hnodup.1, pairsB_spec h5, fun e he => ?_⟩ (by omega) hs' (rDraw_of _ _ _ h)
  · constructor
    · intro hj; exact ⟨hnodup.2 j hj, by simp [hnodup.2 j hj]⟩
    · rintro ⟨hj, _⟩; exact hcov j hj
  · by_cases h : e < ops.size
    · simp [h] at he
    · simp [h] at he
end Go.V
