/- A heap view over the model's world, the weakest precondition of a model operation over it, and its soundness. -/
import Derived.Calls
import Derived.Orders
import Derived.KernelRfl
namespace Go.V

/-- What is known of the heap: some of its blocks. -/
def Heap := Nat → Option Obj

namespace Heap
def set (H : Heap) (i : Nat) (o : Obj) : Heap := fun j => if j = i then some o else H j
def cell? (H : Heap) (a : Addr) : Option Value :=
  match H a.block with
  | some (.cells c _ _) => if a.spot.isSome then none else c[a.off]?
  | _ => none
theorem set_self (H : Heap) (i : Nat) (o : Obj) : (H.set i o) i = some o := by simp [set]
theorem set_ne (H : Heap) {i j : Nat} (o : Obj) (h : j ≠ i) : (H.set i o) j = H j := by simp [set, h]
theorem get_set (H : Heap) (i j : Nat) (o : Obj) : (H.set i o) j = if j = i then some o else H j := rfl
theorem set_set (H : Heap) (i : Nat) (o o' : Obj) : (H.set i o).set i o' = H.set i o' := by
  funext j; simp only [set]; split <;> rfl
theorem set_comm (H : Heap) {i j : Nat} (o o' : Obj) (h : i ≠ j) : (H.set i o).set j o' = (H.set j o').set i o := by
  funext k; simp only [set]; (repeat' split) <;> simp_all
end Heap

/-- The blocks of the view stand in the world. -/
def Sub (H : Heap) (w : World) : Prop := ∀ i o, H i = some o → w.heap[i]? = some o

theorem Sub.lt {H : Heap} {w : World} (h : Sub H w) {i : Nat} {o : Obj} (hi : H i = some o) : i < w.heap.size :=
  (Array.getElem?_eq_some_iff.1 (h i o hi)).1
theorem Sub.none {H : Heap} {w : World} (h : Sub H w) : H w.heap.size = none := by
  cases hi : H w.heap.size with
  | none => rfl
  | some o => exact absurd (h.lt hi) (Nat.lt_irrefl _)

/-- What a piece of a run leaves alone. -/
structure Keeps (H H' : Heap) (w w' : World) : Prop where
  os : w'.os = w.os
  tape : w'.tape = w.tape
  output : w'.output = w.output
  size : w.heap.size ≤ w'.heap.size
  same : ∀ i, i < w.heap.size → H i = none → w'.heap[i]? = w.heap[i]?
  fresh : ∀ i, H i = none → H' i ≠ none → w.heap.size ≤ i

theorem Keeps.refl (H : Heap) (w : World) : Keeps H H w w := ⟨rfl, rfl, rfl, Nat.le_refl _, fun _ _ _ => rfl, fun _ h h' => absurd h h'⟩
theorem Keeps.trans {H H₁ H₂ : Heap} {w w₁ w₂ : World} (a : Keeps H H₁ w w₁) (b : Keeps H₁ H₂ w₁ w₂) : Keeps H H₂ w w₂ where
  os := b.os.trans a.os
  tape := b.tape.trans a.tape
  output := b.output.trans a.output
  size := Nat.le_trans a.size b.size
  same i hi hn := by
    have h1 : H₁ i = none := by
      cases h : H₁ i with
      | none => rfl
      | some o => exact absurd (a.fresh i hn (by simp [h])) (by omega)
    exact (b.same i (by have := a.size; omega) h1).trans (a.same i hi hn)
  fresh i hn hs := by
    cases h : H₁ i with
    | none => have := b.fresh i h hs; have := a.size; omega
    | some o => exact a.fresh i hn (by simp [h])

/-- An answer of the run, with what is known behind it. -/
def Post {α : Type} (H : Heap) (w : World) (Q : α → Heap → Prop) (E : Value → Heap → Prop) : Result α → Prop
  | .ok a w' => ∃ H', Sub H' w' ∧ Keeps H H' w w' ∧ Q a H'
  | .halt (.panic v) w' => ∃ H', Sub H' w' ∧ Keeps H H' w w' ∧ E v H'
  | _ => False

theorem Post.trans {α : Type} {H H₁ : Heap} {w w₁ : World} {Q : α → Heap → Prop} {E : Value → Heap → Prop} {r : Result α}
    (k : Keeps H H₁ w w₁) (h : Post H₁ w₁ Q E r) : Post H w Q E r := by
  cases r with
  | ok a w' => obtain ⟨H', hs, hk, hq⟩ := h; exact ⟨H', hs, k.trans hk, hq⟩
  | halt x w' =>
    cases x <;> first | exact h.elim | (obtain ⟨H', hs, hk, hq⟩ := h; exact ⟨H', hs, k.trans hk, hq⟩)

/-- The value of one cell. -/
def oneC : Value → Bool
  | .agg _ | .tuple _ => false
  | _ => true

/-- The weakest precondition of a model operation over a heap view. -/
def vp {α : Type} (P : Program) : Sem α → (α → Heap → Prop) → (Value → Heap → Prop) → Heap → Prop
  | .pure a, Q, _, H => Q a H
  | .load _ a k, Q, E, H => match H.cell? a with
    | some v => vp P (k v) Q E H
    | none => False
  | .store _ a v k, Q, E, H => oneC v = true ∧ a.spot = none ∧ match H a.block with
    | some (.cells c t fr) => a.off < c.size ∧ ¬ (fr.1 ≤ a.off ∧ a.off < fr.2) ∧ vp P k Q E (H.set a.block (.cells (c.setIfInBounds a.off v) t fr))
    | _ => False
  | .new o k, Q, E, H => ∀ id, H id = none → vp P (k id) Q E (H.set id o)
  | .shape r k, Q, E, H => match H r with
    | some (.cells c t _) => vp P (k (some (t, c.size))) Q E H
    | some _ => vp P (k none) Q E H
    | none => False
  | .freeze a n k, Q, E, H => match H a.block with
    | some (.cells c t fr) => vp P k Q E (if n = 0 then H else H.set a.block (.cells c t (if fr.1 == fr.2 then (a.off, a.off + n) else (min fr.1 a.off, max fr.2 (a.off + n)))))
    | _ => False
  | .frozen a k, Q, E, H => match H a.block with
    | some (.cells _ _ fr) => vp P (k (fr.1 ≤ a.off && a.off < fr.2)) Q E H
    | some _ => vp P (k false) Q E H
    | none => False
  | .getObj r k, Q, E, H => match H r with
    | some (.cells ..) => False
    | some o => vp P (k o) Q E H
    | none => False
  | .setObj r o k, Q, E, H => match H r with
    | some (.cells ..) => False
    | some _ => vp P k Q E (H.set r o)
    | none => False
  | .choose q k, Q, E, H => if q.forced then vp P (k 0) Q E H else ∀ t, vp P (k (q.cut t)) Q E H
  | .sys _ _, _, _, _ => False
  | .program k, Q, E, H => vp P (k P) Q E H
  | .mark _ k, Q, E, H => vp P k Q E H
  | .halt (.panic v), _, E, H => E v H
  | .halt _, _, _, _ => False

theorem Sub.set_new {H : Heap} {w : World} (h : Sub H w) (o : Obj) : Sub (H.set w.heap.size o) { w with heap := w.heap.push o } := by
  intro i x hx
  by_cases hi : i = w.heap.size
  · subst hi; rw [Heap.set_self] at hx; cases hx; simp
  · rw [Heap.set_ne _ _ hi] at hx
    have := h.lt hx
    rw [Array.getElem?_push, if_neg hi]; exact h i x hx
theorem Keeps.new (H : Heap) (w : World) (o : Obj) : Keeps H (H.set w.heap.size o) w { w with heap := w.heap.push o } where
  os := rfl
  tape := rfl
  output := rfl
  size := by simp
  same i hi _ := by show (w.heap.push o)[i]? = _; rw [Array.getElem?_push, if_neg (by omega)]
  fresh i hn hs := by
    by_cases hi : i = w.heap.size
    · omega
    · rw [Heap.set_ne _ _ hi] at hs; exact absurd hn hs

theorem Sub.put {H : Heap} {w : World} (h : Sub H w) {b : Nat} {x : Obj} (hb : H b = some x) (o : Obj) {w' : World} (hh : w'.heap = w.heap.setIfInBounds b o) : Sub (H.set b o) w' := by
  intro i y hy
  by_cases hi : i = b
  · subst hi; rw [Heap.set_self] at hy; cases hy; rw [hh]; simp [h.lt hb]
  · rw [Heap.set_ne _ _ hi] at hy; rw [hh, Array.getElem?_setIfInBounds_ne (Ne.symm hi)]; exact h i y hy
theorem Keeps.put {H : Heap} {w : World} {b : Nat} {x : Obj} (hb : H b = some x) (o : Obj) {w' : World} (hh : w'.heap = w.heap.setIfInBounds b o)
    (h1 : w'.os = w.os) (h2 : w'.tape = w.tape) (h3 : w'.output = w.output) : Keeps H (H.set b o) w w' where
  os := h1
  tape := h2
  output := h3
  size := by simp [hh]
  same i hi hn := by
    have hne : b ≠ i := fun e => by subst e; rw [hb] at hn; cases hn
    rw [hh, Array.getElem?_setIfInBounds_ne hne]
  fresh i hn hs := by
    by_cases hi : i = b
    · subst hi; rw [hb] at hn; cases hn
    · rw [Heap.set_ne _ _ hi] at hs; exact absurd hn hs

theorem modify_eq_set {α : Type} (a : Array α) (i : Nat) (f : α → α) (x : α) (h : a[i]? = some x) : a.modify i f = a.setIfInBounds i (f x) := by
  obtain ⟨hi, hx⟩ := Array.getElem?_eq_some_iff.1 h
  apply Array.ext_getElem?
  intro j
  rw [Array.getElem?_modify, Array.getElem?_setIfInBounds]
  by_cases hij : i = j
  · subst hij; simp [hi, hx]
  · simp [hij]

theorem Sub.cell {H : Heap} {w : World} (h : Sub H w) {a : Addr} {v : Value} (hc : H.cell? a = some v) : w.cell? a = some v := by
  unfold Heap.cell? at hc
  unfold World.cell?
  split at hc
  · rename_i c t fr hb; rw [h _ _ hb]; exact hc
  · cases hc

theorem vp_sound {α : Type} (P : Program) (s : Sem α) : ∀ (Q : α → Heap → Prop) (E : Value → Heap → Prop) (H : Heap) (w : World),
    vp P s Q E H → Sub H w → Post H w Q E (s.run P w) := by
  induction s with
  | pure a => intro Q E H w h hs; exact ⟨H, hs, Keeps.refl _ _, h⟩
  | load m a k ih =>
    intro Q E H w h hs
    simp only [vp] at h
    split at h
    · rename_i v hv
      simp only [Sem.run, hs.cell hv]; exact ih v Q E H w h hs
    · exact h.elim
  | store m a v k ih =>
    intro Q E H w h hs
    simp only [vp] at h
    obtain ⟨h1, h2, h3⟩ := h
    split at h3
    · rename_i c t fr hb
      obtain ⟨h4, h5, h6⟩ := h3
      have hw := hs _ _ hb
      have hc : w.cell? a = some c[a.off] := by simp [World.cell?, hw, h2, h4]
      have hf : w.frozen? a = false := by
        simp only [World.frozen?, hw]
        simpa using fun h => by
          have := fun h' => h5 ⟨h, h'⟩
          omega
      have hset : w.setCell a v = { w with heap := w.heap.setIfInBounds a.block (.cells (c.setIfInBounds a.off v) t fr) } := by
        unfold World.setCell
        rw [modify_eq_set _ _ _ _ hw]
        simp [h2]
      have hrun : (Sem.store m a v k).run P w = k.run P (w.setCell a v) := by
        cases v <;> simp_all [Sem.run, oneC]
      rw [hrun, hset]
      exact Post.trans (w₁ := { w with heap := _ }) (Keeps.put hb _ rfl rfl rfl rfl) (ih Q E _ { w with heap := _ } h6 (hs.put hb _ rfl))
    · exact h3.elim
  | new o k ih =>
    intro Q E H w h hs
    simp only [vp] at h
    simp only [Sem.run]
    exact (ih _ Q E _ _ (h _ hs.none) (hs.set_new o)).trans (Keeps.new _ _ o)
  | shape r k ih =>
    intro Q E H w h hs
    simp only [vp] at h
    simp only [Sem.run, World.shape?]
    split at h
    · rename_i c t fr hb; rw [hs _ _ hb]; exact ih _ Q E H w h hs
    · rename_i o hne hb
      rw [hs _ _ hb]
      cases o <;> first | exact (hne _ _ _ rfl).elim | exact ih _ Q E H w h hs
    · exact h.elim
  | freeze a n k ih =>
    intro Q E H w h hs
    simp only [vp] at h
    simp only [Sem.run]
    split at h
    · rename_i c t fr hb
      have hw := hs _ _ hb
      by_cases hn : n = 0
      · simp only [hn, if_true] at h
        have : w.freeze a n = w := by simp [World.freeze, hn]
        rw [hn] at this ⊢; rw [this]; exact ih Q E H w h hs
      · simp only [hn, if_false] at h
        have : w.freeze a n = { w with heap := w.heap.setIfInBounds a.block (.cells c t (if fr.1 == fr.2 then (a.off, a.off + n) else (min fr.1 a.off, max fr.2 (a.off + n)))) } := by
          unfold World.freeze
          rw [if_neg hn, modify_eq_set _ _ _ _ hw]
        rw [this]
        exact Post.trans (w₁ := { w with heap := _ }) (Keeps.put hb _ rfl rfl rfl rfl) (ih Q E _ { w with heap := _ } h (hs.put hb _ rfl))
    · exact h.elim
  | frozen a k ih =>
    intro Q E H w h hs
    simp only [vp] at h
    simp only [Sem.run, World.frozen?]
    split at h
    · rename_i c t fr hb; rw [hs _ _ hb]; exact ih _ Q E H w h hs
    · rename_i o hne hb
      rw [hs _ _ hb]
      cases o <;> first | exact (hne _ _ _ rfl).elim | exact ih _ Q E H w h hs
    · exact h.elim
  | getObj r k ih =>
    intro Q E H w h hs
    simp only [vp] at h
    simp only [Sem.run]
    split at h
    · exact h.elim
    · rename_i o hne hb
      rw [hs _ _ hb]
      cases o <;> first | exact (hne _ _ _ rfl).elim | exact ih _ Q E H w h hs
    · exact h.elim
  | setObj r o k ih =>
    intro Q E H w h hs
    simp only [vp] at h
    simp only [Sem.run]
    split at h
    · exact h.elim
    · rename_i o' hne hb
      have k1 : Keeps H (H.set r o) w { w with heap := w.heap.setIfInBounds r o } := Keeps.put hb o rfl rfl rfl rfl
      have := Post.trans k1 (ih Q E _ _ h (hs.put hb o rfl))
      rw [hs _ _ hb]
      cases o' <;> first | exact (hne _ _ _ rfl).elim | exact this
    · exact h.elim
  | choose q k ih =>
    intro Q E H w h hs
    simp only [vp] at h
    simp only [Sem.run]
    split
    · rename_i hq; simp only [hq, if_true] at h; exact ih _ Q E H w h hs
    · rename_i hq
      simp only [hq, Bool.false_eq_true, if_false] at h
      have k1 : Keeps H H w { w with drawn := w.drawn + 1 } := ⟨rfl, rfl, rfl, Nat.le_refl _, fun _ _ _ => rfl, fun _ h h' => absurd h h'⟩
      exact Post.trans k1 (ih _ Q E H { w with drawn := w.drawn + 1 } (h _) hs)
  | sys c k ih => intro Q E H w h hs; exact h.elim
  | program k ih => intro Q E H w h hs; simp only [vp] at h; simp only [Sem.run]; exact ih _ Q E H w h hs
  | mark m k ih => intro Q E H w h hs; simp only [vp] at h; simp only [Sem.run]; exact ih Q E H w h hs
  | halt x =>
    intro Q E H w h hs
    cases x <;> first | exact h.elim | exact ⟨H, hs, Keeps.refl _ _, h⟩

theorem vp_mono {α : Type} {P : Program} {s : Sem α} : ∀ {Q Q' : α → Heap → Prop} {E E' : Value → Heap → Prop} {H : Heap},
    vp P s Q E H → (∀ a H, Q a H → Q' a H) → (∀ v H, E v H → E' v H) → vp P s Q' E' H := by
  induction s with
  | pure a => intro Q Q' E E' H h hq he; exact hq _ _ h
  | load m a k ih => intro Q Q' E E' H h hq he; simp only [vp] at h ⊢; split at h <;> first | exact h.elim | exact ih _ h hq he
  | store m a v k ih =>
    intro Q Q' E E' H h hq he
    simp only [vp] at h ⊢
    refine ⟨h.1, h.2.1, ?_⟩
    have h := h.2.2
    split at h
    · exact ⟨h.1, h.2.1, ih h.2.2 hq he⟩
    · exact h.elim
  | new o k ih => intro Q Q' E E' H h hq he; simp only [vp] at h ⊢; exact fun id hid => ih _ (h id hid) hq he
  | shape r k ih => intro Q Q' E E' H h hq he; simp only [vp] at h ⊢; split at h <;> first | exact h.elim | exact ih _ h hq he
  | freeze a n k ih => intro Q Q' E E' H h hq he; simp only [vp] at h ⊢; split at h <;> first | exact h.elim | exact ih h hq he
  | frozen a k ih => intro Q Q' E E' H h hq he; simp only [vp] at h ⊢; split at h <;> first | exact h.elim | exact ih _ h hq he
  | getObj r k ih => intro Q Q' E E' H h hq he; simp only [vp] at h ⊢; split at h <;> first | exact h.elim | exact ih _ h hq he
  | setObj r o k ih => intro Q Q' E E' H h hq he; simp only [vp] at h ⊢; split at h <;> first | exact h.elim | exact ih h hq he
  | choose q k ih =>
    intro Q Q' E E' H h hq he
    simp only [vp] at h ⊢
    split
    · rename_i hf; simp only [hf, if_true] at h; exact ih _ h hq he
    · rename_i hf; simp only [hf, Bool.false_eq_true, if_false] at h; exact fun t => ih _ (h t) hq he
  | sys c k ih => intro Q Q' E E' H h hq he; exact h.elim
  | program k ih => intro Q Q' E E' H h hq he; simp only [vp] at h ⊢; exact ih _ h hq he
  | mark m k ih => intro Q Q' E E' H h hq he; simp only [vp] at h ⊢; exact ih h hq he
  | halt x => intro Q Q' E E' H h hq he; cases x <;> first | exact h.elim | exact he _ _ h

theorem vp_bind {α β : Type} {P : Program} (s : Sem α) (f : α → Sem β) : ∀ {Q : β → Heap → Prop} {E : Value → Heap → Prop} {H : Heap},
    vp P s (fun a H => vp P (f a) Q E H) E H → vp P (s.bind f) Q E H := by
  induction s with
  | pure a => intro Q E H h; exact h
  | load m a k ih => intro Q E H h; simp only [vp, Sem.bind] at h ⊢; split at h <;> first | exact h.elim | exact ih _ h
  | store m a v k ih =>
    intro Q E H h
    simp only [vp, Sem.bind] at h ⊢
    refine ⟨h.1, h.2.1, ?_⟩
    have h := h.2.2
    split at h
    · exact ⟨h.1, h.2.1, ih h.2.2⟩
    · exact h.elim
  | new o k ih => intro Q E H h; simp only [vp, Sem.bind] at h ⊢; exact fun id hid => ih _ (h id hid)
  | shape r k ih => intro Q E H h; simp only [vp, Sem.bind] at h ⊢; split at h <;> first | exact h.elim | exact ih _ h
  | freeze a n k ih => intro Q E H h; simp only [vp, Sem.bind] at h ⊢; split at h <;> first | exact h.elim | exact ih h
  | frozen a k ih => intro Q E H h; simp only [vp, Sem.bind] at h ⊢; split at h <;> first | exact h.elim | exact ih _ h
  | getObj r k ih => intro Q E H h; simp only [vp, Sem.bind] at h ⊢; split at h <;> first | exact h.elim | exact ih _ h
  | setObj r o k ih => intro Q E H h; simp only [vp, Sem.bind] at h ⊢; split at h <;> first | exact h.elim | exact ih h
  | choose q k ih =>
    intro Q E H h
    simp only [vp, Sem.bind] at h ⊢
    split
    · rename_i hf; simp only [hf, if_true] at h; exact ih _ h
    · rename_i hf; simp only [hf, Bool.false_eq_true, if_false] at h; exact fun t => ih _ (h t)
  | sys c k ih => intro Q E H h; exact h.elim
  | program k ih => intro Q E H h; simp only [vp, Sem.bind] at h ⊢; exact ih _ h
  | mark m k ih => intro Q E H h; simp only [vp, Sem.bind] at h ⊢; exact ih h
  | halt x => intro Q E H h; cases x <;> first | exact h.elim | exact h

end Go.V
