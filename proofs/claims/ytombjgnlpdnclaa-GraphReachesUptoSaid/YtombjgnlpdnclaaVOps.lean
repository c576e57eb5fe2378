import Derived.Calls
import Derived.Orders
import Derived.KernelRfl
import Derived.Scope
/- A heap view over the model's world, the weakest precondition of a model operation over it, and its soundness. -/
namespace Go.V

def Heap := Nat → Option Obj

namespace Heap
def set (H : Heap) (i : Nat) (o : Obj) : Heap := fun j => if j = i then some o else H j
def cell? (H : Heap) (a : Addr) : Option Value :=
  match H a.block with
  | some (.cells c _ _) => if a.spot.isSome then none else c[a.off]?
  | _ => none
theorem set_self (H : Heap) (i : Nat) (o : Obj) : (H.set i o) i = some o := by simp [set]
theorem set_ne (H : Heap) {i j : Nat} (o : Obj) (h : j ≠ i) : (H.set i o) j = H j := by simp [set, h]
theorem set_set (H : Heap) (i : Nat) (o o' : Obj) : (H.set i o).set i o' = H.set i o' := by
  funext j; simp only [set]; split <;> rfl
theorem set_comm (H : Heap) {i j : Nat} (o o' : Obj) (h : i ≠ j) : (H.set i o).set j o' = (H.set j o').set i o := by
  funext k; simp only [set]; (repeat' split) <;> simp_all
end Heap

def Sub (H : Heap) (w : World) : Prop := ∀ i o, H i = some o → w.heap[i]? = some o

theorem Sub.lt {H : Heap} {w : World} (h : Sub H w) {i : Nat} {o : Obj} (hi : H i = some o) : i < w.heap.size :=
  (Array.getElem?_eq_some_iff.1 (h i o hi)).1
theorem Sub.none {H : Heap} {w : World} (h : Sub H w) : H w.heap.size = none := by
  cases hi : H w.heap.size with
  | none => rfl
  | some o => exact absurd (h.lt hi) (Nat.lt_irrefl _)

structure Keeps (H H' : Heap) (w w' : World) : Prop where
  os : w'.os = w.os
  tape : w'.tape = w.tape
  output : w'.output = w.output
  size : w.heap.size ≤ w'.heap.size
  same : ∀ i, i < w.heap.size → H i = none → w'.heap[i]? = w.heap[i]?
  fresh : ∀ i, H i = none → H' i ≠ none → w.heap.size ≤ i

theorem Keeps.refl (H : Heap) (w : World) : Keeps H H w w := ⟨rfl, rfl, rfl, Nat.le_refl _, fun _ _ _ => rfl, fun _ h h' => absurd h h'⟩
theorem Keeps.trans {H H₁ H₂ : Heap} {w w₁ w₂ : World} (a : Keeps H H₁ w w₁) (b : Keeps H₁ H₂ w₁ w₂) : Keeps H H₂ w w₂ where
  os := b.os.trans a.os
  tape := b.tape.trans a.tape
  output := b.output.trans a.output
  size := Nat.le_trans a.size b.size
  same i hi hn := by
    have h1 : H₁ i = none := by
      cases h : H₁ i with
      | none => rfl
      | some o => exact absurd (a.fresh i hn (by simp [h])) (by omega)
    exact (b.same i (by have := a.size; omega) h1).trans (a.same i hi hn)
  fresh i hn hs := by
    cases h : H₁ i with
    | none => have := b.fresh i h hs; have := a.size; omega
    | some o => exact a.fresh i hn (by simp [h])

def Post {α : Type} (H : Heap) (w : World) (Q : α → Heap → Prop) (E : Value → Heap → Prop) : Result α → Prop
  | .ok a w' => ∃ H', Sub H' w' ∧ Keeps H H' w w' ∧ Q a H'
  | .halt (.panic v) w' => ∃ H', Sub H' w' ∧ Keeps H H' w w' ∧ E v H'
  | _ => False

theorem Post.trans {α : Type} {H H₁ : Heap} {w w₁ : World} {Q : α → Heap → Prop} {E : Value → Heap → Prop} {r : Result α}
    (k : Keeps H H₁ w w₁) (h : Post H₁ w₁ Q E r) : Post H w Q E r := by
  cases r with
  | ok a w' => obtain ⟨H', hs, hk, hq⟩ := h; exact ⟨H', hs, k.trans hk, hq⟩
  | halt x w' =>
    cases x <;> first | exact h.elim | (obtain ⟨H', hs, hk, hq⟩ := h; exact ⟨H', hs, k.trans hk, hq⟩)

def oneC : Value → Bool
  | .agg _ | .tuple _ => false
  | _ => true

def vp {α : Type} (P : Program) : Sem α → (α → Heap → Prop) → (Value → Heap → Prop) → Heap → Prop
  | .pure a, Q, _, H => Q a H
  | .load _ a k, Q, E, H => match H.cell? a with
    | some v => vp P (k v) Q E H
    | none => False
  | .store _ a v k, Q, E, H => oneC v = true ∧ a.spot = none ∧ match H a.block with
    | some (.cells c t fr) => a.off < c.size ∧ ¬ (fr.1 ≤ a.off ∧ a.off < fr.2) ∧ vp P k Q E (H.set a.block (.cells (c.setIfInBounds a.off v) t fr))
    | _ => False
  | .new o k, Q, E, H => ∀ id, H id = none → vp P (k id) Q E (H.set id o)
  | .shape r k, Q, E, H => match H r with
    | some (.cells c t _) => vp P (k (some (t, c.size))) Q E H
    | some _ => vp P (k none) Q E H
    | none => False
  | .freeze a n k, Q, E, H => match H a.block with
    | some (.cells c t fr) => vp P k Q E (if n = 0 then H else H.set a.block (.cells c t (if fr.1 == fr.2 then (a.off, a.off + n) else (min fr.1 a.off, max fr.2 (a.off + n)))))
    | _ => False
  | .frozen a k, Q, E, H => match H a.block with
    | some (.cells _ _ fr) => vp P (k (fr.1 ≤ a.off && a.off < fr.2)) Q E H
    | some _ => vp P (k false) Q E H
    | none => False
  | .getObj r k, Q, E, H => match H r with
    | some (.cells ..) => False
    | some o => vp P (k o) Q E H
    | none => False
  | .setObj r o k, Q, E, H => match H r with
    | some (.cells ..) => False
    | some _ => vp P k Q E (H.set r o)
    | none => False
  | .choose q k, Q, E, H => if q.forced then vp P (k 0) Q E H else ∀ t, vp P (k (q.cut t)) Q E H
  | .sys _ _, _, _, _ => False
  | .program k, Q, E, H => vp P (k P) Q E H
  | .mark _ k, Q, E, H => vp P k Q E H
  | .halt (.panic v), _, E, H => E v H
  | .halt _, _, _, _ => False

theorem Sub.set_new {H : Heap} {w : World} (h : Sub H w) (o : Obj) : Sub (H.set w.heap.size o) { w with heap := w.heap.push o } := by
  intro i x hx
  by_cases hi : i = w.heap.size
  · subst hi; rw [Heap.set_self] at hx; cases hx; simp
  · rw [Heap.set_ne _ _ hi] at hx
    have := h.lt hx
    rw [Array.getElem?_push, if_neg hi]; exact h i x hx
theorem Keeps.new (H : Heap) (w : World) (o : Obj) : Keeps H (H.set w.heap.size o) w { w with heap := w.heap.push o } where
  os := rfl
  tape := rfl
  output := rfl
  size := by simp
  same i hi _ := by show (w.heap.push o)[i]? = _; rw [Array.getElem?_push, if_neg (by omega)]
  fresh i hn hs := by
    by_cases hi : i = w.heap.size
    · omega
    · rw [Heap.set_ne _ _ hi] at hs; exact absurd hn hs

theorem Sub.put {H : Heap} {w : World} (h : Sub H w) {b : Nat} {x : Obj} (hb : H b = some x) (o : Obj) {w' : World} (hh : w'.heap = w.heap.setIfInBounds b o) : Sub (H.set b o) w' := by
  intro i y hy
  by_cases hi : i = b
  · subst hi; rw [Heap.set_self] at hy; cases hy; rw [hh]; simp [h.lt hb]
  · rw [Heap.set_ne _ _ hi] at hy; rw [hh, Array.getElem?_setIfInBounds_ne (Ne.symm hi)]; exact h i y hy
theorem Keeps.put {H : Heap} {w : World} {b : Nat} {x : Obj} (hb : H b = some x) (o : Obj) {w' : World} (hh : w'.heap = w.heap.setIfInBounds b o)
    (h1 : w'.os = w.os) (h2 : w'.tape = w.tape) (h3 : w'.output = w.output) : Keeps H (H.set b o) w w' where
  os := h1
  tape := h2
  output := h3
  size := by simp [hh]
  same i hi hn := by
    have hne : b ≠ i := fun e => by subst e; rw [hb] at hn; cases hn
    rw [hh, Array.getElem?_setIfInBounds_ne hne]
  fresh i hn hs := by
    by_cases hi : i = b
    · subst hi; rw [hb] at hn; cases hn
    · rw [Heap.set_ne _ _ hi] at hs; exact absurd hn hs

theorem modify_eq_set {α : Type} (a : Array α) (i : Nat) (f : α → α) (x : α) (h : a[i]? = some x) : a.modify i f = a.setIfInBounds i (f x) := by
  obtain ⟨hi, hx⟩ := Array.getElem?_eq_some_iff.1 h
  apply Array.ext_getElem?
  intro j
  rw [Array.getElem?_modify, Array.getElem?_setIfInBounds]
  by_cases hij : i = j
  · subst hij; simp [hi, hx]
  · simp [hij]

theorem Sub.cell {H : Heap} {w : World} (h : Sub H w) {a : Addr} {v : Value} (hc : H.cell? a = some v) : w.cell? a = some v := by
  unfold Heap.cell? at hc
  unfold World.cell?
  split at hc
  · rename_i c t fr hb; rw [h _ _ hb]; exact hc
  · cases hc

theorem vp_sound {α : Type} (P : Program) (s : Sem α) : ∀ (Q : α → Heap → Prop) (E : Value → Heap → Prop) (H : Heap) (w : World),
    vp P s Q E H → Sub H w → Post H w Q E (s.run P w) := by
  induction s with
  | pure a => intro Q E H w h hs; exact ⟨H, hs, Keeps.refl _ _, h⟩
  | load m a k ih =>
    intro Q E H w h hs
    simp only [vp] at h
    split at h
    · rename_i v hv
      simp only [Sem.run, hs.cell hv]; exact ih v Q E H w h hs
    · exact h.elim
  | store m a v k ih =>
    intro Q E H w h hs
    simp only [vp] at h
    obtain ⟨h1, h2, h3⟩ := h
    split at h3
    · rename_i c t fr hb
      obtain ⟨h4, h5, h6⟩ := h3
      have hw := hs _ _ hb
      have hc : w.cell? a = some c[a.off] := by simp [World.cell?, hw, h2, h4]
      have hf : w.frozen? a = false := by
        simp only [World.frozen?, hw]
        simpa using fun h => by
          have := fun h' => h5 ⟨h, h'⟩
          omega
      have hset : w.setCell a v = { w with heap := w.heap.setIfInBounds a.block (.cells (c.setIfInBounds a.off v) t fr) } := by
        unfold World.setCell
        rw [modify_eq_set _ _ _ _ hw]
        simp [h2]
      have hrun : (Sem.store m a v k).run P w = k.run P (w.setCell a v) := by
        cases v <;> simp_all [Sem.run, oneC]
      rw [hrun, hset]
      exact Post.trans (w₁ := { w with heap := _ }) (Keeps.put hb _ rfl rfl rfl rfl) (ih Q E _ { w with heap := _ } h6 (hs.put hb _ rfl))
    · exact h3.elim
  | new o k ih =>
    intro Q E H w h hs
    simp only [vp] at h
    simp only [Sem.run]
    exact (ih _ Q E _ _ (h _ hs.none) (hs.set_new o)).trans (Keeps.new _ _ o)
  | shape r k ih =>
    intro Q E H w h hs
    simp only [vp] at h
    simp only [Sem.run, World.shape?]
    split at h
    · rename_i c t fr hb; rw [hs _ _ hb]; exact ih _ Q E H w h hs
    · rename_i o hne hb
      rw [hs _ _ hb]
      cases o <;> first | exact (hne _ _ _ rfl).elim | exact ih _ Q E H w h hs
    · exact h.elim
  | freeze a n k ih =>
    intro Q E H w h hs
    simp only [vp] at h
    simp only [Sem.run]
    split at h
    · rename_i c t fr hb
      have hw := hs _ _ hb
      by_cases hn : n = 0
      · simp only [hn, if_true] at h
        have : w.freeze a n = w := by simp [World.freeze, hn]
        rw [hn] at this ⊢; rw [this]; exact ih Q E H w h hs
      · simp only [hn, if_false] at h
        have : w.freeze a n = { w with heap := w.heap.setIfInBounds a.block (.cells c t (if fr.1 == fr.2 then (a.off, a.off + n) else (min fr.1 a.off, max fr.2 (a.off + n)))) } := by
          unfold World.freeze
          rw [if_neg hn, modify_eq_set _ _ _ _ hw]
        rw [this]
        exact Post.trans (w₁ := { w with heap := _ }) (Keeps.put hb _ rfl rfl rfl rfl) (ih Q E _ { w with heap := _ } h (hs.put hb _ rfl))
    · exact h.elim
  | frozen a k ih =>
    intro Q E H w h hs
    simp only [vp] at h
    simp only [Sem.run, World.frozen?]
    split at h
    · rename_i c t fr hb; rw [hs _ _ hb]; exact ih _ Q E H w h hs
    · rename_i o hne hb
      rw [hs _ _ hb]
      cases o <;> first | exact (hne _ _ _ rfl).elim | exact ih _ Q E H w h hs
    · exact h.elim
  | getObj r k ih =>
    intro Q E H w h hs
    simp only [vp] at h
    simp only [Sem.run]
    split at h
    · exact h.elim
    · rename_i o hne hb
      rw [hs _ _ hb]
      cases o <;> first | exact (hne _ _ _ rfl).elim | exact ih _ Q E H w h hs
    · exact h.elim
  | setObj r o k ih =>
    intro Q E H w h hs
    simp only [vp] at h
    simp only [Sem.run]
    split at h
    · exact h.elim
    · rename_i o' hne hb
      have k1 : Keeps H (H.set r o) w { w with heap := w.heap.setIfInBounds r o } := Keeps.put hb o rfl rfl rfl rfl
      have := Post.trans k1 (ih Q E _ _ h (hs.put hb o rfl))
      rw [hs _ _ hb]
      cases o' <;> first | exact (hne _ _ _ rfl).elim | exact this
    · exact h.elim
  | choose q k ih =>
    intro Q E H w h hs
    simp only [vp] at h
    simp only [Sem.run]
    split
    · rename_i hq; simp only [hq, if_true] at h; exact ih _ Q E H w h hs
    · rename_i hq
      simp only [hq, Bool.false_eq_true, if_false] at h
      have k1 : Keeps H H w { w with drawn := w.drawn + 1 } := ⟨rfl, rfl, rfl, Nat.le_refl _, fun _ _ _ => rfl, fun _ h h' => absurd h h'⟩
      exact Post.trans k1 (ih _ Q E H { w with drawn := w.drawn + 1 } (h _) hs)
  | sys c k ih => intro Q E H w h hs; exact h.elim
  | program k ih => intro Q E H w h hs; simp only [vp] at h; simp only [Sem.run]; exact ih _ Q E H w h hs
  | mark m k ih => intro Q E H w h hs; simp only [vp] at h; simp only [Sem.run]; exact ih Q E H w h hs
  | halt x =>
    intro Q E H w h hs
    cases x <;> first | exact h.elim | exact ⟨H, hs, Keeps.refl _ _, h⟩

theorem vp_mono {α : Type} {P : Program} {s : Sem α} : ∀ {Q Q' : α → Heap → Prop} {E E' : Value → Heap → Prop} {H : Heap},
    vp P s Q E H → (∀ a H, Q a H → Q' a H) → (∀ v H, E v H → E' v H) → vp P s Q' E' H := by
  induction s with
  | pure a => intro Q Q' E E' H h hq he; exact hq _ _ h
  | load m a k ih => intro Q Q' E E' H h hq he; simp only [vp] at h ⊢; split at h <;> first | exact h.elim | exact ih _ h hq he
  | store m a v k ih =>
    intro Q Q' E E' H h hq he
    simp only [vp] at h ⊢
    refine ⟨h.1, h.2.1, ?_⟩
    have h := h.2.2
    split at h
    · exact ⟨h.1, h.2.1, ih h.2.2 hq he⟩
    · exact h.elim
  | new o k ih => intro Q Q' E E' H h hq he; simp only [vp] at h ⊢; exact fun id hid => ih _ (h id hid) hq he
  | shape r k ih => intro Q Q' E E' H h hq he; simp only [vp] at h ⊢; split at h <;> first | exact h.elim | exact ih _ h hq he
  | freeze a n k ih => intro Q Q' E E' H h hq he; simp only [vp] at h ⊢; split at h <;> first | exact h.elim | exact ih h hq he
  | frozen a k ih => intro Q Q' E E' H h hq he; simp only [vp] at h ⊢; split at h <;> first | exact h.elim | exact ih _ h hq he
  | getObj r k ih => intro Q Q' E E' H h hq he; simp only [vp] at h ⊢; split at h <;> first | exact h.elim | exact ih _ h hq he
  | setObj r o k ih => intro Q Q' E E' H h hq he; simp only [vp] at h ⊢; split at h <;> first | exact h.elim | exact ih h hq he
  | choose q k ih =>
    intro Q Q' E E' H h hq he
    simp only [vp] at h ⊢
    split
    · rename_i hf; simp only [hf, if_true] at h; exact ih _ h hq he
    · rename_i hf; simp only [hf, Bool.false_eq_true, if_false] at h; exact fun t => ih _ (h t) hq he
  | sys c k ih => intro Q Q' E E' H h hq he; exact h.elim
  | program k ih => intro Q Q' E E' H h hq he; simp only [vp] at h ⊢; exact ih _ h hq he
  | mark m k ih => intro Q Q' E E' H h hq he; simp only [vp] at h ⊢; exact ih h hq he
  | halt x => intro Q Q' E E' H h hq he; cases x <;> first | exact h.elim | exact he _ _ h

theorem vp_bind {α β : Type} {P : Program} (s : Sem α) (f : α → Sem β) : ∀ {Q : β → Heap → Prop} {E : Value → Heap → Prop} {H : Heap},
    vp P s (fun a H => vp P (f a) Q E H) E H → vp P (s.bind f) Q E H := by
  induction s with
  | pure a => intro Q E H h; exact h
  | load m a k ih => intro Q E H h; simp only [vp, Sem.bind] at h ⊢; split at h <;> first | exact h.elim | exact ih _ h
  | store m a v k ih =>
    intro Q E H h
    simp only [vp, Sem.bind] at h ⊢
    refine ⟨h.1, h.2.1, ?_⟩
    have h := h.2.2
    split at h
    · exact ⟨h.1, h.2.1, ih h.2.2⟩
    · exact h.elim
  | new o k ih => intro Q E H h; simp only [vp, Sem.bind] at h ⊢; exact fun id hid => ih _ (h id hid)
  | shape r k ih => intro Q E H h; simp only [vp, Sem.bind] at h ⊢; split at h <;> first | exact h.elim | exact ih _ h
  | freeze a n k ih => intro Q E H h; simp only [vp, Sem.bind] at h ⊢; split at h <;> first | exact h.elim | exact ih h
  | frozen a k ih => intro Q E H h; simp only [vp, Sem.bind] at h ⊢; split at h <;> first | exact h.elim | exact ih _ h
  | getObj r k ih => intro Q E H h; simp only [vp, Sem.bind] at h ⊢; split at h <;> first | exact h.elim | exact ih _ h
  | setObj r o k ih => intro Q E H h; simp only [vp, Sem.bind] at h ⊢; split at h <;> first | exact h.elim | exact ih h
  | choose q k ih =>
    intro Q E H h
    simp only [vp, Sem.bind] at h ⊢
    split
    · rename_i hf; simp only [hf, if_true] at h; exact ih _ h
    · rename_i hf; simp only [hf, Bool.false_eq_true, if_false] at h; exact fun t => ih _ (h t)
  | sys c k ih => intro Q E H h; exact h.elim
  | program k ih => intro Q E H h; simp only [vp, Sem.bind] at h ⊢; exact ih _ h
  | mark m k ih => intro Q E H h; simp only [vp, Sem.bind] at h ⊢; exact ih h
  | halt x => intro Q E H h; cases x <;> first | exact h.elim | exact h

end Go.V

/- The weakest precondition of code over a heap view: nice forms of the operations, regions, statements, loops, calls. -/
namespace Go.V
set_option linter.constructorNameAsVariable false
set_option linter.unusedVariables false

def Tau := Nat → Value
def Tau.upd (τ : Tau) (i : Nat) (v : Value) : Tau := fun j => cond (Nat.beq j i) v (τ j)
def Tau.put (τ : Tau) (dst : Option Nat) (v : Value) : Tau := match dst with
  | some d => τ.upd d v
  | none => τ
def ev (τ : Tau) : Operand → Value
  | .tmp t => τ t
  | .const v => v
  | .global g => .pointer (some ⟨g, 0, none⟩)
  | .func f => .func (.func f) #[] #[]
theorem Tau.upd_self (τ : Tau) (i : Nat) : τ.upd i (τ i) = τ := by
  funext j; simp only [Tau.upd]; cases h : Nat.beq j i
  · rfl
  · rw [Nat.eq_of_beq_eq_true h]; rfl
theorem Tau.upd_eq (τ : Tau) {i : Nat} {v : Value} (h : τ i = v) : τ.upd i v = τ := by subst h; exact Tau.upd_self τ i

abbrev Chain := List PanicEntry

def goFn (P : Program) (f : FuncId) : Bool := match P.funcs[f]? with
  | some fn => !(fn.name == "runtime.NumGoroutine") && fn.body.isSome
  | none => false
def Does (P : Program) (f : FuncId) (args : Array Value) (H : Heap) (Q : Value → Heap → Prop) (E : Chain → Heap → Prop) : Prop :=
  goFn P f = true ∧ ∀ w, Sub H w → Calls P f args w fun e w' => match e with
    | .returned v => ∃ H', Sub H' w' ∧ Keeps H H' w w' ∧ Q v H'
    | .panicked ch => ∃ H', Sub H' w' ∧ Keeps H H' w w' ∧ E ch H'
    | .outgrown => False

theorem Does.mono {P : Program} {f : FuncId} {args : Array Value} {H : Heap} {Q Q' : Value → Heap → Prop} {E E' : Chain → Heap → Prop}
    (h : Does P f args H Q E) (hq : ∀ v H, Q v H → Q' v H) (he : ∀ c H, E c H → E' c H) : Does P f args H Q' E' := by
  refine ⟨h.1, fun w hs => ?_⟩
  refine Calls.mono (h.2 w hs) fun e w' hr => ?_
  cases e with
  | returned v => obtain ⟨H', a, b, c⟩ := hr; exact ⟨H', a, b, hq _ _ c⟩
  | panicked ch => obtain ⟨H', a, b, c⟩ := hr; exact ⟨H', a, b, he _ _ c⟩
  | outgrown => exact hr

/-! ### Types of a program, as shapes -/
inductive Shp where
  | i (k : IntKind) | b | s | p | sl | m | v
  deriving DecidableEq
def exS : Shp → (Value → Prop) → Prop
  | .i k, K => ∃ n : Int, K (.int k n)
  | .b, K => ∃ b : Bool, K (.bool b)
  | .s, K => ∃ s : ByteArray, K (.string s)
  | .p, K => ∃ p : Option Addr, K (.pointer p)
  | .sl, K => ∃ (p : Option Addr) (n c : Nat), K (.slice p n c)
  | .m, K => ∃ r : Option Nat, K (.map r)
  | .v, K => ∃ v : Value, K v
def exL : List Shp → (List Value → Prop) → Prop
  | [], K => K []
  | s :: l, K => exS s fun v => exL l fun vs => K (v :: vs)
def rep {α : Type} : Nat → List α → List α
  | 0, _ => []
  | n + 1, l => l ++ rep n l
def shpD : TypeDesc → Shp
  | .int k => .i k | .bool => .b | .string => .s | .pointer _ => .p | .slice _ => .sl | .map _ _ => .m | _ => .v
def und (P : Program) (t : TypeId) : TypeDesc := (P.underlying t).getD .bool
def aggD : TypeDesc → Bool
  | .struct _ | .array _ _ => true
  | _ => false
def leafs (P : Program) : Nat → TypeId → List Shp
  | 0, _ => []
  | n + 1, t => match und P t with
    | .struct fs => fs.toList.flatMap fun f => leafs P n f.type
    | .array len e => rep len (leafs P n e)
    | d => [shpD d]
def Heap.rd (H : Heap) (a : Addr) : Nat → List Value → Prop
  | _, [] => True
  | i, v :: vs => H.cell? (a.add i) = some v ∧ H.rd a (i + 1) vs
def over (c : Array Value) : Nat → List Value → Array Value
  | _, [] => c
  | o, v :: vs => over (c.setIfInBounds o v) (o + 1) vs
def wr (a : Addr) (vs : List Value) (H : Heap) (K : Heap → Prop) : Prop :=
  ∃ c t fr, H a.block = some (.cells c t fr) ∧ a.spot = none ∧ a.off + vs.length ≤ c.size ∧ (a.off + vs.length ≤ fr.1 ∨ fr.2 ≤ a.off) ∧ vs.all oneC = true ∧
    K (H.set a.block (.cells (over c a.off vs) t fr))
def nw (o : Obj) (H : Heap) (K : Nat → Heap → Prop) : Prop := ∀ id, H id = none → K id (H.set id o)
def sel (b : Bool) (X Y : Prop) : Prop := match b with
  | true => X
  | false => Y
theorem sel_iff (b : Bool) (X Y : Prop) : sel b X Y ↔ (b = true → X) ∧ (b = false → Y) := by cases b <;> simp [sel]

def ptr (p : Option Addr) (K : Addr → Prop) : Prop := match p with
  | some a => K a
  | none => False
theorem ptr_some (a : Addr) (K : Addr → Prop) : ptr (some a) K = K a := rfl
def sAt (s : ByteArray) (n : Int) : Int := ((s.data.getD n.toNat 0).toNat : Int)
def bnd (o : Option Value) (d y : Nat) (K : Nat → Prop) : Prop := match o with
  | none => K d
  | some (.int _ i) => (0 ≤ i ∧ i ≤ (y : Int)) ∧ K i.toNat
  | _ => False
def Heap.rdS (H : Heap) (p : Option Addr) (vs : List Value) : Prop := match p with
  | none => vs = []
  | some ad => H.rd ad 0 vs
def wrS (p : Option Addr) (o : Nat) (vs : List Value) (H : Heap) (K : Heap → Prop) : Prop := match vs with
  | [] => K H
  | v :: l => ptr p fun ad => wr (ad.add o) (v :: l) H K

/-! ### The nice forms of operations: K takes the operation's value -/
section
variable (P : Program)
def tyD (t : TypeId) (K : TypeDesc → Prop) : Prop := match P.underlying t with
  | some d => K d
  | none => False
def tyI (t : TypeId) (K : TypeInfo → Prop) : Prop := match P.info? t with
  | some i => K i
  | none => False
def tyZ (t : TypeId) (K : List Value → Prop) : Prop := tyI P t fun i => match i.zero with
  | some z => match Nat.beq z.cells.size i.size with
    | true => K z.cells.toList
    | false => False
  | none => False
def nLoad (t : TypeId) (a : Value) (K : Value → Heap → Prop) (H : Heap) : Prop :=
  match a with
  | .pointer p => ptr p fun ad => tyD P t fun d => match aggD d with
    | true => tyI P t fun i => match Nat.beq (leafs P 100 t).length i.size && Nat.blt 0 i.size with
      | true => exL (leafs P 100 t) fun vs => H.rd ad 0 vs ∧ K (.agg vs.toArray) H
      | false => False
    | false => exS (shpD d) fun v => H.cell? ad = some v ∧ K v H
  | _ => False
def nStore (t : TypeId) (a x : Value) (K : Value → Heap → Prop) (H : Heap) : Prop :=
  match a with
  | .pointer p => ptr p fun ad => tyI P t fun i => match Nat.beq x.cells.size i.size with
    | true => wr ad x.cells.toList H fun H => K undef H
    | false => False
  | _ => False
def nBox (t : TypeId) (x : Value) (K : Value → Heap → Prop) (H : Heap) : Prop :=
  nw (.cells x.cells t (0, 0)) H fun id H => K (.pointer (some ⟨id, 0, none⟩)) H
def nAlloc (t : TypeId) (K : Value → Heap → Prop) (H : Heap) : Prop :=
  tyI P t fun i => match i.zero with
  | some z => nw (.cells z.cells t (0, 0)) H fun id H => K (.pointer (some ⟨id, 0, none⟩)) H
  | none => False
def nNilCheck (x : Value) (K : Value → Heap → Prop) (H : Heap) : Prop :=
  match x with
  | .pointer p => ptr p fun ad => K (.pointer (some ad)) H
  | .iface t v => K (.iface t v) H
  | .func (.func f) a b => K (.func (.func f) a b) H
  | .map r => K (.map r) H
  | .slice p n c => K (.slice p n c) H
  | _ => False
def nFieldAddr (s : TypeId) (x : Value) (f : Nat) (K : Value → Heap → Prop) (H : Heap) : Prop :=
  match x with
  | .pointer p => ptr p fun ad => tyD P s fun d => match d with
    | .struct fs => match fs[f]? with
      | some fd => tyI P fd.type fun i => match Nat.beq i.size 0 with
        | false => K (.pointer (some (ad.add fd.offset))) H
        | true => False
      | none => False
    | _ => False
  | _ => False
def nIndexAddr (t : TypeId) (x i : Value) (K : Value → Heap → Prop) (H : Heap) : Prop :=
  match i with
  | .int _ n => tyD P t fun d => match d, x with
    | .array len e, .pointer p => tyI P e fun i => ptr p fun ad => (0 ≤ n ∧ n < (len : Int)) ∧ K (.pointer (some (ad.add (n.toNat * i.size)))) H
    | .slice e, .slice p len _ => tyI P e fun i => (0 ≤ n ∧ n < (len : Int)) ∧ ptr p fun ad => K (.pointer (some (ad.add (n.toNat * i.size)))) H
    | _, _ => False
  | _ => False
def nIndex (t : TypeId) (x i : Value) (K : Value → Heap → Prop) (H : Heap) : Prop :=
  match i with
  | .int _ n => tyD P t fun d => match d, x with
    | .array len e, .agg cs => tyI P e fun i => tyD P e fun d => match aggD d with
      | true => False
      | false => (0 ≤ n ∧ n < (len : Int)) ∧ exS (shpD d) fun v => cs.toList[n.toNat * i.size]? = some v ∧ K v H
    | .string, .string s => (0 ≤ n ∧ n < (s.size : Int)) ∧ K (.int .u8 (sAt s n)) H
    | _, _ => False
  | _ => False
def nField (t : TypeId) (x : Value) (f : Nat) (K : Value → Heap → Prop) (H : Heap) : Prop :=
  match x with
  | .agg cs => tyD P t fun d => match d with
    | .struct fs => match fs[f]? with
      | some fd => tyD P fd.type fun d => match aggD d with
        | true => tyI P fd.type fun i => K (.agg ((cs.toList.drop fd.offset).take i.size).toArray) H
        | false => match cs.toList[fd.offset]? with
          | some v => K v H
          | none => False
      | none => False
    | _ => False
  | _ => False
def nSlice (t : TypeId) (x : Value) (lo hi mx : Option Value) (K : Value → Heap → Prop) (H : Heap) : Prop :=
  tyD P t fun d => match d, x with
  | .string, .string s => match mx with
    | none => bnd hi s.size s.size fun h => bnd lo 0 h fun l => K (.string (s.extract l h)) H
    | some _ => False
  | .slice e, .slice p n c => tyI P e fun i => match mx, hi with
    | some _, none => False
    | _, _ => bnd mx c c fun m => bnd hi n m fun h => bnd lo 0 h fun l => K (.slice (if m = l then p else p.map (·.add (l * i.size))) (h - l) (m - l)) H
  | .array n e, .pointer p => tyI P e fun i => ptr p fun ad => match mx, hi with
    | some _, none => False
    | _, _ => bnd mx n n fun m => bnd hi n m fun h => bnd lo 0 h fun l => K (.slice (some (if m = l then ad else ad.add (l * i.size))) (h - l) (m - l)) H
  | _, _ => False
def nMake (t : TypeId) (l c : Value) (K : Value → Heap → Prop) (H : Heap) : Prop :=
  match l, c with
  | .int _ l, .int _ c => tyD P t fun d => match d with
    | .slice e => tyI P e fun i => tyZ P e fun z => (0 ≤ l ∧ l ≤ c ∧ c ≤ 281474976710656 ∧ i.bytes * c ≤ 281474976710656) ∧
        nw (.cells (rep c.toNat z).toArray e (0, 0)) H fun id H => K (.slice (some ⟨id, 0, none⟩) l.toNat c.toNat) H
    | _ => False
  | _, _ => False
def nPick (c a b : Value) (K : Value → Heap → Prop) (H : Heap) : Prop :=
  match c with
  | .bool c => sel c (K a H) (K b H)
  | _ => False
def intOp (op : BinOp) (k : IntKind) (a b : Int) : Option Value :=
  match op with
  | .add => some (.int k (k.wrap (a + b)))
  | .sub => some (.int k (k.wrap (a - b)))
  | .mul => some (.int k (k.wrap (a * b)))
  | .and => some (.int k (k.wrap (BitVec.ofInt k.bits a &&& BitVec.ofInt k.bits b).toNat))
  | .or => some (.int k (k.wrap (BitVec.ofInt k.bits a ||| BitVec.ofInt k.bits b).toNat))
  | .xor => some (.int k (k.wrap (BitVec.ofInt k.bits a ^^^ BitVec.ofInt k.bits b).toNat))
  | .andNot => some (.int k (k.wrap (BitVec.ofInt k.bits a &&& ~~~BitVec.ofInt k.bits b).toNat))
  | .eql => some (.bool (a == b))
  | .neq => some (.bool (a != b))
  | .lss => some (.bool (a < b))
  | .leq => some (.bool (a ≤ b))
  | .gtr => some (.bool (a > b))
  | .geq => some (.bool (a ≥ b))
  | _ => none
def strOp (op : BinOp) (a b : ByteArray) : Option Value :=
  match op with
  | .eql => some (.bool (a.toList == b.toList))
  | .neq => some (.bool (!(a.toList == b.toList)))
  | .lss => some (.bool (Op.bytesLess a.toList b.toList))
  | _ => none
def scalarD : TypeDesc → Bool
  | .int _ | .bool | .string => true
  | _ => false
def eqV : Value → Value → Bool
  | .int _ a, .int _ b => a == b
  | .bool a, .bool b => a == b
  | .string a, .string b => a == b
  | _, _ => false
def eqVs : List Value → List Value → Bool
  | [], [] => true
  | a :: l, b :: m => eqV a b && eqVs l m
  | _, _ => false
def confB : List Shp → List Value → Bool
  | [], [] => true
  | .i k :: l, .int k' _ :: vs => decide (k = k') && confB l vs
  | .b :: l, .bool _ :: vs => confB l vs
  | .s :: l, .string _ :: vs => confB l vs
  | _, _ => false
def offsB (lf : TypeId → List Shp) : Nat → List Field → Bool
  | _, [] => true
  | o, f :: l => Nat.beq f.offset o && (match P.info? f.type with
      | some i => Nat.beq (lf f.type).length i.size && offsB lf (o + i.size) l
      | none => false)
def flatB : Nat → TypeId → Bool
  | 0, _ => false
  | n + 1, t => match P.underlying t with
    | some (.struct fs) => !P.stoodInHeld t && offsB P (leafs P n) 0 fs.toList && fs.toList.all fun f => !(f.name == "_") && flatB n f.type
    | some (.array len e) => flatB n e && (match P.info? e with
      | some i => Nat.beq (leafs P n e).length i.size && Nat.blt 0 i.size
      | none => false)
    | some (.int _) | some .bool | some .string => true
    | _ => false
def boolB (t : TypeId) : Bool := match P.underlying t with
  | some .bool => true
  | _ => false
def binS (isB : Bool) (op : BinOp) (x y : Value) : Option (Option Prop × Value) :=
  match op, x, y with
  | .shl, .int k a, .int _ b => some (some (0 ≤ b), .int k (k.wrap (a * 2 ^ min b.toNat k.bits)))
  | .shr, .int k a, .int _ b => some (some (0 ≤ b), .int k (a.fdiv (2 ^ min b.toNat k.bits)))
  | .quo, .int k a, .int k' b => match decide (k = k') with
    | true => some (some (b ≠ 0), .int k (k.wrap (a.tdiv b)))
    | false => none
  | .rem, .int k a, .int k' b => match decide (k = k') with
    | true => some (some (b ≠ 0), .int k (a.tmod b))
    | false => none
  | .add, .string a, .string b => some (some (((a.size + b.size : Nat) : Int) ≤ 9223372036854775807), .string (a ++ b))
  | op, .int k a, .int k' b => match decide (k = k') with
    | true => match intOp op k a b with
      | some v => some (none, v)
      | none => none
    | false => none
  | op, .string a, .string b => match strOp op a b with
    | some v => some (none, v)
    | none => none
  | .eql, .bool a, .bool b => match isB with
    | true => some (none, .bool (a == b))
    | false => none
  | .neq, .bool a, .bool b => match isB with
    | true => some (none, .bool (!(a == b)))
    | false => none
  | _, _, _ => none
def nBin (op : BinOp) (xType : TypeId) (ox oy : Operand) (x y : Value) (K : Value → Heap → Prop) (E : Value → Heap → Prop) (H : Heap) : Prop :=
  match binS (boolB P xType) op x y with
  | some (some c, v) => c ∧ K v H
  | some (none, v) => K v H
  | none => tyD P xType fun d => match scalarD d with
    | true => False
    | false => match flatB P 20 xType && !P.eqGuardType P.depth xType with
      | true => match op, x, y with
        | .eql, .agg xs, .agg ys => match confB (leafs P 20 xType) xs.toList && confB (leafs P 20 xType) ys.toList with
          | true => K (.bool (eqVs xs.toList ys.toList)) H
          | false => False
        | .neq, .agg xs, .agg ys => match confB (leafs P 20 xType) xs.toList && confB (leafs P 20 xType) ys.toList with
          | true => K (.bool (!eqVs xs.toList ys.toList)) H
          | false => False
        | _, _, _ => False
      | false => vp P (do eqGuard op xType ox oy x y; binOp op xType x y) K E H
def nUn (op : UnOp) (x : Value) (K : Value → Heap → Prop) (H : Heap) : Prop :=
  match op, x with
  | .neg, .int k n => K (.int k (k.wrap (0 - n))) H
  | .xor, .int k n => K (.int k (k.wrap (BitVec.ofInt k.bits (if k.signed then -1 else k.max) ^^^ BitVec.ofInt k.bits n).toNat)) H
  | .not, .bool b => K (.bool !b) H
  | _, _ => False
def nExtract (x : Value) (i : Nat) (K : Value → Heap → Prop) (H : Heap) : Prop :=
  match x with
  | .tuple vs => match vs.toList[i]? with
    | some v => K v H
    | none => False
  | _ => False
def nIface (t : TypeId) (x : Value) (K : Value → Heap → Prop) (H : Heap) : Prop :=
  tyD P t fun d => match d with
  | .interface _ => False
  | _ => K (.iface t x) H
def nLen (t : TypeId) (x : Value) (K : Value → Heap → Prop) (H : Heap) : Prop :=
  tyD P t fun d => match d, x with
  | .string, .string s => K (.int .i64 s.size) H
  | .slice _, .slice _ n _ => K (.int .i64 n) H
  | .array n _, _ => K (.int .i64 n) H
  | _, _ => False
def minV : Value → List Value → Option Value
  | x, [] => some x
  | .int k x, .int _ y :: l => minV (.int k (if y < x then y else x)) l
  | _, _ => none
def maxV : Value → List Value → Option Value
  | x, [] => some x
  | .int k x, .int _ y :: l => maxV (.int k (if x < y then y else x)) l
  | _, _ => none
def exT (t : TypeId) (K : Value → Prop) : Prop := match aggD (und P t) with
  | true => exL (leafs P 100 t) fun vs => K (.agg vs.toArray)
  | false => exS (shpD (und P t)) K
def exTs : List TypeId → (List Value → Prop) → Prop
  | [], K => K []
  | t :: l, K => exT P t fun v => exTs l fun vs => K (v :: vs)
def tupD : TypeDesc → Option (List TypeId)
  | .tuple ts => some ts.toList
  | _ => none
def tyRes (t : TypeId) (v : Value) (K : Value → Prop) : Prop := match tupD (und P t) with
  | some [] => K v
  | some (u :: l) => exTs P (u :: l) fun vs => v = .tuple vs.toArray ∧ K (.tuple vs.toArray)
  | none => exT P t fun u => v = u ∧ K u
def callV (E : Chain → Heap → Prop) (f : Value) (args : List Value) (Q : Value → Heap → Prop) (H : Heap) : Prop :=
  match f with
  | .func (.func g) first caps => Does P g (first.toList ++ args ++ caps.toList).toArray H Q E
  | _ => False
def nCall (t : TypeId) (E : Chain → Heap → Prop) (f : Value) (args : Array Value) (K : Value → Heap → Prop) (H : Heap) : Prop :=
  callV P E f args.toList (fun v H => tyRes P t v fun v => K v H) H
def byteV (b : UInt8) : Value := .int .u8 b.toNat
def bytesV (s : ByteArray) : List Value := s.data.toList.map byteV
def srcOf (size : Nat) (x : Value) (H : Heap) (K : Nat → List Value → Prop) : Prop := match x with
  | .slice p' n' _ => ∃ vs : List Value, vs.length = n' * size ∧ H.rdS p' vs ∧ K n' vs
  | .string s => size = 1 ∧ K s.size (bytesV s)
  | _ => False
def app (t : TypeId) (p : Option Addr) (n c : Nat) (x : Value) (H : Heap) (K : Option Addr → Nat → Nat → Heap → Prop) : Prop :=
  tyD P t fun d => match d with
  | .slice e => tyI P e fun i => tyZ P e fun z => srcOf i.size x H fun n' vs =>
        (n + n' ≤ c → wrS p (n * i.size) vs H fun H => K p (n + n') c H) ∧
        (c < n + n' → Builtin.nextslicecap (n + n') c * i.bytes ≤ 281474976710656 ∧ 0 < i.bytes ∧ ∃ us : List Value, us.length = n * i.size ∧ H.rdS p us ∧
          ∀ c', n + n' ≤ c' → nw (.cells (us ++ vs ++ rep (c' - (n + n')) z).toArray e (0, 0)) H fun id H => K (some ⟨id, 0, none⟩) (n + n') c' H)
  | _ => False
def nClear (ts : List TypeId) (args : List Value) (K : Value → Heap → Prop) (H : Heap) : Prop :=
  match ts, args with
  | [t], [.slice p n _] => tyD P t fun d => match d with
    | .slice e => tyI P e fun i => tyZ P e fun z => wrS p 0 (rep n z) H fun H => K (.tuple #[]) H
    | _ => False
  | _, _ => False
def nxt (K : Value → Heap → Prop) (E : Chain → Heap → Prop) : Next → Heap → Prop
  | .value v, H => K v H
  | .skip, H => K undef H
  | .enter f args, H => Does P f args H K E
  | _, _ => False
def raise (E : Chain → Heap → Prop) : Value → Heap → Prop := fun v H => E [{ v, recovered := false }] H
def vraw (o : Oper) (ρ : Operand → Value) (K : Value → Heap → Prop) (E : Chain → Heap → Prop) (H : Heap) : Prop :=
  vp P (execOp ρ o) (nxt P K E) (raise E) H
end
end Go.V

/- The nice forms of operations are sound. -/
namespace Go.V
set_option linter.constructorNameAsVariable false
set_option linter.unusedVariables false
variable {P : Program}

theorem vp_bind' {α β : Type} {s : Sem α} {f : α → Sem β} {Q : β → Heap → Prop} {E : Value → Heap → Prop} {H : Heap}
    (h : vp P s (fun a H => vp P (f a) Q E H) E H) : vp P (s >>= f) Q E H := vp_bind s f h
theorem vp_und {α : Type} {t : TypeId} {f : TypeDesc → Sem α} {d : TypeDesc} {Q : α → Heap → Prop} {E : Value → Heap → Prop} {H : Heap}
    (hd : P.underlying t = some d) (h : vp P (f d) Q E H) : vp P (underlying t >>= f) Q E H := by
  refine vp_bind' ?_
  show vp P (match P.underlying t with | some d => pure d | none => stuck "no such type") _ _ _
  rw [hd]; exact h
theorem vp_info {α : Type} {t : TypeId} {f : TypeInfo → Sem α} {d : TypeInfo} {Q : α → Heap → Prop} {E : Value → Heap → Prop} {H : Heap}
    (hd : P.info? t = some d) (h : vp P (f d) Q E H) : vp P (typeInfo t >>= f) Q E H := by
  refine vp_bind' ?_
  show vp P (match P.info? t with | some d => pure d | none => stuck "no such type") _ _ _
  rw [hd]; exact h
theorem vp_size {α : Type} {t : TypeId} {f : Nat → Sem α} {d : TypeInfo} {Q : α → Heap → Prop} {E : Value → Heap → Prop} {H : Heap}
    (hd : P.info? t = some d) (h : vp P (f d.size) Q E H) : vp P (sizeOf t >>= f) Q E H := by
  refine vp_bind' ?_
  exact vp_info hd h
theorem vp_zero {α : Type} {t : TypeId} {f : Value → Sem α} {d : TypeInfo} {z : Value} {Q : α → Heap → Prop} {E : Value → Heap → Prop} {H : Heap}
    (hd : P.info? t = some d) (hz : d.zero = some z) (h : vp P (f z) Q E H) : vp P (zeroValue t >>= f) Q E H := by
  refine vp_bind' ?_
  refine vp_info hd ?_
  rw [hz]; exact h
theorem vp_isAgg {α : Type} {t : TypeId} {f : Bool → Sem α} {d : TypeDesc} {Q : α → Heap → Prop} {E : Value → Heap → Prop} {H : Heap}
    (hd : P.underlying t = some d) (h : vp P (f (aggD d)) Q E H) : vp P (isAgg t >>= f) Q E H := by
  refine vp_bind' ?_
  refine vp_und hd ?_
  cases d <;> exact h
theorem vp_load {α : Type} {a : Addr} {f : Value → Sem α} {v : Value} {Q : α → Heap → Prop} {E : Value → Heap → Prop} {H : Heap}
    (hv : H.cell? a = some v) (h : vp P (f v) Q E H) : vp P (load a >>= f) Q E H := by
  refine vp_bind' ?_
  unfold load
  simp only [vp, hv]; exact h
theorem bind_assoc {α β γ : Type} (s : Sem α) (f : α → Sem β) (g : β → Sem γ) : (s >>= f) >>= g = s >>= fun a => f a >>= g := by
  show (s.bind f).bind g = s.bind fun a => (f a).bind g
  induction s <;> simp [Sem.bind, *]
theorem bind_pure_ {α : Type} (s : Sem α) : (s >>= pure) = s := by
  show s.bind Sem.pure = s
  induction s <;> simp [Sem.bind, *]
theorem vp_loadCellsFrom {α : Type} {a : Addr} {Q : α → Heap → Prop} {E : Value → Heap → Prop} {H : Heap} {f : Array Value → Sem α} :
    ∀ (vs : List Value) (i : Nat) (acc : Array Value), H.rd a i vs → vp P (f (acc ++ vs.toArray)) Q E H → vp P (loadCellsFrom a i vs.length acc >>= f) Q E H
  | [], i, acc, _, h => by simp only [List.length_nil, loadCellsFrom]; refine vp_bind' ?_; show vp P (f acc) Q E H; simpa using h
  | v :: vs, i, acc, hr, h => by
    simp only [List.length_cons, loadCellsFrom, bind_assoc]
    refine vp_load hr.1 ?_
    refine vp_loadCellsFrom vs (i + 1) (acc.push v) hr.2 ?_
    simpa using h
theorem vp_loadCells {α : Type} {a : Addr} {Q : α → Heap → Prop} {E : Value → Heap → Prop} {H : Heap} {f : Array Value → Sem α} {vs : List Value} {n : Nat}
    (hn : vs.length = n) (hr : H.rd a 0 vs) (h : vp P (f vs.toArray) Q E H) : vp P (loadCells a n >>= f) Q E H := by
  subst hn; exact vp_loadCellsFrom vs 0 #[] hr (by simpa using h)
theorem pure_of_bind {α : Type} {s : Sem α} {Q : α → Heap → Prop} {E : Value → Heap → Prop} {H : Heap} (h : vp P (s >>= pure) Q E H) : vp P s Q E H := by
  rwa [bind_pure_] at h

theorem tyD_elim {t : TypeId} {K : TypeDesc → Prop} (h : tyD P t K) : ∃ d, P.underlying t = some d ∧ K d := by
  unfold tyD at h; split at h
  · exact ⟨_, by assumption, h⟩
  · exact h.elim
theorem tyI_elim {t : TypeId} {K : TypeInfo → Prop} (h : tyI P t K) : ∃ d, P.info? t = some d ∧ K d := by
  unfold tyI at h; split at h
  · exact ⟨_, by assumption, h⟩
  · exact h.elim
theorem tyZ_elim {t : TypeId} {K : List Value → Prop} (h : tyZ P t K) : ∃ d z, P.info? t = some d ∧ d.zero = some z ∧ z.cells.size = d.size ∧ K z.cells.toList := by
  replace h := tyI_elim h; obtain ⟨d, hd, h⟩ := h
  split at h
  · rename_i z hz
    split at h
    · rename_i hb; exact ⟨d, z, hd, hz, Nat.eq_of_beq_eq_true hb, h⟩
    · exact h.elim
  · exact h.elim
theorem ptr_elim {p : Option Addr} {K : Addr → Prop} (h : ptr p K) : ∃ a, p = some a ∧ K a := by
  cases p with
  | none => exact h.elim
  | some a => exact ⟨a, rfl, h⟩
theorem exS_elim {s : Shp} {K : Value → Prop} (h : exS s K) : ∃ v, K v := by
  cases s <;> simp only [exS] at h
  case sl => obtain ⟨p, n, c, h⟩ := h; exact ⟨_, h⟩
  all_goals (obtain ⟨x, h⟩ := h; exact ⟨_, h⟩)
theorem exL_elim : ∀ {l : List Shp} {K : List Value → Prop}, exL l K → ∃ vs, vs.length = l.length ∧ K vs
  | [], K, h => ⟨[], rfl, h⟩
  | s :: l, K, h => by
    replace h := exS_elim h; obtain ⟨v, h⟩ := h
    replace h := exL_elim h; obtain ⟨vs, hl, h⟩ := h
    exact ⟨v :: vs, by simp [hl], h⟩

theorem vp_v {s : Sem Value} {K : Value → Heap → Prop} {E : Chain → Heap → Prop} {H : Heap} (h : vp P s K (raise E) H) :
    vp P (do pure (Next.value (← s))) (nxt P K E) (raise E) H := vp_bind' h
theorem vp_u {s : Sem Unit} {K : Value → Heap → Prop} {E : Chain → Heap → Prop} {H : Heap} (h : vp P s (fun _ H => K undef H) (raise E) H) :
    vp P (do s; pure Next.skip) (nxt P K E) (raise E) H := vp_bind' h

theorem loadVar_vp {t : TypeId} {ad : Addr} {K : Value → Heap → Prop} {E : Value → Heap → Prop} {H : Heap} (h : nLoad P t (.pointer (some ad)) K H) :
    vp P (loadVar t ad) K E H := by
  unfold loadVar
  replace h := tyD_elim h; obtain ⟨d, hd, h⟩ := h
  refine vp_isAgg hd ?_
  cases hg : aggD d with
  | true =>
    simp only [hg] at h
    replace h := tyI_elim h; obtain ⟨i, hi, h⟩ := h
    split at h
    · rename_i hb
      replace h := exL_elim h; obtain ⟨vs, hl, hr, h⟩ := h
      refine vp_size hi ?_
      simp only [Bool.and_eq_true] at hb
      refine vp_loadCells (hl.trans (Nat.eq_of_beq_eq_true hb.1)) hr ?_
      exact h
    · exact h.elim
  | false =>
    simp only [hg] at h
    replace h := exS_elim h; obtain ⟨v, hv, h⟩ := h
    refine pure_of_bind (vp_load hv ?_)
    exact h
theorem nLoad_vp {t : TypeId} {a : Value} {K : Value → Heap → Prop} {E : Value → Heap → Prop} {H : Heap} (h : nLoad P t a K H) : vp P (Instr.loadAt t a) K E H := by
  cases a <;> simp only [nLoad] at h
  case pointer p =>
    cases p with
    | none => exact h.elim
    | some ad => exact vp_bind' (loadVar_vp (ad := ad) h)

theorem add_off (a : Addr) (ha : a.spot = none) (i : Nat) : a.add i = ⟨a.block, a.off + i, none⟩ := by
  unfold Addr.add; split
  · subst_vars; cases a; simp_all
  · cases a; rfl
theorem over_size (c : Array Value) : ∀ (o : Nat) (vs : List Value), (over c o vs).size = c.size
  | _, [] => rfl
  | o, v :: vs => by simp [over, over_size]
theorem storeCells_vp {a : Addr} {E : Value → Heap → Prop} : ∀ (vs : List Value) (i : Nat) (c : Array Value) (t : TypeId) (fr : Nat × Nat) (H : Heap) {K : Unit → Heap → Prop},
    H a.block = some (.cells c t fr) → a.spot = none → a.off + i + vs.length ≤ c.size → (a.off + i + vs.length ≤ fr.1 ∨ fr.2 ≤ a.off + i) → vs.all oneC = true →
    K () (H.set a.block (.cells (over c (a.off + i) vs) t fr)) → vp P (storeCells a vs i) K E H
  | [], i, c, t, fr, H, K, hb, ha, hl, hf, ho, h => by
    have : H.set a.block (.cells (over c (a.off + i) []) t fr) = H := by
      funext j; simp only [Heap.set, over]; split
      · subst_vars; exact hb.symm
      · rfl
    rw [this] at h; exact h
  | v :: vs, i, c, t, fr, H, K, hb, ha, hl, hf, ho, h => by
    simp only [List.all_cons, Bool.and_eq_true, List.length_cons] at ho hl hf
    unfold storeCells
    refine vp_bind' ?_
    show oneC v = true ∧ (a.add i).spot = none ∧ _
    rw [add_off a ha i]
    refine ⟨ho.1, rfl, ?_⟩
    simp only [hb]
    refine ⟨by omega, by omega, ?_⟩
    show vp P (storeCells a vs (i + 1)) K E _
    refine storeCells_vp vs (i + 1) (c.setIfInBounds (a.off + i) v) t fr _ (Heap.set_self _ _ _) ha (by simp; omega) (by omega) ho.2 ?_
    rw [Heap.set_set]; exact h
theorem wr_vp {a : Addr} {vs : List Value} {E : Value → Heap → Prop} {H : Heap} {K : Unit → Heap → Prop} (h : wr a vs H fun H => K () H) : vp P (storeCells a vs) K E H := by
  obtain ⟨c, t, fr, hb, ha, hl, hf, ho, h⟩ := h
  exact storeCells_vp vs 0 c t fr H hb ha (by simpa using hl) (by simpa using hf) ho (by simpa using h)
theorem nStore_vp {t : TypeId} {a x : Value} {K : Value → Heap → Prop} {E : Value → Heap → Prop} {H : Heap} (h : nStore P t a x K H) :
    vp P (Instr.storeAt t a x) (fun _ H => K undef H) E H := by
  cases a <;> simp only [nStore] at h
  case pointer p =>
    replace h := ptr_elim h; obtain ⟨ad, rfl, h⟩ := h
    replace h := tyI_elim h; obtain ⟨i, hi, h⟩ := h
    split at h
    · rename_i hb
      refine vp_bind' ?_
      show vp P (storeVar t ad x) _ _ _
      unfold storeVar
      refine vp_size hi ?_
      rw [if_neg (by simpa using Nat.eq_of_beq_eq_true hb)]
      exact wr_vp h
    · exact h.elim
theorem nBox_vp {t : TypeId} {x : Value} {K : Value → Heap → Prop} {E : Value → Heap → Prop} {H : Heap} (h : nBox t x K H) : vp P (Instr.box t x) K E H :=
  fun id hid => h id hid
theorem nAlloc_vp {t : TypeId} {K : Value → Heap → Prop} {E : Value → Heap → Prop} {H : Heap} {old : Value} (h : nAlloc P t K H) : vp P (Instr.alloc t true old) K E H := by
  replace h := tyI_elim h; obtain ⟨i, hi, h⟩ := h
  split at h
  · rename_i z hz
    unfold Instr.alloc
    exact vp_zero hi hz fun id hid => h id hid
  · exact h.elim
theorem nFieldAddr_vp {s : TypeId} {x : Value} {f : Nat} {K : Value → Heap → Prop} {E : Value → Heap → Prop} {H : Heap} (h : nFieldAddr P s x f K H) : vp P (Instr.fieldAt s x f) K E H := by
  cases x <;> simp only [nFieldAddr] at h
  case pointer p =>
    replace h := ptr_elim h; obtain ⟨ad, rfl, h⟩ := h
    replace h := tyD_elim h; obtain ⟨d, hd, h⟩ := h
    split at h
    · rename_i fs
      split at h
      · rename_i fd hfd
        replace h := tyI_elim h; obtain ⟨i, hi, h⟩ := h
        split at h
        · rename_i hb
          unfold Instr.fieldAt
          refine vp_und hd ?_
          simp only [hfd]
          refine vp_bind' ?_
          show vp P (fieldPlace ad fd >>= _) _ _ _
          unfold fieldPlace
          refine vp_bind' (vp_size hi ?_)
          rw [if_neg (by intro h0; rw [h0] at hb; cases hb)]
          exact h
        · exact h.elim
      · exact h.elim
    · exact h.elim
theorem nIndexAddr_vp {t : TypeId} {x i : Value} {K : Value → Heap → Prop} {E : Value → Heap → Prop} {H : Heap} (h : nIndexAddr P t x i K H) : vp P (Instr.indexAt t x i) K E H := by
  cases i <;> simp only [nIndexAddr] at h
  case int k n =>
    replace h := tyD_elim h; obtain ⟨d, hd, h⟩ := h
    unfold Instr.indexAt
    refine vp_bind' ?_
    show vp P (_ >>= _) _ _ _
    refine vp_und hd ?_
    split at h
    · rename_i len e p
      replace h := tyI_elim h; obtain ⟨ie, hie, h⟩ := h
      replace h := ptr_elim h; obtain ⟨ad, rfl, h⟩ := h
      show vp P (underlying t >>= _) _ _ _
      refine vp_und hd ?_
      show vp P (if _ then _ else _) _ _ _
      rw [if_pos h.1]
      refine vp_size hie ?_
      exact h.2
    · rename_i e p len c
      replace h := tyI_elim h; obtain ⟨ie, hie, h⟩ := h
      obtain ⟨hb, h⟩ := h
      replace h := ptr_elim h; obtain ⟨ad, rfl, h⟩ := h
      show vp P (underlying t >>= _) _ _ _
      refine vp_und hd ?_
      show vp P (if _ then _ else _) _ _ _
      rw [if_pos hb]
      refine vp_size hie ?_
      exact h
    · exact h.elim
theorem part_vp {t : TypeId} {cs : Array Value} {o : Nat} {v : Value} {K : Value → Heap → Prop} {E : Value → Heap → Prop} {H : Heap} {d : TypeDesc}
    (hd : P.underlying t = some d) (hg : aggD d = false) (hv : cs[o]? = some v) (h : K v H) : vp P (part t cs o) K E H := by
  unfold part
  refine vp_isAgg hd ?_
  simp only [hg, hv]; exact h
theorem partAgg_vp {t : TypeId} {cs : Array Value} {o : Nat} {K : Value → Heap → Prop} {E : Value → Heap → Prop} {H : Heap} {d : TypeDesc} {i : TypeInfo}
    (hd : P.underlying t = some d) (hi : P.info? t = some i) (hg : aggD d = true) (h : K (.agg ((cs.toList.drop o).take i.size).toArray) H) : vp P (part t cs o) K E H := by
  unfold part
  refine vp_isAgg hd ?_
  simp only [hg, if_true]
  refine vp_size hi ?_
  have : cs.extract o (o + i.size) = ((cs.toList.drop o).take i.size).toArray := by
    apply Array.ext'
    simp [List.extract_eq_take_drop]
  rw [this]; exact h
theorem nIndex_vp {t : TypeId} {x i : Value} {K : Value → Heap → Prop} {E : Value → Heap → Prop} {H : Heap} (h : nIndex P t x i K H) : vp P (Instr.index t x i) K E H := by
  cases i <;> simp only [nIndex] at h
  case int k n =>
    replace h := tyD_elim h; obtain ⟨d, hd, h⟩ := h
    unfold Instr.index
    refine vp_bind' ?_
    show vp P (_ >>= _) _ _ _
    refine vp_und hd ?_
    split at h
    · rename_i len e cs
      replace h := tyI_elim h; obtain ⟨ie, hie, h⟩ := h
      replace h := tyD_elim h; obtain ⟨de, hde, h⟩ := h
      split at h
      · exact h.elim
      · rename_i hg
        obtain ⟨hb, h⟩ := h
        replace h := exS_elim h; obtain ⟨v, hv, h⟩ := h
        show vp P (if _ then _ else _) _ _ _
        rw [if_pos hb]
        refine vp_size hie ?_
        exact part_vp hde hg (by simpa using hv) h
    · rename_i s
      obtain ⟨hb, h⟩ := h
      have hlt : n.toNat < s.size := by omega
      have hs : (if 0 ≤ n then s[n.toNat]? else none) = some s[n.toNat] := by rw [if_pos hb.1, getElem?_pos s n.toNat hlt]
      simp only [hs]
      have : sAt s n = (s[n.toNat].toNat : Int) := by
        unfold sAt
        have hl' : n.toNat < s.data.size := hlt
        rw [show s.data.getD n.toNat 0 = s.data[n.toNat] from by rw [Array.getD_eq_getD_getElem?, Array.getElem?_eq_getElem hl']; rfl]
        rfl
      rw [this] at h; exact h
    · exact h.elim
theorem nField_vp {t : TypeId} {x : Value} {f : Nat} {K : Value → Heap → Prop} {E : Value → Heap → Prop} {H : Heap} (h : nField P t x f K H) : vp P (Instr.field t x f) K E H := by
  cases x <;> simp only [nField] at h
  case agg cs =>
    replace h := tyD_elim h; obtain ⟨d, hd, h⟩ := h
    split at h
    · split at h
      · rename_i fd hfd
        replace h := tyD_elim h; obtain ⟨df, hdf, h⟩ := h
        unfold Instr.field
        refine vp_und hd ?_
        simp only [hfd]
        refine vp_bind' ?_
        show vp P (part _ _ _) _ _ _
        split at h
        · rename_i hg
          replace h := tyI_elim h; obtain ⟨i, hi, h⟩ := h
          exact partAgg_vp hdf hi hg h
        · rename_i hg
          split at h
          · rename_i v hv
            exact part_vp hdf hg (by simpa using hv) h
          · exact h.elim
      · exact h.elim
    · exact h.elim
end Go.V
