/- Words of the printed functions. -/
import Derived.Test.YtaffcoiomggpfaaVFun
namespace Go.V
set_option linter.constructorNameAsVariable false
set_option linter.unusedVariables false
variable {P : Program}

def ldI (k : IntKind) (a : Addr) (H : Heap) (K : Int → Prop) : Prop := ∃ n : Int, H.cell? a = some (.int k n) ∧ K n
def ldB (a : Addr) (H : Heap) (K : Bool → Prop) : Prop := ∃ b : Bool, H.cell? a = some (.bool b) ∧ K b
def ldS (a : Addr) (H : Heap) (K : ByteArray → Prop) : Prop := ∃ s : ByteArray, H.cell? a = some (.string s) ∧ K s
def ldP (a : Addr) (H : Heap) (K : Option Addr → Prop) : Prop := ∃ p : Option Addr, H.cell? a = some (.pointer p) ∧ K p
def ldM (a : Addr) (H : Heap) (K : Option Nat → Prop) : Prop := ∃ r : Option Nat, H.cell? a = some (.map r) ∧ K r
def ldV (a : Addr) (H : Heap) (K : Value → Prop) : Prop := ∃ v : Value, H.cell? a = some v ∧ K v
def ldSl (a : Addr) (H : Heap) (K : Option Addr → Nat → Nat → Prop) : Prop := ∃ (p : Option Addr) (n c : Nat), H.cell? a = some (.slice p n c) ∧ K p n c

/-! A temporary of a kind. -/
def mI (k : IntKind) (v : Value) (f : Int → Prop) : Prop := match v with
  | .int k' n => match decide (k' = k) with
    | true => f n
    | false => False
  | _ => False
def mB (v : Value) (f : Bool → Prop) : Prop := match v with
  | .bool b => f b
  | _ => False
def mS (v : Value) (f : ByteArray → Prop) : Prop := match v with
  | .string b => f b
  | _ => False
def mP (v : Value) (f : Option Addr → Prop) : Prop := match v with
  | .pointer b => f b
  | _ => False
def mM (v : Value) (f : Option Nat → Prop) : Prop := match v with
  | .map b => f b
  | _ => False
def mSl (v : Value) (f : Option Addr → Nat → Nat → Prop) : Prop := match v with
  | .slice p n c => f p n c
  | _ => False
def mV (v : Value) (f : Value → Prop) : Prop := f v

theorem mI_elim {k : IntKind} {τ : Tau} {i : Nat} {f : Int → Prop} {G : Tau → Prop} (h : mI k (τ i) f) (g : ∀ n, f n → G (τ.upd i (.int k n))) : G τ := by
  unfold mI at h
  split at h
  · rename_i k' n hv
    split at h
    · rename_i hk
      obtain rfl := of_decide_eq_true hk
      have := g n h
      rwa [Tau.upd_eq τ hv] at this
    · exact h.elim
  · exact h.elim
theorem mB_elim {τ : Tau} {i : Nat} {f : Bool → Prop} {G : Tau → Prop} (h : mB (τ i) f) (g : ∀ n, f n → G (τ.upd i (.bool n))) : G τ := by
  unfold mB at h
  split at h
  · rename_i n hv; have := g n h; rwa [Tau.upd_eq τ hv] at this
  · exact h.elim
theorem mS_elim {τ : Tau} {i : Nat} {f : ByteArray → Prop} {G : Tau → Prop} (h : mS (τ i) f) (g : ∀ n, f n → G (τ.upd i (.string n))) : G τ := by
  unfold mS at h
  split at h
  · rename_i n hv; have := g n h; rwa [Tau.upd_eq τ hv] at this
  · exact h.elim
theorem mP_elim {τ : Tau} {i : Nat} {f : Option Addr → Prop} {G : Tau → Prop} (h : mP (τ i) f) (g : ∀ n, f n → G (τ.upd i (.pointer n))) : G τ := by
  unfold mP at h
  split at h
  · rename_i n hv; have := g n h; rwa [Tau.upd_eq τ hv] at this
  · exact h.elim
theorem mM_elim {τ : Tau} {i : Nat} {f : Option Nat → Prop} {G : Tau → Prop} (h : mM (τ i) f) (g : ∀ n, f n → G (τ.upd i (.map n))) : G τ := by
  unfold mM at h
  split at h
  · rename_i n hv; have := g n h; rwa [Tau.upd_eq τ hv] at this
  · exact h.elim
theorem mSl_elim {τ : Tau} {i : Nat} {f : Option Addr → Nat → Nat → Prop} {G : Tau → Prop} (h : mSl (τ i) f) (g : ∀ p n c, f p n c → G (τ.upd i (.slice p n c))) : G τ := by
  unfold mSl at h
  split at h
  · rename_i p n c hv; have := g p n c h; rwa [Tau.upd_eq τ hv] at this
  · exact h.elim
theorem mV_elim {τ : Tau} {i : Nat} {f : Value → Prop} {G : Tau → Prop} (h : mV (τ i) f) (g : ∀ v, f v → G (τ.upd i v)) : G τ := by
  have := g _ h; rwa [Tau.upd_self] at this
/-- A temporary that is what it was. -/
theorem fix_elim {τ : Tau} {i : Nat} {v : Value} {G : Tau → Prop} (h : τ i = v) (g : G (τ.upd i v)) : G τ := by rwa [Tau.upd_eq τ h] at g

/-! Parts of a function's code. -/
def sA : Code → Code
  | .seq a _ => a
  | _ => .skip
def sB : Code → Code
  | .seq _ b => b
  | _ => .skip
def sT : Code → Code
  | .cond _ a _ => a
  | _ => .skip
def sE : Code → Code
  | .cond _ _ b => b
  | _ => .skip
def sI : Code → Code
  | .block _ c | .loop c | .scope c => c
  | _ => .skip
def bodyOf (fn : Func) : Code := fn.body.getD .skip

theorem sel_map {b : Bool} {X Y X' Y' : Prop} (h1 : X → X') (h2 : Y → Y') (h : sel b X Y) : sel b X' Y' := sel_mono h h1 h2
theorem conv {A B : Prop} (e : A = B) (a : A) : B := e ▸ a
def gI : Value → Int
  | .int _ n => n
  | _ => 0
def gB : Value → Bool
  | .bool b => b
  | _ => false
def gS : Value → ByteArray
  | .string b => b
  | _ => ⟨#[]⟩
def gP : Value → Option Addr
  | .pointer b => b
  | _ => none
def gM : Value → Option Nat
  | .map b => b
  | _ => none
def gV (v : Value) : Value := v
def gL1 : Value → Option Addr
  | .slice p _ _ => p
  | _ => none
def gL2 : Value → Nat
  | .slice _ n _ => n
  | _ => 0
def gL3 : Value → Nat
  | .slice _ _ n => n
  | _ => 0
end Go.V
