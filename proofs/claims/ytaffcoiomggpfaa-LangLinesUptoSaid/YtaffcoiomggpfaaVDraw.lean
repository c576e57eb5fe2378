/- A region that draws its order: one order is enough. -/
import Derived.Test.YtaffcoiomggpfaaVProg
namespace Go.V
set_option linter.constructorNameAsVariable false
set_option linter.unusedVariables false
variable {P : Program}

/-! ### Monotony, and what hangs on the operands alone -/
theorem tyD_mono {t : TypeId} {K K' : TypeDesc → Prop} (h : tyD P t K) (hk : ∀ d, K d → K' d) : tyD P t K' := by
  unfold tyD at *; split at h <;> first | exact hk _ h | exact h.elim
theorem tyI_mono {t : TypeId} {K K' : TypeInfo → Prop} (h : tyI P t K) (hk : ∀ d, K d → K' d) : tyI P t K' := by
  unfold tyI at *; split at h <;> first | exact hk _ h | exact h.elim
theorem tyZ_mono {t : TypeId} {K K' : List Value → Prop} (h : tyZ P t K) (hk : ∀ d, K d → K' d) : tyZ P t K' := by
  refine tyI_mono h fun d h => ?_
  split at h
  · split at h
    · exact hk _ h
    · exact h.elim
  · exact h.elim
theorem ptr_mono {p : Option Addr} {K K' : Addr → Prop} (h : ptr p K) (hk : ∀ d, K d → K' d) : ptr p K' := by
  cases p <;> first | exact h.elim | exact hk _ h
theorem exS_mono {s : Shp} {K K' : Value → Prop} (h : exS s K) (hk : ∀ d, K d → K' d) : exS s K' := by
  cases s <;> simp only [exS] at h ⊢
  case sl => obtain ⟨p, n, c, h⟩ := h; exact ⟨p, n, c, hk _ h⟩
  all_goals (obtain ⟨x, h⟩ := h; exact ⟨x, hk _ h⟩)
theorem exL_mono : ∀ {l : List Shp} {K K' : List Value → Prop}, exL l K → (∀ d, K d → K' d) → exL l K'
  | [], _, _, h, hk => hk _ h
  | s :: l, _, _, h, hk => exS_mono h fun v h => exL_mono h fun vs h => hk _ h
theorem sel_mono {b : Bool} {X Y X' Y' : Prop} (h : sel b X Y) (h1 : X → X') (h2 : Y → Y') : sel b X' Y' := by
  cases b <;> first | exact h1 h | exact h2 h
theorem nw_mono {o : Obj} {H : Heap} {K K' : Nat → Heap → Prop} (h : nw o H K) (hk : ∀ i H, K i H → K' i H) : nw o H K' := fun id hid => hk _ _ (h id hid)
theorem wr_mono {a : Addr} {vs : List Value} {H : Heap} {K K' : Heap → Prop} (h : wr a vs H K) (hk : ∀ H, K H → K' H) : wr a vs H K' := by
  obtain ⟨c, t, fr, h1, h2, h3, h4, h5, h⟩ := h; exact ⟨c, t, fr, h1, h2, h3, h4, h5, hk _ h⟩
theorem wrS_mono {p : Option Addr} {o : Nat} {vs : List Value} {H : Heap} {K K' : Heap → Prop} (h : wrS p o vs H K) (hk : ∀ H, K H → K' H) : wrS p o vs H K' := by
  cases vs with
  | nil => exact hk _ h
  | cons v l => exact ptr_mono h fun ad h => wr_mono h hk

/-- One value, whatever follows. -/
def One {α : Type} (F : (α → Prop) → Prop) : Prop := ∀ K, F K → ∃ v, K v ∧ ∀ K', K' v → F K'
theorem tyD_one (t : TypeId) : One (tyD P t) := fun K h => by
  unfold tyD at *; split at h <;> first | exact h.elim | exact ⟨_, h, fun K' h => h⟩
theorem tyI_one (t : TypeId) : One (tyI P t) := fun K h => by
  unfold tyI at *; split at h <;> first | exact h.elim | exact ⟨_, h, fun K' h => h⟩
theorem tyZ_one (t : TypeId) : One (tyZ P t) := fun K h => by
  obtain ⟨i, h, hi⟩ := tyI_one t _ h
  split at h
  · rename_i z hz
    split at h
    · rename_i hb
      exact ⟨_, h, fun K' h => hi _ (by rw [hz]; simp only [hb]; exact h)⟩
    · exact h.elim
  · exact h.elim
theorem ptr_one (p : Option Addr) : One (ptr p) := fun K h => by cases p <;> first | exact h.elim | exact ⟨_, h, fun K' h => h⟩
theorem exS_one (s : Shp) : One (exS s) := fun K h => by
  cases s <;> simp only [exS] at h ⊢
  case sl => obtain ⟨p, n, c, h⟩ := h; exact ⟨_, h, fun K' h => ⟨p, n, c, h⟩⟩
  all_goals (obtain ⟨x, h⟩ := h; exact ⟨_, h, fun K' h => ⟨x, h⟩⟩)
theorem exL_one : ∀ (l : List Shp), One (exL l)
  | [], K, h => ⟨[], h, fun K' h => h⟩
  | s :: l, K, h => by
    obtain ⟨v, h, hv⟩ := exS_one s _ h
    obtain ⟨vs, h, hvs⟩ := exL_one l _ h
    exact ⟨v :: vs, h, fun K' h => hv _ (hvs _ h)⟩
theorem bnd_one (o : Option Value) (d y : Nat) : One (bnd o d y) := fun K h => by
  unfold bnd at *
  split at h
  · exact ⟨_, h, fun K' h => h⟩
  · rename_i i; exact ⟨_, h.2, fun K' h' => ⟨h.1, h'⟩⟩
  · exact h.elim

/-- An operation's value hangs on the operands, and on the blocks B. -/
def StillF (F : (Value → Heap → Prop) → Heap → Prop) (B : Nat → Prop) : Prop :=
  ∀ K H, F K H → ∃ v, K v H ∧ (∀ b, B b → H b ≠ none) ∧ ∀ (K' : Value → Heap → Prop) H', (∀ b, B b → H' b = H b) → K' v H' → F K' H'
def none_ : Nat → Prop := fun _ => False
theorem still_mk {F : (Value → Heap → Prop) → Heap → Prop} (h : ∀ K H, F K H → ∃ v, K v H ∧ ∀ (K' : Value → Heap → Prop) H', K' v H' → F K' H') : StillF F none_ := fun K H hf => by
  obtain ⟨v, h1, h2⟩ := h K H hf
  exact ⟨v, h1, fun b hb => hb.elim, fun K' H' _ h => h2 K' H' h⟩

theorem nPick_still (c a b : Value) : StillF (nPick c a b) none_ := still_mk fun K H h => by
  unfold nPick at *
  split at h
  · rename_i c; cases c <;> exact ⟨_, h, fun K' H' h => h⟩
  · exact h.elim
theorem nNilCheck_still (x : Value) : StillF (nNilCheck x) none_ := still_mk fun K H h => by
  unfold nNilCheck at *
  split at h
  · obtain ⟨a, h, ha⟩ := ptr_one _ _ h; exact ⟨_, h, fun K' H' h => ha _ h⟩
  all_goals first | exact h.elim | exact ⟨_, h, fun K' H' h => h⟩
theorem nFieldAddr_still (s : TypeId) (x : Value) (f : Nat) : StillF (nFieldAddr P s x f) none_ := still_mk fun K H h => by
  unfold nFieldAddr at *
  split at h
  · obtain ⟨a, h, ha⟩ := ptr_one _ _ h
    obtain ⟨d, h, hd⟩ := tyD_one _ _ h
    split at h
    · split at h
      · rename_i fs fd hfd
        obtain ⟨i, h, hi⟩ := tyI_one _ _ h
        split at h
        · rename_i hb
          refine ⟨_, h, fun K' H' h => ha _ (hd _ ?_)⟩
          simp only [hfd]
          refine hi _ ?_
          simp only [hb]; exact h
        · exact h.elim
      · exact h.elim
    · exact h.elim
  · exact h.elim
theorem nIndexAddr_still (t : TypeId) (x i : Value) : StillF (nIndexAddr P t x i) none_ := still_mk fun K H h => by
  unfold nIndexAddr at *
  split at h
  · obtain ⟨d, h, hd⟩ := tyD_one _ _ h
    split at h
    · obtain ⟨ie, h, hi⟩ := tyI_one _ _ h
      obtain ⟨a, h, ha⟩ := ptr_one _ _ h
      exact ⟨_, h.2, fun K' H' h' => hd _ (hi _ (ha _ ⟨h.1, h'⟩))⟩
    · obtain ⟨ie, h, hi⟩ := tyI_one _ _ h
      obtain ⟨hb, h⟩ := h
      obtain ⟨a, h, ha⟩ := ptr_one _ _ h
      exact ⟨_, h, fun K' H' h' => hd _ (hi _ ⟨hb, ha _ h'⟩)⟩
    · exact h.elim
  · exact h.elim
theorem nIndex_still (t : TypeId) (x i : Value) : StillF (nIndex P t x i) none_ := still_mk fun K H h => by
  unfold nIndex at *
  split at h
  · obtain ⟨d, h, hd⟩ := tyD_one _ _ h
    split at h
    · obtain ⟨ie, h, hi⟩ := tyI_one _ _ h
      obtain ⟨de, h, hde⟩ := tyD_one _ _ h
      split at h
      · exact h.elim
      · rename_i hg
        obtain ⟨hb, h⟩ := h
        obtain ⟨v, h, hv⟩ := exS_one _ _ h
        refine ⟨v, h.2, fun K' H' h' => hd _ (hi _ (hde _ ?_))⟩
        simp only [hg]
        exact ⟨hb, hv _ ⟨h.1, h'⟩⟩
    · exact ⟨_, h.2, fun K' H' h' => hd _ ⟨h.1, h'⟩⟩
    · exact h.elim
  · exact h.elim
theorem nField_still (t : TypeId) (x : Value) (f : Nat) : StillF (nField P t x f) none_ := still_mk fun K H h => by
  unfold nField at *
  split at h
  · obtain ⟨d, h, hd⟩ := tyD_one _ _ h
    split at h
    · split at h
      · rename_i fs fd hfd
        obtain ⟨df, h, hdf⟩ := tyD_one _ _ h
        split at h
        · rename_i hg
          obtain ⟨i, h, hi⟩ := tyI_one _ _ h
          refine ⟨_, h, fun K' H' h' => hd _ ?_⟩
          simp only [hfd]
          refine hdf _ ?_
          simp only [hg]
          exact hi _ h'
        · rename_i hg
          split at h
          · rename_i v hv
            refine ⟨_, h, fun K' H' h' => hd _ ?_⟩
            simp only [hfd]
            refine hdf _ ?_
            simp only [hg, hv]
            exact h'
          · exact h.elim
      · exact h.elim
    · exact h.elim
  · exact h.elim
theorem nSlice_still (t : TypeId) (x : Value) (lo hi mx : Option Value) : StillF (nSlice P t x lo hi mx) none_ := still_mk fun K H h => by
  unfold nSlice at *
  obtain ⟨d, h, hd⟩ := tyD_one _ _ h
  split at h
  · split at h
    · obtain ⟨a, h, ha⟩ := bnd_one _ _ _ _ h
      obtain ⟨b, h, hb⟩ := bnd_one _ _ _ _ h
      exact ⟨_, h, fun K' H' h' => hd _ (ha _ (hb _ h'))⟩
    · exact h.elim
  · obtain ⟨i, h, hi'⟩ := tyI_one _ _ h
    split at h
    · exact h.elim
    · rename_i hne
      obtain ⟨a, h, ha⟩ := bnd_one _ _ _ _ h
      obtain ⟨b, h, hb⟩ := bnd_one _ _ _ _ h
      obtain ⟨c, h, hc⟩ := bnd_one _ _ _ _ h
      refine ⟨_, h, fun K' H' h' => hd _ (hi' _ ?_)⟩
      cases mx <;> cases hi <;> first | exact (hne _ rfl rfl).elim | exact ha _ (hb _ (hc _ h'))
  · obtain ⟨i, h, hi'⟩ := tyI_one _ _ h
    obtain ⟨ad, h, had⟩ := ptr_one _ _ h
    split at h
    · exact h.elim
    · rename_i hne
      obtain ⟨a, h, ha⟩ := bnd_one _ _ _ _ h
      obtain ⟨b, h, hb⟩ := bnd_one _ _ _ _ h
      obtain ⟨c, h, hc⟩ := bnd_one _ _ _ _ h
      refine ⟨_, h, fun K' H' h' => hd _ (hi' _ (had _ ?_))⟩
      cases mx <;> cases hi <;> first | exact (hne _ rfl rfl).elim | exact ha _ (hb _ (hc _ h'))
  · exact h.elim
theorem nBuild_still (t : TypeId) (parts : List (Nat × Value)) : StillF (nBuild P t parts) none_ := still_mk fun K H h => by
  unfold nBuild at *
  obtain ⟨z, h, hz⟩ := tyZ_one _ _ h
  obtain ⟨d, h, hd⟩ := tyD_one _ _ h
  split at h
  · split at h
    · rename_i pl hpl
      split at h
      · rename_i cells hc
        refine ⟨_, h, fun K' H' h' => hz _ (hd _ ?_)⟩
        simp only [hpl, hc]; exact h'
      · exact h.elim
    · exact h.elim
  · obtain ⟨i, h, hi⟩ := tyI_one _ _ h
    split at h
    · rename_i cells hc
      refine ⟨_, h, fun K' H' h' => hz _ (hd _ (hi _ ?_))⟩
      simp only [hc]; exact h'
    · exact h.elim
  · exact h.elim
theorem nUn_still (op : UnOp) (x : Value) : StillF (nUn op x) none_ := still_mk fun K H h => by
  unfold nUn at *
  split at h <;> first | exact h.elim | exact ⟨_, h, fun K' H' h => h⟩
theorem nExtract_still (x : Value) (i : Nat) : StillF (nExtract x i) none_ := still_mk fun K H h => by
  unfold nExtract at *
  split at h
  · split at h
    · rename_i v hv
      exact ⟨_, h, fun K' H' h => h⟩
    · exact h.elim
  · exact h.elim
theorem nIface_still (t : TypeId) (x : Value) : StillF (nIface P t x) none_ := still_mk fun K H h => by
  unfold nIface at *
  obtain ⟨d, h, hd⟩ := tyD_one _ _ h
  split at h
  · exact h.elim
  · rename_i hne
    refine ⟨_, h, fun K' H' h' => hd _ ?_⟩
    split
    · exact (hne _ rfl).elim
    · exact h'
theorem nLen_still (t : TypeId) (x : Value) : StillF (nLen P t x) none_ := still_mk fun K H h => by
  unfold nLen at *
  obtain ⟨d, h, hd⟩ := tyD_one _ _ h
  split at h <;> first | exact h.elim | exact ⟨_, h, fun K' H' h' => hd _ h'⟩
def scalarB (P : Program) (t : TypeId) : Bool := match P.underlying t with
  | some d => scalarD d
  | none => true
theorem nBin_still {op : BinOp} {t : TypeId} {ox oy : Operand} {x y : Value} (E : Value → Heap → Prop) (ht : scalarB P t = true) :
    StillF (fun K H => nBin P op t ox oy x y K E H) none_ := still_mk fun K H h => by
  unfold nBin at h
  split at h
  · rename_i c v hb
    refine ⟨v, h.2, fun K' H' h' => ?_⟩
    simp only [nBin, hb]; exact ⟨h.1, h'⟩
  · rename_i v hb
    refine ⟨v, h, fun K' H' h' => ?_⟩
    simp only [nBin, hb]; exact h'
  · obtain ⟨d, hd, h⟩ := tyD_elim h
    have ht : scalarD d = true := by simpa [scalarB, hd] using ht
    rw [ht] at h
    exact h.elim
theorem exL_len : ∀ (l : List Shp) (K : List Value → Prop), exL l K → exL l fun vs => vs.length = l.length ∧ K vs
  | [], K, h => ⟨rfl, h⟩
  | s :: l, K, h => exS_mono h fun v h => exL_mono (exL_len l _ h) fun vs h => ⟨by simp [h.1], h.2⟩
theorem nLoad_still (t : TypeId) (a : Value) : StillF (nLoad P t a) (fun b => ∃ ad, a = .pointer (some ad) ∧ b = ad.block) := fun K H h => by
  unfold nLoad at h
  split at h
  · rename_i p
    cases p with
    | none => exact h.elim
    | some ad =>
    obtain ⟨d, h, hd⟩ := tyD_one _ _ h
    have hcell : ∀ {a : Addr} {v : Value}, H.cell? a = some v → H a.block ≠ none := by
      intro a v hc hn
      simp only [Heap.cell?, hn] at hc; cases hc
    have hsame : ∀ {H' : Heap} (a : Addr), H' a.block = H a.block → H'.cell? a = H.cell? a := by
      intro H' a he; simp only [Heap.cell?, he]
    split at h
    · rename_i hg
      obtain ⟨i, h, hi⟩ := tyI_one _ _ h
      split at h
      · rename_i hb
        obtain ⟨vs, ⟨hlen, hr, h⟩, hvs⟩ := exL_one _ _ (exL_len _ _ h)
        have hblk : ∀ j, (ad.add j).block = ad.block := by intro j; unfold Addr.add; split <;> rfl
        refine ⟨_, h, ?_, fun K' H' hB h' => ?_⟩
        · rintro b ⟨ad', h1, rfl⟩
          cases h1
          cases vs with
          | nil =>
            simp only [Bool.and_eq_true] at hb
            have h1 := Nat.eq_of_beq_eq_true hb.1
            have h2 := Nat.le_of_ble_eq_true hb.2
            simp at hlen; omega
          | cons v l => have := hcell hr.1; rwa [hblk] at this
        · unfold nLoad
          show tyD P t _
          refine hd _ ?_
          simp only [hg]
          refine hi _ ?_
          simp only [hb]
          refine hvs _ ⟨?_, h'⟩
          have he := hB ad.block ⟨ad, rfl, rfl⟩
          have : ∀ (l : List Value) (j : Nat), H.rd ad j l → H'.rd ad j l := by
            intro l
            induction l with
            | nil => intro j _; trivial
            | cons v l ih => intro j hr; exact ⟨(hsame _ (by rw [hblk]; exact he)).trans hr.1, ih _ hr.2⟩
          exact this _ _ hr
      · exact h.elim
    · rename_i hg
      obtain ⟨v, ⟨hc, h⟩, hv⟩ := exS_one _ _ h
      refine ⟨v, h, ?_, fun K' H' hB h' => ?_⟩
      · rintro b ⟨ad', h1, rfl⟩
        cases h1; exact hcell hc
      · unfold nLoad
        show tyD P t _
        refine hd _ ?_
        simp only [hg]
        refine hv _ ⟨?_, h'⟩
        rw [hsame _ (hB ad.block ⟨ad, rfl, rfl⟩)]; exact hc
  · exact h.elim
end Go.V
