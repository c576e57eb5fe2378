/- More nice forms of operations: literals, conversions; 'vcOp' and its soundness. -/
import Derived.Test.YtaffcoiomggpfaaVOps2
namespace Go.V
set_option linter.constructorNameAsVariable false
set_option linter.unusedVariables false
variable {P : Program}

instance : LawfulMonad Sem := LawfulMonad.mk'
  (id_map := fun s => by show s.bind (fun a => Sem.pure (id a)) = s; exact bind_pure_ s)
  (pure_bind := fun _ _ => rfl)
  (bind_assoc := fun s f g => bind_assoc s f g)

section
variable (P : Program)
def szs : List Field → Option (List (Nat × Nat))
  | [] => some []
  | f :: l => match P.info? f.type, szs l with
    | some i, some r => some ((f.offset, i.size) :: r)
    | _, _ => none
end
def fillN (place : Nat → Option (Nat × Nat)) : Array Value → List (Nat × Value) → Option (Array Value)
  | c, [] => some c
  | c, (i, v) :: rest => match place i with
    | none => none
    | some (off, size) => match Nat.beq v.cells.size size && Nat.ble (off + v.cells.size) c.size with
      | true => fillN place (over c off v.cells.toList) rest
      | false => none
theorem over_foldl (vs : List Value) : ∀ (c : Array Value) (off k : Nat),
    (vs.zipIdx k).foldl (fun cs (x : Value × Nat) => cs.setIfInBounds (off + x.2) x.1) c = over c (off + k) vs := by
  induction vs with
  | nil => intro c off k; rfl
  | cons v vs ih => intro c off k; simp only [List.zipIdx_cons, List.foldl_cons, over]; rw [ih]; congr 1
theorem fill_eq (place : Nat → Option (Nat × Nat)) : ∀ (parts : List (Nat × Value)) (c : Array Value), Instr.fill place c parts = fillN place c parts
  | [], c => rfl
  | (i, v) :: rest, c => by
    unfold Instr.fill fillN
    cases hp : place i with
    | none => rfl
    | some os =>
      obtain ⟨off, size⟩ := os
      simp only []
      have e1 : v.cells.zipIdx.foldl (fun cs (x : Value × Nat) => cs.setIfInBounds (off + x.2) x.1) c = over c off v.cells.toList := by
        rw [← Array.foldl_toList, Array.toList_zipIdx]; exact over_foldl _ _ _ 0
      have e2 : (v.cells.zipIdx.foldl (fun cs x => match x with | (c, j) => cs.setIfInBounds (off + j) c) c) = over c off v.cells.toList := e1
      rw [e2, fill_eq place rest]
      by_cases h1 : v.cells.size = size
      · subst h1
        by_cases h2 : off + v.cells.size ≤ c.size
        · have : (Nat.beq v.cells.size v.cells.size && Nat.ble (off + v.cells.size) c.size) = true := by simp; omega
          rw [this, if_neg (by simp; omega)]
        · have : (Nat.beq v.cells.size v.cells.size && Nat.ble (off + v.cells.size) c.size) = false := by
            have hb : Nat.ble (off + v.cells.size) c.size = false := by
              cases h : Nat.ble (off + v.cells.size) c.size
              · rfl
              · exact absurd (Nat.le_of_ble_eq_true h) h2
            rw [hb, Bool.and_false]
          rw [this, if_pos (by simp; omega)]
      · have : (Nat.beq v.cells.size size && Nat.ble (off + v.cells.size) c.size) = false := by simp [h1]
        rw [this, if_pos (by simp [h1])]
section
variable (P : Program)
def nBuild (t : TypeId) (parts : List (Nat × Value)) (K : Value → Heap → Prop) (H : Heap) : Prop :=
  tyZ P t fun z => tyD P t fun d => match d with
  | .struct fs => match szs P fs.toList with
    | some pl => match fillN (fun i => pl[i]?) z.toArray parts with
      | some cells => K (.agg cells) H
      | none => False
    | none => False
  | .array _ e => tyI P e fun i => match fillN (fun j => some (j * i.size, i.size)) z.toArray parts with
    | some cells => K (.agg cells) H
    | none => False
  | _ => False
def nBuildSlice (t : TypeId) (len : Nat) (parts : List (Nat × Value)) (K : Value → Heap → Prop) (H : Heap) : Prop :=
  tyD P t fun d => match d with
  | .slice e => tyI P e fun i => tyZ P e fun z => match Nat.ble (len * i.size) 16777216 with
    | true => match fillN (fun j => some (j * i.size, i.size)) (rep len z).toArray parts with
      | some cells => nw (.cells cells e (0, 0)) H fun id H => K (.slice (some ⟨id, 0, none⟩) len len) H
      | none => False
    | false => False
  | _ => False
def nConv (s d : TypeId) (x : Value) (K : Value → Heap → Prop) (H : Heap) : Prop :=
  tyD P s fun ds => tyD P d fun dd => match dd, x with
  | .int k, .int _ n => K (.int k (k.wrap n)) H
  | .string, .string s => K (.string s) H
  | .slice e, .string s => tyD P e fun de => match de with
    | .int .u8 => ∀ c, s.size ≤ c → nw (.cells (bytesV s ++ List.replicate (c - s.size) (Value.int .u8 0)).toArray e (c, c + 1)) H fun id H => K (.slice (some ⟨id, 0, none⟩) s.size c) H
    | _ => False
  | .string, .slice p n c => match ds with
    | .slice e => tyD P e fun de => match de with
      | .int .u8 => ∃ bs : List UInt8, bs.length = n ∧ H.rdS p (bs.map byteV) ∧ K (.string ⟨bs.toArray⟩) H
      | _ => False
    | _ => False
  | .slice e, .slice (some a) n c => match ds with
    | .slice _ => match Nat.beq s d with
      | true => tyD P e fun de => match de with
        | .int .u8 => ∃ (cs : Array Value) (t : TypeId), H a.block = some (.cells cs t (0, 0)) ∧ K (.slice (some a) n c) (H.set a.block (.cells cs t (cs.size, cs.size + 1)))
        | _ => False
      | false => False
    | _ => False
  | _, _ => False
end
theorem mapM_szs (P : Program) : ∀ (fs : List Field) (pl : List (Nat × Nat)) {α : Type} (f : List (Nat × Nat) → Sem α) {Q : α → Heap → Prop} {E : Value → Heap → Prop} {H : Heap},
    szs P fs = some pl → vp P (f pl) Q E H → vp P (fs.mapM (fun f => do pure (f.offset, ← sizeOf f.type)) >>= f) Q E H
  | [], pl, α, f, Q, E, H, hs, h => by
    simp only [szs, Option.some.injEq] at hs; subst hs
    exact h
  | x :: l, pl, α, f, Q, E, H, hs, h => by
    simp only [szs] at hs
    split at hs
    · rename_i i r hi hr
      cases hs
      rw [List.mapM_cons, LawfulMonad.bind_assoc, LawfulMonad.bind_assoc]
      refine vp_size hi ?_
      show vp P (_ >>= _) _ _ _
      simp only [LawfulMonad.pure_bind, LawfulMonad.bind_assoc]
      exact mapM_szs P l r _ hr h
    · cases hs
theorem nBuild_vp {t : TypeId} {parts : Array (Nat × Value)} {K : Value → Heap → Prop} {E : Value → Heap → Prop} {H : Heap} (h : nBuild P t parts.toList K H) :
    vp P (Instr.build t parts) K E H := by
  replace h := tyZ_elim h; obtain ⟨i, z, hi, hz, hs, h⟩ := h
  replace h := tyD_elim h; obtain ⟨d, hd, h⟩ := h
  unfold Instr.build
  refine vp_zero hi hz ?_
  refine vp_und hd ?_
  split at h
  · rename_i fs
    split at h
    · rename_i pl hpl
      split at h
      · rename_i cells hc
        show vp P (fs.mapM _ >>= _) _ _ _
        rw [Array.mapM_eq_mapM_toList, map_eq_pure_bind, Go.V.bind_assoc]
        refine mapM_szs P _ pl _ hpl ?_
        refine vp_bind' ?_
        show vp P _ K E H
        rw [fill_eq]
        have e1 : (fun i => pl.toArray[i]?) = fun (i : Nat) => pl[i]? := by funext i; simp
        rw [e1]
        simp only [Array.toArray_toList] at hc
        rw [hc]; exact h
      · exact h.elim
    · exact h.elim
  · rename_i n e
    replace h := tyI_elim h; obtain ⟨ie, hie, h⟩ := h
    split at h
    · rename_i cells hc
      refine vp_size hie ?_
      rw [fill_eq]
      simp only [Array.toArray_toList] at hc
      rw [hc]; exact h
    · exact h.elim
  · exact h.elim
theorem nBuildSlice_vp {t : TypeId} {len : Nat} {parts : Array (Nat × Value)} {K : Value → Heap → Prop} {E : Value → Heap → Prop} {H : Heap} (h : nBuildSlice P t len parts.toList K H) :
    vp P (Instr.buildSlice t len parts) K E H := by
  replace h := tyD_elim h; obtain ⟨d, hd, h⟩ := h
  unfold Instr.buildSlice
  refine vp_und hd ?_
  split at h
  · rename_i e
    replace h := tyI_elim h; obtain ⟨i, hi, h⟩ := h
    replace h := tyZ_elim h; obtain ⟨i', z, hi', hz, hs, h⟩ := h
    obtain rfl : i = i' := by rw [hi] at hi'; exact Option.some.inj hi'
    split at h
    · rename_i hle
      split at h
      · rename_i cells hc
        refine vp_size hi ?_
        rw [if_neg (by have := Nat.le_of_ble_eq_true hle; omega)]
        by_cases h0 : len * i.size = 0
        · rw [if_pos h0]
          refine vp_bind' ?_
          have e0 : (Array.range (len * i.size)).map (fun x => (#[] : Array Value)[x % (#[] : Array Value).size]!) = (rep len z.cells.toList).toArray := by
            rw [h0]
            have : (rep len z.cells.toList).toArray = #[] := by
              apply Array.eq_empty_of_size_eq_zero
              rw [List.size_toArray, rep_length]; rw [← hs] at h0; simpa using h0
            rw [this]; simp
          show vp P _ K E H
          dsimp only
          rw [e0, fill_eq, hc]
          exact fun id hid => h id hid
        · rw [if_neg h0]
          refine vp_zero hi hz ?_
          refine vp_bind' ?_
          show vp P _ K E H
          dsimp only
          have e0 : (Array.range (len * i.size)).map (fun x => z.cells[x % z.cells.size]!) = (rep len z.cells.toList).toArray := by
            rw [← hs, zeros_eq]
          rw [e0, fill_eq, hc]
          exact fun id hid => h id hid
      · exact h.elim
    · exact h.elim
  · exact h.elim
theorem bytes_loop {α : Type} {f : ByteArray → Sem α} {Q : α → Heap → Prop} {E : Value → Heap → Prop} {H : Heap} : ∀ (bs : List UInt8) (s : ByteArray),
    vp P (f ⟨s.data ++ bs.toArray⟩) Q E H → vp P ((forIn (bs.map byteV) s fun c s => do
      let .int .u8 n := c | stuck "bytesToString: byte expected"
      pure (ForInStep.yield (s.push (UInt8.ofNat n.toNat)))) >>= f) Q E H
  | [], s, h => by simpa using h
  | b :: bs, s, h => by
    simp only [List.map_cons, List.forIn_cons, LawfulMonad.bind_assoc]
    show vp P (_ >>= f) Q E H
    refine bytes_loop bs (s.push (UInt8.ofNat (b.toNat : Int).toNat)) ?_
    have : (⟨(s.push (UInt8.ofNat (b.toNat : Int).toNat)).data ++ bs.toArray⟩ : ByteArray) = ⟨s.data ++ (b :: bs).toArray⟩ := by
      congr 1
      show s.data.push _ ++ _ = _
      simp
    rw [this]; exact h
theorem nConv_vp {s d : TypeId} {x : Value} {K : Value → Heap → Prop} {E : Value → Heap → Prop} {H : Heap} (h : nConv P s d x K H) : vp P (convert s d x) K E H := by
  replace h := tyD_elim h; obtain ⟨ds, hds, h⟩ := h
  replace h := tyD_elim h; obtain ⟨dd, hdd, h⟩ := h
  unfold convert
  refine vp_und hds ?_
  refine vp_und hdd ?_
  split at h
  · cases ds <;> exact h
  · cases ds <;> exact h
  · rename_i e s
    replace h := tyD_elim h; obtain ⟨de, hde, h⟩ := h
    split at h
    · have hm : vp P (underlying e >>= fun x => match x with | .int .u8 => Conv.stringToBytes e s | .int .i32 => Conv.stringToRunes e s | _ => stuck "Convert: string to a slice of what?") K E H := by
        refine vp_und hde ?_
        show vp P (Conv.stringToBytes e s) _ _ _
        unfold Conv.stringToBytes
        refine vp_bind' ?_
        unfold choose
        simp only [vp, Question.forced, Bool.false_eq_true, if_false]
        intro tape
        have hcut : s.size ≤ (Question.appendCap s.size 0 e).cut tape := by
          show s.size ≤ s.size + _; omega
        have h := h _ hcut
        generalize (Question.appendCap s.size 0 e).cut tape = cap at h hcut
        intro id hid
        have h := h id hid
        have e1 : (s.data.map fun b => Value.int .u8 b.toNat) ++ Array.replicate (cap - s.size) (Value.int .u8 0) = (bytesV s ++ List.replicate (cap - s.size) (Value.int .u8 0)).toArray := by
          apply Array.ext'
          simp [bytesV, byteV]
        have e2 : (bytesV s ++ List.replicate (cap - s.size) (Value.int .u8 0)).toArray.size = cap := by
          have : s.data.size = s.size := rfl
          simp [bytesV]; omega
        rw [e1]
        refine vp_bind' ?_
        refine vp_bind' ?_
        show vp P (Sem.shape _ _) _ _ _
        simp only [vp, Heap.set_self]
        refine vp_bind (freeze { block := id, off := (bytesV s ++ List.replicate (cap - s.size) (Value.int .u8 0)).toArray.size } 1) _ ?_
        unfold freeze
        simp only [vp, Heap.set_self]
        simp only [Nat.one_ne_zero, if_false, BEq.rfl, if_true, Heap.set_set]
        rw [e2]
        exact h
      cases ds <;> exact hm
    · exact h.elim
  · rename_i p n c
    split at h
    · rename_i e
      replace h := tyD_elim h; obtain ⟨de, hde, h⟩ := h
      split at h
      · obtain ⟨bs, hl, hr, h⟩ := h
        show vp P (underlying e >>= _) _ _ _
        refine vp_und hde ?_
        show vp P (Conv.bytesToString _) _ _ _
        unfold Conv.bytesToString
        cases p with
        | none =>
          have : bs = [] := by simpa [Heap.rdS] using hr
          subst this
          exact h
        | some ad =>
          show vp P (loadCells ad n >>= _) _ _ _
          refine vp_loadCells (by simpa using hl) hr ?_
          rw [← Array.forIn_toList]
          refine bytes_loop bs .empty ?_
          have : (⟨ByteArray.empty.data ++ bs.toArray⟩ : ByteArray) = ⟨bs.toArray⟩ := by congr 1; simp
          rw [this]; exact h
      · exact h.elim
    · exact h.elim
  · rename_i e a n c
    split at h
    · split at h
      · rename_i hb
        replace h := tyD_elim h; obtain ⟨de, hde, h⟩ := h
        split at h
        · obtain ⟨cs, t, h1, h⟩ := h
          show vp P (underlying e >>= _) _ _ _
          refine vp_und hde ?_
          have hb : (s == d) = true := by simpa using hb
          rw [hb]
          show vp P (markStringish a >>= _) _ _ _
          refine vp_bind' ?_
          unfold markStringish
          show vp P (Sem.shape _ _) _ _ _
          simp only [vp, h1]
          unfold freeze
          show vp P (Sem.freeze _ _ _) _ _ _
          simp only [vp, h1, Nat.one_ne_zero, if_false, BEq.rfl, if_true]
          exact h
        · exact h.elim
      · exact h.elim
    · exact h.elim
  · exact h.elim
theorem nClear_vp {ats : Array TypeId} {ty : TypeId} {args : Array Value} {K : Value → Heap → Prop} {E : Value → Heap → Prop} {H : Heap} (h : nClear P ats.toList args.toList K H) : vp P (Builtin.clear_ ats ty args) K E H := by
  unfold nClear at h
  split at h
  · rename_i t p n c hts hargs
    replace h := tyD_elim h; obtain ⟨d, hd, h⟩ := h
    split at h
    · rename_i e
      replace h := tyI_elim h; obtain ⟨i, hi, h⟩ := h
      replace h := tyZ_elim h; obtain ⟨i', z, hi', hz, hs, h⟩ := h
      have ht0 : ats[0]? = some t := by rw [← Array.getElem?_toList, hts]; rfl
      have hx0 : args[0]? = some (.slice p n c) := by rw [← Array.getElem?_toList, hargs]; rfl
      unfold Builtin.clear_
      simp only [ht0, hx0]
      refine vp_und hd ?_
      cases p with
      | none =>
        cases n with
        | zero => exact h
        | succ n =>
          unfold wrS at h
          split at h
          · exact h
          · exact h.elim
      | some a =>
        cases n with
        | zero => exact h
        | succ n =>
          show vp P (zeroValue e >>= _) _ _ _
          refine vp_zero hi' hz ?_
          rw [zeroCells_eq, List.toList_toArray]
          refine vp_bind' ?_
          unfold wrS at h
          split at h
          · rename_i he; rw [he]; exact h
          · rename_i v l he
            rw [he]
            exact wr_vp h
    · exact h.elim
  · exact h.elim
end Go.V
