/- What is made: slices, structs; append, copy. -/
import Derived.Test.YtedebapgmfnflaaG8
namespace Go.Proofs.Ytedebapgmfnflaa
open Go

section
variable {P : Program} {w : World} {K : VPost}

theorem insW_ok {s : Sem Value} {v : Value} {w' : World} (hr : s.run P w = .ok v w') (h : K v w') : insW P s w K := by
  unfold insW; rw [hr]; exact h

/-! ### Filling -/
theorem foldl_zip_set (vs : List Value) : ∀ (cs : Array Value) (o k : Nat), o + k + vs.length ≤ cs.size →
    (vs.zipIdx k).foldl (fun cs (p : Value × Nat) => cs.setIfInBounds (o + p.2) p.1) cs = (lspl cs.toList (o + k) vs).toArray := by
  induction vs with
  | nil => intro cs o k _; simp [lspl]
  | cons v r ih =>
    intro cs o k h
    simp only [List.length_cons] at h
    rw [List.zipIdx_cons, List.foldl_cons, ih _ _ _ (by simp; omega)]
    apply congrArg
    unfold lspl
    simp only [Array.toList_setIfInBounds, List.length_cons]
    have e := list_seg_step cs.toList (o + k) v r (by simp; omega)
    simpa [Nat.add_assoc, Nat.add_comm, Nat.add_left_comm] using e

theorem fill_cons {place : Nat → Option (Nat × Nat)} {cs : List Value} {i off : Nat} {v : Value} {rest : List (Nat × Value)} (hp : place i = some (off, v.cells.size)) (hle : off + v.cells.size ≤ cs.length) :
    Instr.fill place cs.toArray ((i, v) :: rest) = Instr.fill place (lspl cs off v.cells.toList).toArray rest := by
  rw [Instr.fill, hp]
  simp only [ne_eq, not_true_eq_false, List.size_toArray, decide_false, Bool.false_or, decide_eq_true_eq]
  rw [if_neg (by omega)]
  congr 1
  have := foldl_zip_set v.cells.toList cs.toArray off 0 (by simpa using hle)
  rw [Nat.add_zero] at this
  rw [← this, ← Array.foldl_toList, Array.toList_zipIdx]

theorem lspl_lspl (cs : List Value) (o : Nat) (a b : List Value) (h : o + a.length + b.length ≤ cs.length) : lspl (lspl cs o a) (o + a.length) b = lspl cs o (a ++ b) := by
  unfold lspl
  have hT : (cs.take o ++ a).length = o + a.length := by simp; omega
  rw [List.take_left' hT, List.drop_append, List.drop_of_length_le (by rw [hT]; omega), hT, List.nil_append, List.drop_drop, List.append_assoc (cs.take o), List.length_append]
  congr 2
  omega

def enumV : Nat → List Value → List (Nat × Value)
  | _, [] => []
  | k, v :: r => (k, v) :: enumV (k + 1) r

def flatV (vs : List Value) : List Value := vs.flatMap fun v => v.cells.toList

theorem flatV_length {vs : List Value} {s : Nat} (h : ∀ v ∈ vs, v.cells.size = s) : (flatV vs).length = vs.length * s := by
  induction vs with
  | nil => simp [flatV]
  | cons v r ih =>
    have := ih (fun x hx => h x (List.mem_cons_of_mem _ hx))
    have h0 := h v List.mem_cons_self
    simp only [flatV, List.flatMap_cons, List.length_append, Array.length_toList, h0, List.length_cons, Nat.add_mul, Nat.one_mul] at this ⊢
    omega

theorem fill_enum {s : Nat} (vs : List Value) : ∀ (k : Nat) (cs : List Value), (∀ v ∈ vs, v.cells.size = s) → (k + vs.length) * s ≤ cs.length →
    Instr.fill (fun i => some (i * s, s)) cs.toArray (enumV k vs) = some (lspl cs (k * s) (flatV vs)).toArray := by
  induction vs with
  | nil => intro k cs _ _; simp [enumV, Instr.fill, lspl, flatV]
  | cons v r ih =>
    intro k cs h hle
    have h0 := h v List.mem_cons_self
    have hr := fun x hx => h x (List.mem_cons_of_mem v hx)
    simp only [List.length_cons] at hle
    have hmul : (k + (r.length + 1)) * s = k * s + s + r.length * s := by rw [Nat.add_mul, Nat.add_mul, Nat.one_mul]; omega
    rw [hmul] at hle
    unfold enumV
    rw [fill_cons (by rw [h0]) (by rw [h0]; omega)]
    have hl : (lspl cs (k * s) v.cells.toList).length = cs.length := lspl_length (by simp only [Array.length_toList, h0]; omega)
    rw [ih (k + 1) _ hr (by rw [hl, Nat.add_mul, Nat.add_mul, Nat.one_mul]; omega)]
    have hf := flatV_length hr
    have e1 : (k + 1) * s = k * s + s := by rw [Nat.add_mul, Nat.one_mul]
    have e2 : flatV (v :: r) = v.cells.toList ++ flatV r := by simp [flatV]
    have hv : v.cells.toList.length = s := by simp [h0]
    rw [e1, e2]
    have := lspl_lspl cs (k * s) v.cells.toList (flatV r) (by omega)
    rw [hv] at this
    rw [this]

theorem buildSlice_i {t e : TypeId} {i : TypeInfo} {z : Value} {vs : List Value} {parts : List (Nat × Value)} (hu : P.underlying t = some (.slice e)) (hi : P.info? e = some i) (hz : i.zero = some z)
    (hp : parts = enumV 0 vs) (hs : ∀ v ∈ vs, v.cells.size = i.size) (hsm : vs.length * i.size ≤ 2 ^ 24)
    (h : ∀ b w', w.heap.size = b → Ext [] w w' → Blk w' b (flatV vs) e → w'.heap.size = b + 1 → K (.slice (some ⟨b, 0, none⟩) vs.length vs.length) w') :
    insW P (Instr.buildSlice t vs.length parts.toArray) w K := by
  have hz' : zeroO P e = some z := by simp [zeroO, hi, hz]
  refine insW_ok (v := .slice (some ⟨w.heap.size, 0, none⟩) vs.length vs.length) (w' := w.alloc (.cells (flatV vs).toArray e)) ?_ (h _ _ rfl (ext_alloc w _) (alloc_new w _) (size_al w _))
  unfold Instr.buildSlice
  have key : ∀ (zs : Array Value), Instr.fill (fun j => some (j * i.size, i.size)) ((Array.range (vs.length * i.size)).map (zs[· % zs.size]!)) (enumV 0 vs) = some (flatV vs).toArray := by
    intro zs
    have := fill_enum (s := i.size) vs 0 ((Array.range (vs.length * i.size)).map (zs[· % zs.size]!)).toList hs (by simp)
    rw [Array.toArray_toList] at this
    rw [this]
    have hf := flatV_length hs
    congr 2
    unfold lspl
    simp only [Nat.zero_mul, List.take_zero, List.nil_append, Nat.zero_add]
    rw [List.drop_of_length_le (by simp; omega), List.append_nil]
  simp only [Sem.run_bind, run_und hu, Result.andThen_ok, run_size hi]
  rw [if_neg (by omega)]
  have hfin : ∀ zs : Array Value, (do
      let some cells := Instr.fill (fun j => some (j * i.size, i.size)) ((Array.range (vs.length * i.size)).map (zs[· % zs.size]!)) parts.toArray.toList
        | stuck "buildSlice: a part of the wrong size"
      pure (.slice (some (← newRow e cells)) vs.length vs.length) : Sem Value).run P w = .ok (.slice (some ⟨w.heap.size, 0, none⟩) vs.length vs.length) (w.alloc (.cells (flatV vs).toArray e)) := by
    intro zs
    rw [show parts.toArray.toList = enumV 0 vs from hp, key zs]
    rfl
  by_cases h0 : vs.length * i.size = 0
  · rw [if_pos h0]
    simp only [Sem.run_bind, Sem.run_pure, Result.andThen_ok]
    exact hfin #[]
  · rw [if_neg h0]
    have hzr : (zeroValue e).run P w = .ok z w := by
      unfold zeroValue; simp only [Sem.run_bind, run_info hi, Result.andThen_ok, hz, Sem.run_pure]
    simp only [Sem.run_bind, hzr, Result.andThen_ok, Sem.run_pure]
    exact hfin z.cells

/-- make of a slice of elements whose zero value's cells are all one value. -/
theorem makeSlice_i {t e : TypeId} {i : TypeInfo} {z : Value} {z0 : Value} {n c : Nat} {kl kc : IntKind} (hu : P.underlying t = some (.slice e)) (hi : P.info? e = some i) (hz : i.zero = some z)
    (hzc : z.cells = Array.replicate i.size z0) (hnc : n ≤ c) (hsm : i.bytes * c ≤ 2 ^ 48) (hc : c < 2 ^ 63)
    (h : ∀ b w', w.heap.size = b → Ext [] w w' → Blk w' b (List.replicate (c * i.size) z0) e → w'.heap.size = b + 1 → K (.slice (some ⟨b, 0, none⟩) n c) w') :
    insW P (Instr.makeSlice t (.int kl n) (.int kc c)) w K := by
  refine insW_ok (v := .slice (some ⟨w.heap.size, 0, none⟩) n c) (w' := w.alloc (.cells (List.replicate (c * i.size) z0).toArray e)) ?_ (h _ _ rfl (ext_alloc w _) (alloc_new w _) (size_al w _))
  unfold Instr.makeSlice
  have hwr : ∀ m : Nat, m < 2 ^ 63 → IntKind.i64.wrap (m : Int) = m := by
    intro m hm
    rw [IntKind.wrap_i64]
    omega
  have hn : n < 2 ^ 63 := by omega
  have hb : ((i.bytes : Int) * (c : Int)) ≤ 2 ^ 48 := by
    have : ((i.bytes * c : Nat) : Int) ≤ ((2 ^ 48 : Nat) : Int) := Int.ofNat_le.2 hsm
    simpa using this
  have hroom : ∀ (m : Nat) (w : World), (askRoom m).run P w = .ok () w := by
    intro m w
    unfold askRoom
    split <;> rfl
  simp only [Sem.run_bind, run_und hu, Result.andThen_ok, asInt, asIntOf, Sem.run_pure, run_info hi, hwr n hn, hwr c hc]
  rw [if_neg (by simp; omega)]
  simp only [Sem.run_bind, hroom, Result.andThen_ok, run_size hi, Int.toNat_natCast]
  have hcells : ∀ zs : Array Value, (c * i.size ≠ 0 → zs = z.cells) → (Array.range (c * i.size)).map (zs[· % zs.size]!) = (List.replicate (c * i.size) z0).toArray := by
    intro zs hzs
    apply Array.ext
    · simp
    · intro j h1 h2
      simp at h1
      have h0 : c * i.size ≠ 0 := by omega
      have hp : 0 < i.size := by
        rcases Nat.eq_zero_or_pos i.size with e | e
        · rw [e] at h0; simp at h0
        · exact e
      have hzz := (hzs h0).trans hzc
      have := Nat.mod_lt j hp
      subst hzz
      simp [this]
  by_cases h0 : c * i.size = 0
  · rw [if_pos h0]
    simp only [Sem.run_pure, Sem.run_bind, Result.andThen_ok]
    rw [hcells #[] (fun h => absurd h0 h)]
    rfl
  · rw [if_neg h0]
    have hzr : (zeroValue e).run P w = .ok z w := by
      unfold zeroValue; simp only [Sem.run_bind, run_info hi, Result.andThen_ok, hz, Sem.run_pure]
    simp only [Sem.run_bind, hzr, Result.andThen_ok, Sem.run_pure]
    rw [hcells z.cells (fun _ => rfl)]
    rfl

/-- A struct out of its parts. -/
def fillL (pl : List (Nat × Nat)) : List Value → List (Nat × Value) → Option (List Value)
  | cs, [] => some cs
  | cs, (i, v) :: r =>
    match pl[i]? with
    | some (off, size) => if v.cells.size = size ∧ off + size ≤ cs.length then fillL pl (lspl cs off v.cells.toList) r else none
    | none => none

theorem fill_L {pl : List (Nat × Nat)} : ∀ {parts : List (Nat × Value)} {cs out : List Value}, fillL pl cs parts = some out → Instr.fill (pl[·]?) cs.toArray parts = some out.toArray := by
  intro parts
  induction parts with
  | nil => intro cs out h; simp only [fillL, Option.some.injEq] at h; subst h; rfl
  | cons p r ih =>
    intro cs out h
    obtain ⟨i, v⟩ := p
    unfold fillL at h
    split at h
    · rename_i off size hp
      split at h
      · rename_i hc
        obtain ⟨h1, h2⟩ := hc
        subst h1
        rw [fill_cons hp h2]
        exact ih h
      · cases h
    · cases h

def placesO (P : Program) : List Field → Option (List (Nat × Nat))
  | [] => some []
  | f :: r => match P.info? f.type, placesO P r with
    | some i, some l => some ((f.offset, i.size) :: l)
    | _, _ => none

theorem places_run : ∀ {fs : List Field} {l : List (Nat × Nat)}, placesO P fs = some l → (fs.mapM fun (f : Field) => (do pure (f.offset, ← sizeOf f.type) : Sem (Nat × Nat))).run P w = .ok l w := by
  intro fs
  induction fs with
  | nil => intro l h; simp only [placesO, Option.some.injEq] at h; subst h; rfl
  | cons f r ih =>
    intro l h
    unfold placesO at h
    split at h
    · rename_i i l' hi hl
      simp only [Option.some.injEq] at h
      subst h
      simp only [List.mapM_cons, Sem.run_bind, run_size hi, Result.andThen_ok, Sem.run_pure, ih hl]
    · cases h

/-- A struct type's places, and its zero value's cells. -/
def strI (P : Program) (t : TypeId) : Option (List (Nat × Nat) × List Value) :=
  match P.underlying t, (P.info? t).bind (·.zero) with
  | some (.struct fs), some z => (placesO P fs.toList).map fun l => (l, z.cells.toList)
  | _, _ => none

theorem build_i {t : TypeId} {parts : List (Nat × Value)} {pl : List (Nat × Nat)} {zc out : List Value} (hs : strI P t = some (pl, zc)) (hf : fillL pl zc parts = some out) (h : K (.agg out.toArray) w) :
    insW P (Instr.build t parts.toArray) w K := by
  unfold strI at hs
  split at hs
  · rename_i fs z hu hz
    rw [Option.map_eq_some_iff] at hs
    obtain ⟨l, hl, he⟩ := hs
    simp only [Prod.mk.injEq] at he
    obtain ⟨rfl, rfl⟩ := he
    rw [Option.bind_eq_some_iff] at hz
    obtain ⟨i, hi, hz⟩ := hz
    refine insW_ok ?_ h
    unfold Instr.build
    have hzr : (zeroValue t).run P w = .ok z w := by
      unfold zeroValue; simp only [Sem.run_bind, run_info hi, Result.andThen_ok, hz, Sem.run_pure]
    have hpl : (fs.mapM fun (f : Field) => (do pure (f.offset, ← sizeOf f.type) : Sem (Nat × Nat))).run P w = .ok l.toArray w := by
      rw [Array.mapM_eq_mapM_toList, map_eq_pure_bind, Sem.run_bind, places_run hl]
      rfl
    simp only [Sem.run_bind, hzr, Result.andThen_ok, run_und hu, hpl]
    have := fill_L hf
    rw [Array.toArray_toList] at this
    simp only [List.getElem?_toArray, this, Sem.run_pure]
  · cases hs
end
end Go.Proofs.Ytedebapgmfnflaa
