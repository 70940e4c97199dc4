/- append of what is made of noughts; arrays read by a place; a slice's part that is handed on. Condition of append: what stands behind takes at most 2^40 bytes. -/
import Derived.Test.YtedebapgmfnflaaH2
import Derived.Test.YtedebapgmfnflaaN0
namespace Go.Proofs.Ytedebapgmfnflaa
open Go

section
variable {P : Program} {w : World} {K : VPost}

theorem zeroC (z : Array Value) (m : Nat) (s : Nat) (hz : z.size = s) : (Builtin.zeroCells z m).toList.length = m * s := by
  rw [Array.length_toList, zeroCells_size, hz]

/-- append of what is made, within the capacity. -/
theorem run_appendZ_in {T T' ty e : TypeId} {k : IntKind} {i : TypeInfo} {z : Value} {n m cap : Nat} {base : Option Addr}
    (hu : P.underlying T = some (.slice e)) (hu' : P.underlying T' = some (.int k)) (hi : P.info? e = some i) (hz : i.zero = some z) (hzs : z.cells.size = i.size) (hm : m * i.bytes ≤ 2 ^ 40) (hm2 : m ≤ 2 ^ 40) (hc : n + m ≤ cap) :
    (Builtin.append_ #[T, T'] ty #[.slice base n cap, .int .i64 m]).run P w = ((match base with | some a => storeCells (a.add (n * i.size)) (Builtin.zeroCells z.cells m).toList | none => pure ()).run P w).andThen fun _ w' => .ok (.slice base (n + m) cap) w' := by
  have hzr : ∀ w, (zeroValue e).run P w = .ok z w := fun w => by
    unfold zeroValue; simp only [Sem.run_bind, run_info hi, Result.andThen_ok, hz, Sem.run_pure]
  have hw : IntKind.i64.wrap ((m : Nat) : Int) = m := i64_fit (by omega)
  have hneg : ¬ ((m : Nat) : Int) < 0 := by omega
  have hbig : ¬ ((m : Nat) : Int) * (i.bytes : Int) > 2 ^ 48 := by
    rw [← Int.natCast_mul]; omega
  unfold Builtin.append_
  simp only [List.getElem?_toArray, List.getElem?_cons_zero, List.getElem?_cons_succ, Sem.run_bind, run_und hu, run_und hu', Result.andThen_ok, run_size hi, run_info hi, Sem.run_pure, if_true, asInt, asIntOf, hw, hneg, hbig, if_false, Int.toNat_natCast, hc, Bool.not_true, Bool.false_eq_true]
  by_cases h0 : m * i.size = 0
  · have hzc : (Builtin.zeroCells z.cells m).toList = [] := List.length_eq_zero_iff.1 (by rw [zeroC _ _ _ hzs]; exact h0)
    simp only [h0, if_true, Sem.run_pure, Result.andThen_ok, hzc]
    cases base with
    | none => rfl
    | some a => simp only [Sem.run_bind, Sem.run_pure]
  · simp only [h0, if_false, Sem.run_bind, hzr, Result.andThen_ok, Sem.run_pure]
    cases base with
    | none => rfl
    | some a => simp only [Sem.run_bind, Sem.run_pure]

/-- .. beyond it. -/
theorem run_appendZ_out {T T' ty e : TypeId} {k : IntKind} {i : TypeInfo} {z : Value} {xs : List Value} {n m cap : Nat} {base : Option Addr}
    (hu : P.underlying T = some (.slice e)) (hu' : P.underlying T' = some (.int k)) (hi : P.info? e = some i) (hz : i.zero = some z) (hzs : z.cells.size = i.size) (hbp : 0 < i.bytes)
    (hv : RdSl w (.slice base n cap) i.size xs n) (hc : cap < n + m) (hsm : (n + m) * i.bytes + 600 * i.bytes ≤ 2 ^ 40) :
    ∃ c', n + m ≤ c' ∧ (Builtin.append_ #[T, T'] ty #[.slice base n cap, .int .i64 m]).run P w =
      .ok (.slice (some ⟨w.heap.size, 0, none⟩) (n + m) c') (w.drew.alloc (.cells (xs.toArray ++ Builtin.zeroCells z.cells m ++ Builtin.zeroCells z.cells (c' - (n + m))) e)) := by
  have hfv : (Builtin.firstCells i.size n (.slice base n cap)).run P w.drew = .ok xs.toArray w.drew := RdSl.first (w := w.drew) (hv.keep (Ext.drew [] w) (by simp))
  have hnl := next_le (n + m) cap hc
  have hb : Builtin.nextslicecap (n + m) cap * i.bytes ≤ 2 ^ 48 := by
    have h2 := Nat.mul_le_mul_right i.bytes hnl
    have h3 : (2 * (n + m) + 600) * i.bytes = 2 * ((n + m) * i.bytes) + 600 * i.bytes := by rw [Nat.add_mul, Nat.mul_assoc]
    omega
  have hmb : m * i.bytes ≤ (n + m) * i.bytes := Nat.mul_le_mul_right _ (by omega)
  have hm2 : m ≤ m * i.bytes := Nat.le_mul_of_pos_right _ hbp
  have hzr : ∀ w, (zeroValue e).run P w = .ok z w := fun w => by
    unfold zeroValue; simp only [Sem.run_bind, run_info hi, Result.andThen_ok, hz, Sem.run_pure]
  have h0 : ¬ i.bytes = 0 := by omega
  have hc' : ¬ n + m ≤ cap := by omega
  have hw : IntKind.i64.wrap ((m : Nat) : Int) = m := i64_fit (by omega)
  have hneg : ¬ ((m : Nat) : Int) < 0 := by omega
  have hbig : ¬ ((m : Nat) : Int) * (i.bytes : Int) > 2 ^ 48 := by
    rw [← Int.natCast_mul]; omega
  have hnm : n + m ≤ (n + m) * i.bytes := Nat.le_mul_of_pos_right _ hbp
  have hmax : IntKind.i64.max = 9223372036854775807 := by decide
  have hneed : ¬ (((n + m : Nat) : Int) > IntKind.i64.max) := by rw [hmax]; omega
  have hch : (choose (.appendCap (n + m) cap e)).run P w = .ok (n + m + w.tape w.drawn (.appendCap (n + m) cap e) % (2 ^ 63 - (n + m))) w.drew := rfl
  refine ⟨_, Nat.le_add_right _ (w.tape w.drawn (.appendCap (n + m) cap e) % (2 ^ 63 - (n + m))), ?_⟩
  unfold Builtin.append_
  simp only [List.getElem?_toArray, List.getElem?_cons_zero, List.getElem?_cons_succ, Sem.run_bind, run_und hu, run_und hu', Result.andThen_ok, run_size hi, run_info hi, Sem.run_pure, if_true, asInt, asIntOf, hw, hneg, hbig, if_false, Int.toNat_natCast, hc', Bool.not_true, Bool.false_eq_true, hneed, false_and]
  rw [if_neg (by omega)]
  have hap : ∀ w, ((if m * i.size = 0 then pure #[] else do pure (Builtin.zeroCells (← zeroValue e).cells m) : Sem (Array Value))).run P w = .ok (Builtin.zeroCells z.cells m) w := by
    intro w
    by_cases h : m * i.size = 0
    · have hzc : Builtin.zeroCells z.cells m = #[] := by
        apply Array.ext'
        exact List.length_eq_zero_iff.1 (by rw [zeroC _ _ _ hzs]; exact h)
      rw [if_pos h, hzc]; rfl
    · rw [if_neg h, Sem.run_bind, hzr]; rfl
  simp only [Sem.run_bind, hch, Result.andThen_ok, run_info hi, run_askRoom, hfv, hap, hzr, Sem.run_pure]
  rfl

/-- append of noughts onto a slice of the call's own. -/
theorem appendZ_i {T T' ty e : TypeId} {k : IntKind} {i : TypeInfo} {z : Value} {v : Value} {xs : List Value} {n m : Nat}
    (hu : P.underlying T = some (.slice e)) (hu' : P.underlying T' = some (.int k)) (hi : P.info? e = some i) (hz : i.zero = some z) (hzs : z.cells.size = i.size) (hbp : 0 < i.bytes)
    (hv : OwnAt w v e i.size xs n) (h1 : ∀ y ∈ z.cells.toList, y.oneCell' = true) (hsm : (n + m) * i.bytes + 600 * i.bytes ≤ 2 ^ 40)
    (h : ∀ v' w', OwnAt w' v' e i.size (xs ++ (Builtin.zeroCells z.cells m).toList) (n + m) → Ext (slB v) w w' → (slB v' = slB v ∨ ∃ b', slB v' = [b'] ∧ w.heap.size ≤ b') → K v' w') :
    insW P (Builtin.append_ #[T, T'] ty #[v, .int .i64 m]) w K := by
  have hzl := zeroC z.cells m i.size hzs
  have hone : ∀ y ∈ (Builtin.zeroCells z.cells m).toList, y.oneCell' = true := by
    intro y hy
    unfold Builtin.zeroCells at hy
    simp only [Array.toList_map, Array.toList_range, List.mem_map, List.mem_range] at hy
    obtain ⟨j, hj, rfl⟩ := hy
    have hp : 0 < z.cells.size := by
      rcases Nat.eq_zero_or_pos z.cells.size with h0 | h0
      · rw [h0] at hj; simp at hj
      · exact h0
    have hlt := Nat.mod_lt j hp
    rw [getElem!_pos z.cells (j % z.cells.size) hlt]
    exact h1 _ (by simp)
  have hmb : m * i.bytes ≤ (n + m) * i.bytes := Nat.mul_le_mul_right _ (by omega)
  have hm2 : m ≤ m * i.bytes := Nat.le_mul_of_pos_right _ hbp
  have out : ∀ base cap, v = .slice base n cap → cap < n + m → xs.length = n * i.size → insW P (Builtin.append_ #[T, T'] ty #[v, .int .i64 m]) w K := by
    intro base cap hb hc hl
    have hrd := hv.rd
    subst hb
    obtain ⟨c', hc', hr⟩ := run_appendZ_out (ty := ty) hu hu' hi hz hzs hbp hrd hc hsm
    have hown : OwnSl (w.drew.alloc (.cells (xs.toArray ++ Builtin.zeroCells z.cells m ++ Builtin.zeroCells z.cells (c' - (n + m))) e)) (.slice (some ⟨w.heap.size, 0, none⟩) (n + m) c') e i.size (xs ++ (Builtin.zeroCells z.cells m).toList) (n + m) := by
      refine .inr ⟨w.heap.size, c', (Builtin.zeroCells z.cells (c' - (n + m))).toList, rfl, ?_, ?_, ?_, hc'⟩
      · show (w.drew.alloc _).heap[w.drew.heap.size]? = _
        rw [alloc_new]
        simp
      · rw [List.length_append, hl, hzl, Nat.add_mul]
      · rw [List.length_append, List.length_append, hl, hzl, zeroC _ _ _ hzs]
        have := Nat.sub_add_cancel hc'
        generalize c' - (n + m) = q at *
        subst this
        rw [Nat.add_mul, Nat.add_mul]; omega
    exact insW_ok hr (h _ _ hown.at ((Ext.drew _ w).new (ext_alloc w.drew _)) (.inr ⟨w.heap.size, rfl, Nat.le_refl _⟩))
  rcases hv with ⟨rfl, rfl, rfl⟩ | ⟨b, o, c, cs, rfl, hb, hl, ht, hc, hn⟩
  · by_cases hm : m = 0
    · subst hm
      have hr := run_appendZ_in (w := w) (ty := ty) (base := none) (n := 0) (m := 0) (cap := 0) hu hu' hi hz hzs (by simp) (by simp) (Nat.le_refl _)
      have hy : (Builtin.zeroCells z.cells 0).toList = [] := List.length_eq_zero_iff.1 (by rw [hzl]; simp)
      exact insW_ok hr (h _ _ (.inl ⟨rfl, rfl, by rw [hy]; rfl⟩) (Ext.refl _ _) (.inl rfl))
    · exact out none 0 rfl (by omega) (by simp)
  · by_cases hcap : n + m ≤ c
    · have hr := run_appendZ_in (w := w) (ty := ty) (base := some ⟨b, o, none⟩) hu hu' hi hz hzs (by omega) (by omega) hcap
      have hlen : o + n * i.size + (Builtin.zeroCells z.cells m).toList.length ≤ cs.length := by
        have := Nat.mul_le_mul_right i.size hcap
        rw [Nat.add_mul] at this
        rw [hzl]; omega
      have hst := run_storeCells_at P b (o + n * i.size) e (Builtin.zeroCells z.cells m).toList 0 cs.toArray w hb (by simpa using hlen) hone
      simp only [add_addr] at hr
      simp only [hst, Result.andThen_ok, setRow_setB hb, Nat.add_zero] at hr
      refine insW_ok hr (h _ _ (.inr ⟨b, o, c, lspl cs (o + n * i.size) (Builtin.zeroCells z.cells m).toList, rfl, ?_, ?_, ?_, ?_, hcap⟩) (ext_setB w b _) (.inl rfl))
      · unfold Blk
        show (w.heap.setIfInBounds b _)[b]? = _
        rw [Array.getElem?_setIfInBounds]
        have : b < w.heap.size := hb.lt
        simp only [if_true, this]
        rfl
      · rw [List.length_append, hl, hzl, Nat.add_mul]
      · rw [Nat.add_mul, ← hzl, ← hl] at *
        unfold lspl
        rw [List.append_assoc, List.drop_append_of_le_length (by rw [List.length_take]; omega), List.drop_take, show o + xs.length - o = xs.length by omega, ht, ← List.append_assoc, ← List.length_append, List.take_left]
      · rw [lspl_length hlen]; exact hc
    · exact out _ c rfl (by omega) hl

/-- An array's value, read by a place. -/
theorem ixv1 {n k : Nat} {kk : IntKind} {cs : Array Value} {v : Value} (hk : k < n) (hv : cs[k]? = some v) (h : K v w) : ixvW (.arr n false 1) (.agg cs) (.int kk k) w K := by
  refine ⟨by omega, by omega, v, ?_, h⟩
  simpa using hv
end

section
variable {P : Program} {S : List Nat} {w0 w : World} {L R : List Res} {K : VPost}
theorem Sep.appendZ {T T' ty e : TypeId} {k : IntKind} {ti : TypeInfo} {z : Value} {v : Value} {xs : List Value} {n m : Nat} (s : Sep S w0 w L R) (i : Nat) (hL : L[i]? = some (rO v e ti.size xs n))
    (hu : P.underlying T = some (.slice e)) (hu' : P.underlying T' = some (.int k)) (hi : P.info? e = some ti) (hz : ti.zero = some z) (hzs : z.cells.size = ti.size) (hbp : 0 < ti.bytes)
    (h1 : ∀ y ∈ z.cells.toList, y.oneCell' = true) (hsm : (n + m) * ti.bytes + 600 * ti.bytes ≤ 2 ^ 40)
    (h : ∀ v' w', Sep S w0 w' (L.set i (rO v' e ti.size (xs ++ (Builtin.zeroCells z.cells m).toList) (n + m))) R → K v' w') :
    insW P (Builtin.append_ #[T, T'] ty #[v, .int .i64 m]) w K :=
  appendZ_i hu hu' hi hz hzs hbp (s.at i hL) h1 hsm fun v' w' hv e hb => h v' w' (s.upd i hL (T' := rO v' _ ti.size (xs ++ (Builtin.zeroCells z.cells m).toList) (n + m)) hv e (by
    intro b hb'
    show b ∈ slB v ∨ _
    rcases hb with h2 | ⟨b', h2, h3⟩
    · exact .inl (h2 ▸ hb')
    · have hb' : b ∈ slB v' := hb'
      rw [h2] at hb'; simp at hb'; subst hb'; exact .inr h3))
/-- A literal slice. -/
theorem Sep.lit {t e : TypeId} {ti : TypeInfo} {z : Value} {vs : List Value} {parts : List (Nat × Value)} (s : Sep S w0 w L R) (hu : P.underlying t = some (.slice e)) (hi : P.info? e = some ti) (hz : ti.zero = some z)
    (hp : parts = enumV 0 vs) (hv : ∀ v ∈ vs, v.cells.size = ti.size) (hsm : vs.length * ti.size ≤ 2 ^ 24) (h : ∀ v' w', Sep S w0 w' (rO v' e ti.size (flatV vs) vs.length :: L) R → slB v' = [w.heap.size] → Ext [] w w' → K v' w') :
    insW P (Instr.buildSlice t vs.length parts.toArray) w K :=
  buildSlice_i hu hi hz hp hv hsm fun b w' hb e hk _ => h _ w' (s.add (T := rO (.slice (some ⟨b, 0, none⟩) vs.length vs.length) _ ti.size (flatV vs) vs.length)
    (.inr ⟨b, 0, vs.length, _, rfl, hk, flatV_length hv, by rw [List.drop_zero, List.take_of_length_le (by rw [flatV_length hv]; exact Nat.le_refl _)], by rw [flatV_length hv]; omega, Nat.le_refl _⟩) e (by
      intro x hx; simp [rO, slB] at hx; omega)) (by simp [slB]; omega) e
end
end Go.Proofs.Ytedebapgmfnflaa
