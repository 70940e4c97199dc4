/- Slices of the call's own, that grow by append; slices that are read; copy. Condition of append: what stands behind takes at most 2^40 bytes. -/
import Derived.Test.YtedebapgmfnflaaG9
namespace Go.Proofs.Ytedebapgmfnflaa
open Go

/-- A slice that is nil, or has a block of its own. -/
def OwnSl (w : World) (v : Value) (e : TypeId) (s : Nat) (xs : List Value) (n : Nat) : Prop :=
  (v = .slice none 0 0 ∧ n = 0 ∧ xs = []) ∨ ∃ b c rest, v = .slice (some ⟨b, 0, none⟩) n c ∧ Blk w b (xs ++ rest) e ∧ xs.length = n * s ∧ (xs ++ rest).length = c * s ∧ n ≤ c

/-- A slice that may be read. -/
def RdSl (w : World) (v : Value) (s : Nat) (ys : List Value) (m : Nat) : Prop :=
  ys.length = m * s ∧ ((ys = [] ∧ ∃ a c, v = .slice a m c) ∨ ∃ b o c cs, v = .slice (some ⟨b, o, none⟩) m c ∧ RBlk w b cs ∧ (cs.drop o).take (m * s) = ys ∧ o + m * s ≤ cs.length)

def slB : Value → List Nat
  | .slice (some a) _ _ => [a.block]
  | _ => []

theorem OwnSl.rd {w : World} {v : Value} {e : TypeId} {s : Nat} {xs : List Value} {n : Nat} (h : OwnSl w v e s xs n) : RdSl w v s xs n := by
  rcases h with ⟨rfl, rfl, rfl⟩ | ⟨b, c, rest, rfl, hb, hl, hc, hn⟩
  · exact ⟨by simp, .inl ⟨rfl, _, _, rfl⟩⟩
  · refine ⟨hl, .inr ⟨b, 0, c, _, rfl, hb.r, ?_, ?_⟩⟩
    · rw [List.drop_zero, ← hl, List.take_left]
    · simp only [List.length_append]; omega

theorem OwnSl.keep {w w' : World} {v : Value} {e : TypeId} {s : Nat} {xs : List Value} {n : Nat} {S : List Nat} (h : OwnSl w v e s xs n) (k : Ext S w w') (hd : ∀ b ∈ slB v, b ∉ S) : OwnSl w' v e s xs n := by
  rcases h with ⟨rfl, rfl, rfl⟩ | ⟨b, c, rest, rfl, hb, hl, hc, hn⟩
  · exact .inl ⟨rfl, rfl, rfl⟩
  · exact .inr ⟨b, c, rest, rfl, hb.keep k (hd b (by simp [slB])), hl, hc, hn⟩

theorem RdSl.keep {w w' : World} {v : Value} {s : Nat} {ys : List Value} {m : Nat} {S : List Nat} (h : RdSl w v s ys m) (k : Ext S w w') (hd : ∀ b ∈ slB v, b ∉ S) : RdSl w' v s ys m := by
  obtain ⟨hl, h⟩ := h
  refine ⟨hl, ?_⟩
  rcases h with h | ⟨b, o, c, cs, rfl, hb, h1, h2⟩
  · exact .inl h
  · exact .inr ⟨b, o, c, cs, rfl, hb.keep k (hd b (by simp [slB])), h1, h2⟩

theorem OwnSl.lt {w : World} {v : Value} {e : TypeId} {s : Nat} {xs : List Value} {n : Nat} (h : OwnSl w v e s xs n) : ∀ b ∈ slB v, b < w.heap.size := by
  intro x hx
  rcases h with ⟨rfl, _, _⟩ | ⟨b, c, rest, rfl, hb, _⟩
  · simp [slB] at hx
  · simp [slB] at hx; subst hx; exact hb.lt

theorem RdSl.len {w : World} {v : Value} {s : Nat} {ys : List Value} {m : Nat} (h : RdSl w v s ys m) : ∃ a c, v = .slice a m c := by
  rcases h.2 with ⟨_, a, c, rfl⟩ | ⟨b, o, c, cs, rfl, _⟩ <;> exact ⟨_, _, rfl⟩

section
variable {P : Program} {w : World} {K : VPost}

theorem run_loads {b o n : Nat} {cs : List Value} {t : TypeId} {fz : Nat × Nat} (hb : w.heap[b]? = some (.cells cs.toArray t fz)) (hn : o + n ≤ cs.length) :
    (loadCells ⟨b, o, none⟩ n).run P w = .ok ((cs.drop o).take n).toArray w := by
  have hl := run_loadCells_list (P := P) w ⟨b, o, none⟩ ((cs.drop o).take n) (fun j v hv => by
    rw [add_addr, cell_blk hb]
    rw [List.getElem?_take] at hv
    split at hv
    · simpa using hv
    · cases hv)
  have : ((cs.drop o).take n).length = n := by simp; omega
  rwa [this] at hl

theorem RdSl.first {v : Value} {s : Nat} {ys : List Value} {m : Nat} (h : RdSl w v s ys m) : (Builtin.firstCells s m v).run P w = .ok ys.toArray w := by
  obtain ⟨hl, ⟨rfl, a, c, rfl⟩ | ⟨b, o, c, cs, rfl, hb, h1, h2⟩⟩ := h
  · have h0 : m * s = 0 := by simpa using hl.symm
    cases a with
    | none => rfl
    | some a =>
      show (loadCells a (m * s)).run P w = _
      rw [h0]; rfl
  · obtain ⟨t, fz, hb⟩ := hb
    show (loadCells ⟨b, o, none⟩ (m * s)).run P w = _
    rw [run_loads hb h2, h1]

theorem next_le (need cap : Nat) (h : cap < need) : Builtin.nextslicecap need cap ≤ 2 * need + 600 := by
  have grow : ∀ (r c : Nat), c ≤ 2 * need + 600 → Builtin.growBy need r c ≤ 2 * need + 600 := by
    intro r
    induction r with
    | zero => intro c hc; exact hc
    | succ r ih =>
      intro c hc
      unfold Builtin.growBy
      split
      · exact hc
      · exact ih _ (by omega)
  unfold Builtin.nextslicecap
  split
  · omega
  · split
    · omega
    · exact grow 4 cap (by omega)

theorem zeroCells_size (z : Array Value) (n : Nat) : (Builtin.zeroCells z n).size = n * z.size := by simp [Builtin.zeroCells]

theorem run_askRoom (m : Nat) (w : World) : (askRoom m).run P w = .ok () w := by
  unfold askRoom; split <;> rfl

/-- append, within the capacity. -/
theorem run_append_in {T T' ty e e' : TypeId} {i : TypeInfo} {x : Value} {ys : List Value} {n m cap : Nat} {base : Option Addr}
    (hu : P.underlying T = some (.slice e)) (hu' : P.underlying T' = some (.slice e')) (hi : P.info? e = some i) (hx : RdSl w x i.size ys m) (hc : n + m ≤ cap) :
    (Builtin.append_ #[T, T'] ty #[.slice base n cap, x]).run P w = ((match base with | some a => storeCells (a.add (n * i.size)) ys | none => pure ()).run P w).andThen fun _ w' => .ok (.slice base (n + m) cap) w' := by
  have hlx : (Builtin.lenOf x).run P w = .ok m w := by obtain ⟨a, c, rfl⟩ := hx.len; rfl
  have hfx := hx.first (P := P)
  unfold Builtin.append_
  simp only [List.getElem?_toArray, List.getElem?_cons_zero, List.getElem?_cons_succ, Sem.run_bind, run_und hu, run_und hu', Result.andThen_ok, run_size hi, Sem.run_pure, Bool.false_eq_true, if_false, Bool.not_false, if_true, hlx, hc, hfx]
  cases base with
  | none => rfl
  | some a => simp only [Sem.run_bind, Sem.run_pure]

/-- append, beyond it. -/
theorem run_append_out {T T' ty e e' : TypeId} {i : TypeInfo} {z x : Value} {xs ys : List Value} {n m cap : Nat} {base : Option Addr}
    (hu : P.underlying T = some (.slice e)) (hu' : P.underlying T' = some (.slice e')) (hi : P.info? e = some i) (hz : i.zero = some z) (hbp : 0 < i.bytes)
    (hv : RdSl w (.slice base n cap) i.size xs n) (hx : RdSl w x i.size ys m) (hc : cap < n + m) (hsm : (n + m) * i.bytes + 600 * i.bytes ≤ 2 ^ 40) :
    ∃ c', n + m ≤ c' ∧ (Builtin.append_ #[T, T'] ty #[.slice base n cap, x]).run P w =
      .ok (.slice (some ⟨w.heap.size, 0, none⟩) (n + m) c') (w.drew.alloc (.cells (xs.toArray ++ ys.toArray ++ Builtin.zeroCells z.cells (c' - (n + m))) e)) := by
  have hlx : (Builtin.lenOf x).run P w = .ok m w := by obtain ⟨a, c, rfl⟩ := hx.len; rfl
  have hfx : (Builtin.firstCells i.size m x).run P w.drew = .ok ys.toArray w.drew := RdSl.first (w := w.drew) (hx.keep (Ext.drew [] w) (by simp))
  have hfv : (Builtin.firstCells i.size n (.slice base n cap)).run P w.drew = .ok xs.toArray w.drew := RdSl.first (w := w.drew) (hv.keep (Ext.drew [] w) (by simp))
  have hnl := next_le (n + m) cap hc
  have hb : Builtin.nextslicecap (n + m) cap * i.bytes ≤ 2 ^ 48 := by
    have h2 := Nat.mul_le_mul_right i.bytes hnl
    have h3 : (2 * (n + m) + 600) * i.bytes = 2 * ((n + m) * i.bytes) + 600 * i.bytes := by rw [Nat.add_mul, Nat.mul_assoc]
    omega
  have hzr : ∀ w, (zeroValue e).run P w = .ok z w := fun w => by
    unfold zeroValue; simp only [Sem.run_bind, run_info hi, Result.andThen_ok, hz, Sem.run_pure]
  have h0 : ¬ i.bytes = 0 := by omega
  have hc' : ¬ n + m ≤ cap := by omega
  have hch : (choose (.appendCap (n + m) cap e)).run P w = .ok (n + m + w.tape w.drawn (.appendCap (n + m) cap e) % (2 ^ 63 - (n + m))) w.drew := rfl
  refine ⟨_, Nat.le_add_right _ (w.tape w.drawn (.appendCap (n + m) cap e) % (2 ^ 63 - (n + m))), ?_⟩
  unfold Builtin.append_
  simp only [List.getElem?_toArray, List.getElem?_cons_zero, List.getElem?_cons_succ, Sem.run_bind, run_und hu, run_und hu', Result.andThen_ok, run_size hi, Sem.run_pure, Bool.false_eq_true, if_false, Bool.not_false, if_true, hlx, hc', run_info hi, h0, or_self, and_false]
  rw [if_neg (by omega)]
  simp only [Sem.run_bind, hch, Result.andThen_ok, run_info hi, run_askRoom, hfv, hfx, hzr, Sem.run_pure]
  rfl

/-- append onto a slice of the call's own. -/
theorem append_i {T T' ty e e' : TypeId} {i : TypeInfo} {z : Value} {v x : Value} {xs ys : List Value} {n m : Nat}
    (hu : P.underlying T = some (.slice e)) (hu' : P.underlying T' = some (.slice e')) (hi : P.info? e = some i) (hz : i.zero = some z) (hzs : z.cells.size = i.size) (hbp : 0 < i.bytes)
    (hv : OwnSl w v e i.size xs n) (hx : RdSl w x i.size ys m) (h1 : ∀ y ∈ ys, y.oneCell' = true) (hsm : (n + m) * i.bytes + 600 * i.bytes ≤ 2 ^ 40)
    (h : ∀ v' w', OwnSl w' v' e i.size (xs ++ ys) (n + m) → Ext (slB v) w w' → (slB v' = slB v ∨ ∃ b', slB v' = [b'] ∧ w.heap.size ≤ b') → K v' w') :
    insW P (Builtin.append_ #[T, T'] ty #[v, x]) w K := by
  have out : ∀ base cap, v = .slice base n cap → cap < n + m → xs.length = n * i.size → insW P (Builtin.append_ #[T, T'] ty #[v, x]) w K := by
    intro base cap hb hc hl
    have hrd := hv.rd
    subst hb
    obtain ⟨c', hc', hr⟩ := run_append_out (ty := ty) hu hu' hi hz hbp hrd hx hc hsm
    refine insW_ok hr (h _ _ (.inr ⟨w.heap.size, c', (Builtin.zeroCells z.cells (c' - (n + m))).toList, rfl, ?_, ?_, ?_, hc'⟩) ?_ (.inr ⟨w.heap.size, rfl, Nat.le_refl _⟩))
    · show (w.drew.alloc _).heap[w.drew.heap.size]? = _
      rw [alloc_new]
      simp
    · rw [List.length_append, hl, hx.1, Nat.add_mul]
    · simp only [List.length_append, Array.length_toList, zeroCells_size, hzs, hl, hx.1]
      have := Nat.sub_add_cancel hc'
      generalize c' - (n + m) = q at *
      subst this
      rw [Nat.add_mul, Nat.add_mul]; omega
    · exact (Ext.drew _ w).new (ext_alloc w.drew _)
  rcases hv with ⟨rfl, rfl, rfl⟩ | ⟨b, c, rest, rfl, hb, hl, hc, hn⟩
  · by_cases hm : m = 0
    · subst hm
      have hy : ys = [] := by have := hx.1; simpa using this
      subst hy
      have hr := run_append_in (ty := ty) (base := none) (n := 0) (cap := 0) hu hu' hi hx (Nat.le_refl _)
      exact insW_ok hr (h _ _ (.inl ⟨rfl, rfl, rfl⟩) (Ext.refl _ _) (.inl rfl))
    · exact out none 0 rfl (by omega) (by simp)
  · by_cases hcap : n + m ≤ c
    · have hr := run_append_in (ty := ty) (base := some ⟨b, 0, none⟩) hu hu' hi hx hcap
      have hlen : n * i.size + ys.length ≤ (xs ++ rest).length := by
        rw [hc, hx.1, ← Nat.add_mul]; exact Nat.mul_le_mul_right _ hcap
      have hst := run_storeCells_at P b (n * i.size) e ys 0 (xs ++ rest).toArray w hb (by simpa using hlen) h1
      simp only [add_addr, Nat.zero_add] at hr
      simp only [hst, Result.andThen_ok, setRow_setB hb] at hr
      have hsp : ((xs ++ rest).toArray.toList.take (n * i.size + 0) ++ ys ++ (xs ++ rest).toArray.toList.drop (n * i.size + 0 + ys.length)) = (xs ++ ys) ++ rest.drop ys.length := by
        simp only [Nat.add_zero, ← hl]
        rw [List.take_left, List.drop_append, List.drop_of_length_le (by omega)]
        simp
      rw [hsp] at hr
      refine insW_ok hr (h _ _ (.inr ⟨b, c, rest.drop ys.length, rfl, ?_, ?_, ?_, hcap⟩) (ext_setB w b _) (.inl rfl))
      · unfold Blk
        show (w.heap.setIfInBounds b _)[b]? = _
        rw [Array.getElem?_setIfInBounds]
        have : b < w.heap.size := hb.lt
        simp only [if_true, this]
      · rw [List.length_append, hl, hx.1, Nat.add_mul]
      · simp only [List.length_append, List.length_drop] at hc hlen ⊢
        omega
    · exact out _ c rfl (by omega) hl

/-- copy out of what may be read into a block of the call's own. -/
theorem copy_i {T T' ty e : TypeId} {i : TypeInfo} {x : Value} {ys cs : List Value} {n m c b o : Nat} {te : TypeId}
    (hu : P.underlying T = some (.slice e)) (hi : P.info? e = some i) (hb : Blk w b cs te) (hx : RdSl w x i.size ys m) (h1 : ∀ y ∈ ys, y.oneCell' = true) (hle : o + n * i.size ≤ cs.length)
    (h : ∀ w', Ext [b] w w' → Blk w' b (lspl cs o (ys.take (min m n * i.size))) te → w'.heap.size = w.heap.size → K (.int .i64 (min m n : Nat)) w') :
    insW P (Builtin.copy_ #[T, T'] ty #[.slice (some ⟨b, o, none⟩) n c, x]) w K := by
  have hlx : (Builtin.lenOf x).run P w = .ok m w := by obtain ⟨a, c, rfl⟩ := hx.len; rfl
  have hmn : min m n * i.size ≤ m * i.size := Nat.mul_le_mul_right _ (Nat.min_le_left _ _)
  have hmn2 : min m n * i.size ≤ n * i.size := Nat.mul_le_mul_right _ (Nat.min_le_right _ _)
  have hfx : (Builtin.firstCells i.size (min m n) x).run P w = .ok (ys.take (min m n * i.size)).toArray w := by
    obtain ⟨hl, ⟨rfl, a, c, rfl⟩ | ⟨b, o, c, cs, rfl, hb, h1, h2⟩⟩ := hx
    · have h0 : m * i.size = 0 := by simpa using hl.symm
      have h0' : min m n * i.size = 0 := by omega
      cases a with
      | none => simp; rfl
      | some a =>
        show (loadCells a (min m n * i.size)).run P w = _
        rw [h0']; rfl
    · obtain ⟨t, fz, hb⟩ := hb
      show (loadCells ⟨b, o, none⟩ (min m n * i.size)).run P w = _
      rw [run_loads hb (by omega), ← h1, List.take_take, Nat.min_eq_left hmn]
  have hyl : (ys.take (min m n * i.size)).length = min m n * i.size := by rw [List.length_take, hx.1]; omega
  have hst := run_storeCells_at P b o te (ys.take (min m n * i.size)) 0 cs.toArray w hb (by rw [hyl]; simp; omega) (fun y hy => h1 y (List.mem_of_mem_take hy))
  rw [Nat.add_zero, setRow_setB hb] at hst
  refine insW_ok (v := .int .i64 (min m n : Nat)) (w' := setB w b (.cells (lspl cs o (ys.take (min m n * i.size))).toArray te)) ?_ (h _ (ext_setB w b _) ?_ (by simp [setB]))
  · unfold Builtin.copy_
    simp only [List.getElem?_toArray, List.getElem?_cons_zero, List.getElem?_cons_succ, Sem.run_bind, run_und hu, Result.andThen_ok, hlx, run_size hi]
    have hmin : Nat.min m n = min m n := rfl
    rw [hmin]
    simp only [hfx, Result.andThen_ok, Sem.run_bind, hst, Sem.run_pure]
    rfl
  · unfold Blk
    show (w.heap.setIfInBounds b _)[b]? = _
    rw [Array.getElem?_setIfInBounds]
    have : b < w.heap.size := hb.lt
    simp only [if_true, this]
end
end Go.Proofs.Ytedebapgmfnflaa
