/- Slices of one's own that begin anywhere in their block; slices cut. -/
import Derived.Test.YtedebapgmfnflaaH1
namespace Go.Proofs.Ytedebapgmfnflaa
open Go

/-- A slice that is nil, or has a block of its own, from a place on. -/
def OwnAt (w : World) (v : Value) (e : TypeId) (s : Nat) (xs : List Value) (n : Nat) : Prop :=
  (v = .slice none 0 0 ∧ n = 0 ∧ xs = []) ∨ ∃ b o c cs, v = .slice (some ⟨b, o, none⟩) n c ∧ Blk w b cs e ∧ xs.length = n * s ∧ (cs.drop o).take (n * s) = xs ∧ o + c * s ≤ cs.length ∧ n ≤ c

theorem OwnSl.at {w : World} {v : Value} {e : TypeId} {s : Nat} {xs : List Value} {n : Nat} (h : OwnSl w v e s xs n) : OwnAt w v e s xs n := by
  rcases h with h | ⟨b, c, rest, rfl, hb, hl, hc, hn⟩
  · exact .inl h
  · exact .inr ⟨b, 0, c, _, rfl, hb, hl, by rw [List.drop_zero, ← hl, List.take_left], by omega, hn⟩
theorem OwnAt.rd {w : World} {v : Value} {e : TypeId} {s : Nat} {xs : List Value} {n : Nat} (h : OwnAt w v e s xs n) : RdSl w v s xs n := by
  rcases h with ⟨rfl, rfl, rfl⟩ | ⟨b, o, c, cs, rfl, hb, hl, ht, hc, hn⟩
  · exact ⟨by simp, .inl ⟨rfl, _, _, rfl⟩⟩
  · exact ⟨hl, .inr ⟨b, o, c, _, rfl, hb.r, ht, by have := Nat.mul_le_mul_right s hn; omega⟩⟩
theorem OwnAt.keep {w w' : World} {v : Value} {e : TypeId} {s : Nat} {xs : List Value} {n : Nat} {S : List Nat} (h : OwnAt w v e s xs n) (k : Ext S w w') (hd : ∀ b ∈ slB v, b ∉ S) : OwnAt w' v e s xs n := by
  rcases h with h | ⟨b, o, c, cs, rfl, hb, h⟩
  · exact .inl h
  · exact .inr ⟨b, o, c, cs, rfl, hb.keep k (hd b (by simp [slB])), h⟩
theorem OwnAt.lt {w : World} {v : Value} {e : TypeId} {s : Nat} {xs : List Value} {n : Nat} (h : OwnAt w v e s xs n) : ∀ b ∈ slB v, b < w.heap.size := by
  intro x hx
  rcases h with ⟨rfl, _, _⟩ | ⟨b, o, c, cs, rfl, hb, _⟩
  · simp [slB] at hx
  · simp [slB] at hx; subst hx; exact hb.lt
def rO (v : Value) (e : TypeId) (s : Nat) (xs : List Value) (n : Nat) : Res :=
  ⟨slB v, fun w => OwnAt w v e s xs n, fun h => h.lt, fun h e hd => h.keep e hd⟩

/-- A slice's capacity is not below its length. -/
def capOk : Value → Prop
  | .slice none n _ => n = 0
  | .slice (some _) n c => n ≤ c
  | _ => False
theorem OwnAt.cap {w : World} {v : Value} {e : TypeId} {s : Nat} {xs : List Value} {n : Nat} (h : OwnAt w v e s xs n) : capOk v := by
  rcases h with ⟨rfl, _, _⟩ | ⟨b, o, c, cs, rfl, hb, hl, ht, hc, hn⟩
  · rfl
  · exact hn
theorem OwnSl.cap {w : World} {v : Value} {e : TypeId} {s : Nat} {xs : List Value} {n : Nat} (h : OwnSl w v e s xs n) : capOk v := h.at.cap

section
variable {P : Program} {w : World} {K : VPost}

/-- append onto a slice of the call's own, that begins anywhere. -/
theorem appendO_i {T T' ty e e' : TypeId} {i : TypeInfo} {z : Value} {v x : Value} {xs ys : List Value} {n m : Nat}
    (hu : P.underlying T = some (.slice e)) (hu' : P.underlying T' = some (.slice e')) (hi : P.info? e = some i) (hz : i.zero = some z) (hzs : z.cells.size = i.size) (hbp : 0 < i.bytes)
    (hv : OwnAt w v e i.size xs n) (hx : RdSl w x i.size ys m) (h1 : ∀ y ∈ ys, y.oneCell' = true) (hsm : (n + m) * i.bytes + 600 * i.bytes ≤ 2 ^ 40)
    (h : ∀ v' w', OwnAt w' v' e i.size (xs ++ ys) (n + m) → Ext (slB v) w w' → (slB v' = slB v ∨ ∃ b', slB v' = [b'] ∧ w.heap.size ≤ b') → K v' w') :
    insW P (Builtin.append_ #[T, T'] ty #[v, x]) w K := by
  have out : ∀ base cap, v = .slice base n cap → cap < n + m → xs.length = n * i.size → insW P (Builtin.append_ #[T, T'] ty #[v, x]) w K := by
    intro base cap hb hc hl
    have hrd := hv.rd
    subst hb
    obtain ⟨c', hc', hr⟩ := run_append_out (ty := ty) hu hu' hi hz hbp hrd hx hc hsm
    have hown : OwnSl (w.drew.alloc (.cells (xs.toArray ++ ys.toArray ++ Builtin.zeroCells z.cells (c' - (n + m))) e)) (.slice (some ⟨w.heap.size, 0, none⟩) (n + m) c') e i.size (xs ++ ys) (n + m) := by
      refine .inr ⟨w.heap.size, c', (Builtin.zeroCells z.cells (c' - (n + m))).toList, rfl, ?_, ?_, ?_, hc'⟩
      · show (w.drew.alloc _).heap[w.drew.heap.size]? = _
        rw [alloc_new]
        simp
      · rw [List.length_append, hl, hx.1, Nat.add_mul]
      · simp only [List.length_append, Array.length_toList, zeroCells_size, hzs, hl, hx.1]
        have := Nat.sub_add_cancel hc'
        generalize c' - (n + m) = q at *
        subst this
        rw [Nat.add_mul, Nat.add_mul]; omega
    exact insW_ok hr (h _ _ hown.at ((Ext.drew _ w).new (ext_alloc w.drew _)) (.inr ⟨w.heap.size, rfl, Nat.le_refl _⟩))
  rcases hv with ⟨rfl, rfl, rfl⟩ | ⟨b, o, c, cs, rfl, hb, hl, ht, hc, hn⟩
  · by_cases hm : m = 0
    · subst hm
      have hy : ys = [] := by have := hx.1; simpa using this
      subst hy
      have hr := run_append_in (ty := ty) (base := none) (n := 0) (cap := 0) hu hu' hi hx (Nat.le_refl _)
      exact insW_ok hr (h _ _ (.inl ⟨rfl, rfl, rfl⟩) (Ext.refl _ _) (.inl rfl))
    · exact out none 0 rfl (by omega) (by simp)
  · by_cases hcap : n + m ≤ c
    · have hr := run_append_in (ty := ty) (base := some ⟨b, o, none⟩) hu hu' hi hx hcap
      have hlen : o + n * i.size + ys.length ≤ cs.length := by
        have := Nat.mul_le_mul_right i.size hcap
        rw [Nat.add_mul] at this
        rw [hx.1]; omega
      have hst := run_storeCells_at P b (o + n * i.size) e ys 0 cs.toArray w hb (by simpa using hlen) h1
      simp only [add_addr] at hr
      simp only [hst, Result.andThen_ok, setRow_setB hb, Nat.add_zero] at hr
      refine insW_ok hr (h _ _ (.inr ⟨b, o, c, lspl cs (o + n * i.size) ys, rfl, ?_, ?_, ?_, ?_, hcap⟩) (ext_setB w b _) (.inl rfl))
      · unfold Blk
        show (w.heap.setIfInBounds b _)[b]? = _
        rw [Array.getElem?_setIfInBounds]
        have : b < w.heap.size := hb.lt
        simp only [if_true, this]
        rfl
      · rw [List.length_append, hl, hx.1, Nat.add_mul]
      · rw [Nat.add_mul, ← hx.1, ← hl] at *
        unfold lspl
        rw [List.append_assoc, List.drop_append_of_le_length (by rw [List.length_take]; omega), List.drop_take, show o + xs.length - o = xs.length by omega, ht, ← List.append_assoc, ← List.length_append, List.take_left]
      · rw [lspl_length hlen]; exact hc
    · exact out _ c rfl (by omega) hl

theorem cut_ok {len cap l h : Nat} {lo hi : Option Value} {F : Nat → Nat → Nat → Prop} (hlo : bndIs lo 0 l) (hhi : bndIs hi len h) (hlh : l ≤ h) (hhm : h ≤ cap) (hF : F l h cap) : cutW len cap lo hi none F :=
  ⟨by simp, l, h, cap, rfl, hhi, hlo, hlh, fun _ => hhm, Nat.le_refl _, hF⟩

theorem take_drop_part (cs : List Value) (o l k m : Nat) (h : l + k ≤ m) : ((cs.drop (o + l)).take k) = (((cs.drop o).take m).drop l).take k := by
  rw [List.drop_take, List.take_take, List.drop_drop, Nat.min_eq_left (by omega)]

/-- A part of a slice. -/
theorem RdSl.cut {v : Value} {s : Nat} {ys : List Value} {m l h : Nat} {lo hi : Option Value} (hr : RdSl w v s ys m) (hcap : capOk v) (hlo : bndIs lo 0 l) (hhi : bndIs hi m h) (hlh : l ≤ h) (hhm : h ≤ m)
    (hK : ∀ v', RdSl w v' s ((ys.drop (l * s)).take ((h - l) * s)) (h - l) → capOk v' → slB v' = slB v → (∀ b ∈ rdB v' ((ys.drop (l * s)).take ((h - l) * s)), b ∈ rdB v ys) → K v' w) : sliceW (.sl s) v lo hi none w K := by
  have hml : h * s ≤ m * s := Nat.mul_le_mul_right _ hhm
  have hls : l * s ≤ h * s := Nat.mul_le_mul_right _ hlh
  have hsub : (h - l) * s = h * s - l * s := Nat.sub_mul _ _ _
  have hfoot : ∀ v', slB v' = slB v → ∀ b ∈ rdB v' ((ys.drop (l * s)).take ((h - l) * s)), b ∈ rdB v ys := by
    intro v' e b hb
    cases ys with
    | nil => simp [rdB] at hb
    | cons y ys =>
      unfold rdB at hb
      split at hb
      · cases hb
      · rw [e] at hb; exact hb
  obtain ⟨hl, ⟨rfl, a, c, rfl⟩ | ⟨b, o, c, cs, rfl, hb, h1, h2⟩⟩ := hr
  · have hz : m * s = 0 := by simpa using hl.symm
    have hcc : m ≤ c ∨ (a = none ∧ m = 0) := by
      cases a with
      | none => exact .inr ⟨rfl, hcap⟩
      | some a => exact .inl hcap
    have hm : h ≤ c ∨ h ≤ 0 := by rcases hcc with h1 | ⟨_, h1⟩ <;> omega
    refine cut_ok hlo hhi hlh (by omega) ?_
    refine hK _ ⟨by simp; omega, .inl ⟨by simp, _, _, rfl⟩⟩ ?_ ?_ (hfoot _ ?_)
    · cases a with
      | none => split <;> (simp [capOk]; have : m = 0 := hcap; omega)
      | some a => have : m ≤ c := hcap; split <;> (simp [capOk]; omega)
    all_goals
      cases a with
      | none => split <;> rfl
      | some a => split <;> first | rfl | (simp only [Option.map_some, slB, Addr.add]; split <;> rfl)
  · have hmc : m ≤ c := hcap
    refine cut_ok hlo hhi hlh (by omega) ?_
    by_cases hcl : c = l
    · have h0 : h - l = 0 := by omega
      rw [if_pos hcl]
      refine hK _ ⟨by rw [h0]; simp, .inl ⟨by rw [h0]; simp, _, _, rfl⟩⟩ (by simp [capOk]; omega) rfl (hfoot _ rfl)
    · rw [if_neg hcl]
      simp only [Option.map_some, add_addr]
      refine hK _ ⟨?_, .inr ⟨b, o + l * s, c - l, cs, rfl, hb, ?_, by omega⟩⟩ (by simp [capOk]; omega) rfl (hfoot _ rfl)
      · rw [List.length_take, List.length_drop, hl]; omega
      · rw [← h1]; exact take_drop_part cs o (l * s) ((h - l) * s) (m * s) (by omega)

/-- What is left of a slice of one's own. -/
theorem OwnAt.cutO {v : Value} {e : TypeId} {s : Nat} {xs : List Value} {n l h : Nat} {lo hi : Option Value} (hr : OwnAt w v e s xs n) (hlo : bndIs lo 0 l) (hhi : bndIs hi n h) (hlh : l ≤ h) (hhm : h ≤ n)
    (hK : ∀ v', OwnAt w v' e s ((xs.drop (l * s)).take ((h - l) * s)) (h - l) → slB v' = slB v → K v' w) : sliceW (.sl s) v lo hi none w K := by
  have hml : h * s ≤ n * s := Nat.mul_le_mul_right _ hhm
  have hls : l * s ≤ h * s := Nat.mul_le_mul_right _ hlh
  have hsub : (h - l) * s = h * s - l * s := Nat.sub_mul _ _ _
  rcases hr with ⟨rfl, rfl, rfl⟩ | ⟨b, o, c, cs, rfl, hb, hl, ht, hc, hn⟩
  · obtain rfl : h = 0 := by omega
    obtain rfl : l = 0 := by omega
    refine cut_ok hlo hhi (Nat.le_refl _) (Nat.le_refl _) ?_
    exact hK _ (.inl ⟨rfl, rfl, by simp⟩) rfl
  · refine cut_ok hlo hhi hlh (by omega) ?_
    have hcs : l * s ≤ c * s := Nat.mul_le_mul_right _ (by omega)
    have hsc : (c - l) * s = c * s - l * s := Nat.sub_mul _ _ _
    by_cases hcl : c = l
    · have h0 : h - l = 0 := by omega
      rw [if_pos hcl]
      exact hK _ (.inr ⟨b, o, c - l, cs, rfl, hb, by rw [h0]; simp, by rw [h0]; simp, by omega, by omega⟩) rfl
    · rw [if_neg hcl]
      simp only [Option.map_some, add_addr]
      refine hK _ (.inr ⟨b, o + l * s, c - l, cs, rfl, hb, ?_, ?_, by omega, by omega⟩) rfl
      · rw [List.length_take, List.length_drop, hl]; omega
      · rw [← ht]; exact take_drop_part cs o (l * s) ((h - l) * s) (n * s) (by omega)
end

section
variable {P : Program} {S : List Nat} {w0 w : World} {L R : List Res} {K : VPost}
theorem Sep.appendO {T T' ty e e' : TypeId} {ti : TypeInfo} {z : Value} {v x : Value} {xs ys : List Value} {n m : Nat} (s : Sep S w0 w L R) (i : Nat) (hL : L[i]? = some (rO v e ti.size xs n))
    (hu : P.underlying T = some (.slice e)) (hu' : P.underlying T' = some (.slice e')) (hi : P.info? e = some ti) (hz : ti.zero = some z) (hzs : z.cells.size = ti.size) (hbp : 0 < ti.bytes)
    (hx : RdSl w x ti.size ys m) (h1 : ∀ y ∈ ys, y.oneCell' = true) (hsm : (n + m) * ti.bytes + 600 * ti.bytes ≤ 2 ^ 40)
    (h : ∀ v' w', Sep S w0 w' (L.set i (rO v' e ti.size (xs ++ ys) (n + m))) R → K v' w') :
    insW P (Builtin.append_ #[T, T'] ty #[v, x]) w K :=
  appendO_i hu hu' hi hz hzs hbp (s.at i hL) hx h1 hsm fun v' w' hv e hb => h v' w' (s.upd i hL (T' := rO v' _ ti.size (xs ++ ys) (n + m)) hv e (by
    intro b hb'
    show b ∈ slB v ∨ _
    rcases hb with h2 | ⟨b', h2, h3⟩
    · exact .inl (h2 ▸ hb')
    · have hb' : b ∈ slB v' := hb'
      rw [h2] at hb'; simp at hb'; subst hb'; exact .inr h3))
end
end Go.Proofs.Ytedebapgmfnflaa
