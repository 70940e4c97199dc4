/- What came in: slices with their capacity, rows of bytes, rows of arrays, arrays of words. -/
import Derived.Test.YtedebapgmfnflaaE2
import Derived.Test.YtedebapgmfnflaaH4
import Derived.Test.YtedebapgmfnflaaS8
namespace Go.Proofs.Ytedebapgmfnflaa
open Go Go.ChangeShapes Go.WideShapes
set_option maxRecDepth 100000

section
variable {H : Type} {enc : TypeId × Value → H} {P : Program} {w : World} {sp : Nat → Bool} {held : Bool}
theorem trod_cap {t e : TypeId} {v : Value} {x : DataW H × List MemPlace} {fuel : Nat} (hu : P.underlying t = some (.slice e)) (h : DataW.trod enc P w 0 sp held fuel t [v] = some x) : capOk v := by
  rcases DataW.trod_slice hu h with ⟨hc, _⟩ | ⟨a, len, cap, elems, rest, n, _, hc, _, _, hl, _⟩
  · simp only [List.cons.injEq, and_true] at hc
    subst hc; rfl
  · simp only [List.cons.injEq, and_true] at hc
    subst hc; exact hl

theorem rows_of {ys : List Value} (h : ∀ y ∈ ys, ∃ l : Bytes, (RdSl w y 1 (bc l) l.length ∧ capOk y) ∧ l.length ≤ 140737488351232) : ∃ ls : List Bytes, RowsL w ys ls ∧ ∀ l ∈ ls, l.length ≤ 140737488351232 := by
  induction ys with
  | nil => exact ⟨[], trivial, by simp⟩
  | cons y r ih =>
    obtain ⟨ls, h1, h2⟩ := ih (fun z hz => h z (List.mem_cons_of_mem _ hz))
    obtain ⟨l, h3, h4⟩ := h y List.mem_cons_self
    exact ⟨l :: ls, ⟨h3, h1⟩, by
      intro x hx
      rcases List.mem_cons.1 hx with rfl | hx
      · exact h4
      · exact h2 x hx⟩

/-- Rows of bytes that came in. -/
theorem trod_rows {t e u : TypeId} {v : Value} {x : DataW H × List MemPlace} {fuel : Nat} (hu : P.underlying t = some (.slice e)) (hs : P.cellsOf e = 1) (hb : P.bytesOf e = 24) (he : P.underlying e = some (.slice u)) (hub : P.underlying u = some (.int .u8)) (hus : P.cellsOf u = 1) (huby : P.bytesOf u = 1)
    (h : DataW.trod enc P w 0 sp held fuel t [v] = some x) (hfit : fitsD P t x.1) : ∃ hs ls, RowsR w v hs ls ∧ capOk v ∧ ls.length ≤ 2 ^ 44 ∧ ∀ l ∈ ls, l.length ≤ 140737488351232 := by
  obtain ⟨ys, m, hrd, hm, hel⟩ := trod_sl hu hs (by decide) h hfit
  have hl := hrd.1
  rw [Nat.mul_one] at hl
  obtain ⟨ls, h1, h2⟩ := rows_of (w := w) (ys := ys) (by
    intro y hy
    obtain ⟨i, hi, hp⟩ := mem_part hy
    obtain ⟨z, f', hz, hf⟩ := hel i (by omega)
    rw [Nat.mul_one, hp] at hz
    obtain ⟨l, h3, h4⟩ := trod_bytes he hub hus huby hz hf
    exact ⟨l, ⟨h3, trod_cap he hz⟩, h4⟩)
  refine ⟨ys, ls, ⟨by rw [hl]; exact hrd, h1⟩, trod_cap hu h, ?_, h2⟩
  rw [hb, reach_eq] at hm
  have := h1.length
  omega
end

theorem open_bytesC {W : World} {base : Nat} {v : Value} (h : Value.okWide Try.prog W .any base 34 v ∧ Came W 34 v) : ∃ l : Bytes, (RdSl W v 1 (bc l) l.length ∧ capOk v) ∧ l.length ≤ 140737488351232 := by
  obtain ⟨h1, H, enc, fuel, x, h2, h3⟩ := h
  rw [open_sl und_u8s h1] at h2
  obtain ⟨l, h4, h5⟩ := trod_bytes und_u8s (by kernel_rfl) (by kernel_rfl) (by kernel_rfl) h2 h3
  exact ⟨l, ⟨h4, trod_cap und_u8s h2⟩, h5⟩

theorem und_rows : Try.prog.underlying 56 = some (.slice 34) := by kernel_rfl
theorem open_rows {W : World} {base : Nat} {v : Value} (h : Value.okWide Try.prog W .any base 56 v ∧ Came W 56 v) : ∃ hs ls, RowsR W v hs ls ∧ capOk v ∧ ls.length ≤ 2 ^ 44 ∧ ∀ l ∈ ls, l.length ≤ 140737488351232 := by
  obtain ⟨h1, H, enc, fuel, x, h2, h3⟩ := h
  rw [open_sl und_rows h1] at h2
  exact trod_rows und_rows (by kernel_rfl) (by kernel_rfl) und_u8s (by kernel_rfl) (by kernel_rfl) (by kernel_rfl) h2 h3

/-! ### In hand -/
section
variable {S : List Nat} {w0 w : World} {L R : List Res} {K : Value → VPost}
theorem und_phash : Try.prog.underlying 58 = some (.pointer 112) := by kernel_rfl

/-- Some rows, written at once. -/
theorem Sep.hwrite {vs : List Value} {ls : List Bytes} {p : Nat} {F : List Nat} {a : Bytes} {parts : List (Nat × Value)} (s : Sep S w0 w L R) (i : Nat) (hL : L[i]? = some (rH p F (hm a))) (hp : parts = enumV 0 vs) (hv : RowsL w vs ls) (hd : ∀ c ∈ F, c ∉ rowsF vs ls) (hlen : vs.length ≤ 100) (hn : a.length + ls.flatten.length ≤ 2 ^ 37)
    (h : ∀ F' t u w', Sep S w0 w' (L.set i (rH p F' (hm (a ++ ls.flatten)))) R → K t u w') :
    insW Try.prog (Instr.buildSlice 56 vs.length parts.toArray) w fun t w' => fnW Try.prog 43 #[.pointer (some ⟨p, 0, none⟩), t] w' (K t) := by
  obtain ⟨ti, hi, hz, hs, hby⟩ := tyI_spec (by kernel_rfl : tyI Try.prog 34 = some (.slice none 0 0, 1, 24))
  have hcells : ∀ {vs : List Value} {ls : List Bytes}, RowsL w vs ls → ∀ v ∈ vs, v.cells = #[v] := by
    intro vs
    induction vs with
    | nil => intro ls _ v hv; cases hv
    | cons x r ih =>
      intro ls hr v hv
      cases ls with
      | nil => exact hr.elim
      | cons l ls =>
        rcases List.mem_cons.1 hv with rfl | hv
        · obtain ⟨a, c, rfl⟩ := hr.1.1.len; rfl
        · exact ih hr.2 v hv
  have hflat : flatV vs = vs := by
    have : ∀ l : List Value, (∀ v ∈ l, v.cells = #[v]) → flatV l = l := by
      intro l
      induction l with
      | nil => intro _; rfl
      | cons x r ih =>
        intro hl
        have e : flatV (x :: r) = x.cells.toList ++ flatV r := by simp [flatV]
        rw [e, ih (fun v hv => hl v (List.mem_cons_of_mem _ hv)), hl x List.mem_cons_self]; rfl
    exact this vs (hcells hv)
  refine s.lit (vs := vs) und_rows hi hz hp (by intro y hy; rw [hs, hcells hv y hy]; rfl) (by rw [hs]; omega) fun t w3 s3 ht e3 => ?_
  rw [hs, hflat] at s3
  have hdis := (List.pairwise_cons.1 s3.dis).1 (rH p F (hm a)) (List.mem_of_getElem? hL)
  have hv3 := hv.keep e3 (by simp)
  refine fnW_of (by kernel_rfl) (writeH_c (hs := vs) (ls := ls) (s3.at (i + 1) (by simpa using hL)) ⟨OwnAt.rd (s3.at 0 rfl), hv3⟩ (fun c hcF hcm => ?_) hn (by rw [← hv.length]; omega) fun F2 w4 h2 m2 => ?_)
  · rcases List.mem_append.1 hcm with hcm | hcm
    · refine hdis c ?_ hcF
      show c ∈ slB t
      unfold rdB at hcm
      split at hcm
      · cases hcm
      · exact hcm
    · exact hd c hcF hcm
  · have s4 := s3.upd (T := rH p F (hm a)) (i + 1) (by simpa using hL) (T' := rH p F2 (hm (a ++ ls.flatten))) h2 m2.ext m2.own
    exact h F2 t _ w4 (s4.drop 0)
end
end Go.Proofs.Ytedebapgmfnflaa
