/- What came in: slices of arrays of bytes, arrays of words, arrays of bytes. -/
import Derived.Test.YtedebapgmfnflaaT0
import Derived.Test.YtedebapgmfnflaaT5
namespace Go.Proofs.Ytedebapgmfnflaa
open Go Go.ChangeShapes Go.WideShapes
set_option maxRecDepth 100000

theorem cut_rows (s : Nat) : ∀ (m : Nat) (ys : List Value), ys.length = m * s → (∀ i, i < m → ∃ l : Bytes, (ys.drop (i * s)).take s = bc l ∧ l.length = s) → ∃ L : List Bytes, L.length = m ∧ ys = L.flatMap bc ∧ ∀ x ∈ L, x.length = s := by
  intro m
  induction m with
  | zero => intro ys h _; exact ⟨[], rfl, List.length_eq_zero_iff.1 (by rw [h, Nat.zero_mul]), by simp⟩
  | succ m ih =>
    intro ys h hel
    obtain ⟨l, h1, h2⟩ := hel 0 (by omega)
    rw [Nat.zero_mul, List.drop_zero] at h1
    obtain ⟨L, h3, h4, h5⟩ := ih (ys.drop s) (by rw [List.length_drop, h, Nat.add_mul, Nat.one_mul, Nat.add_sub_cancel]) (fun i hi => by
      obtain ⟨l, h6, h7⟩ := hel (i + 1) (by omega)
      refine ⟨l, ?_, h7⟩
      rw [List.drop_drop, ← h6, show s + i * s = (i + 1) * s by rw [Nat.add_mul, Nat.one_mul, Nat.add_comm]])
    refine ⟨l :: L, by rw [List.length_cons, h3], ?_, ?_⟩
    · rw [List.flatMap_cons, ← h1, ← h4, List.take_append_drop]
    · intro x hx
      rcases List.mem_cons.1 hx with rfl | hx
      · exact h2
      · exact h5 x hx

section
variable {H : Type} {enc : TypeId × Value → H} {P : Program} {w : World} {sp : Nat → Bool} {held : Bool}
theorem trod_arrs {t e u : TypeId} {v : Value} {x : DataW H × List MemPlace} {fuel n : Nat} (hu : P.underlying t = some (.slice e)) (he : P.underlying e = some (.array n u)) (hn : 0 < n) (hub : P.underlying u = some (.int .u8)) (hus : P.cellsOf u = 1) (hes : P.cellsOf e = n) (hb : P.bytesOf e = n)
    (h : DataW.trod enc P w 0 sp held fuel t [v] = some x) (hfit : fitsD P t x.1) : ∃ l : List Bytes, RdSl w v n (l.flatMap bc) l.length ∧ (∀ x ∈ l, x.length = n) ∧ capOk v ∧ l.length ≤ 140737488351232 := by
  obtain ⟨ys, m, hrd, hm, hel⟩ := trod_sl hu hes hn h hfit
  obtain ⟨L, h1, h2, h3⟩ := cut_rows n m ys hrd.1 (fun i hi => by
    obtain ⟨z, f', hz, _⟩ := hel i hi
    exact trod_arr he hub hus hes hz)
  subst h2
  refine ⟨L, by rw [h1]; exact hrd, h3, trod_cap hu h, ?_⟩
  rw [hb, reach_eq] at hm
  have := Nat.le_mul_of_pos_right m hn
  omega

theorem cells_words : ∀ {cs : List Value}, (∀ y ∈ cs, ∃ n : Int, y = .int .u32 n ∧ (Lit.int .u32 n).wf = true) → ∃ l : List UInt32, cs = uc l := by
  intro cs
  induction cs with
  | nil => intro _; exact ⟨[], rfl⟩
  | cons y r ih =>
    intro h
    obtain ⟨l, rfl⟩ := ih (fun z hz => h z (List.mem_cons_of_mem _ hz))
    obtain ⟨n, rfl, hn⟩ := h y List.mem_cons_self
    simp [Lit.wf] at hn
    have k1 : IntKind.u32.min = 0 := by decide
    have k2 : IntKind.u32.max = 4294967295 := by decide
    rw [k1, k2] at hn
    refine ⟨UInt32.ofNat n.toNat :: l, ?_⟩
    simp only [uc, List.map_cons, List.cons.injEq, and_true, uv]
    congr 1
    have : (UInt32.ofNat n.toNat).toNat = n.toNat := by
      rw [UInt32.toNat_ofNat']
      omega
    rw [this]; omega

theorem trod_arrW {t e : TypeId} {cs : List Value} {x : DataW H × List MemPlace} {fuel n : Nat} (hu : P.underlying t = some (.array n e)) (he : P.underlying e = some (.int .u32)) (hs : P.cellsOf e = 1) (hn : P.cellsOf t = n) (h : DataW.trod enc P w 0 sp held fuel t cs = some x) :
    ∃ l : List UInt32, cs = uc l ∧ l.length = n := by
  cases fuel with
  | zero => simp [DataW.trod] at h
  | succ fuel =>
    unfold DataW.trod at h
    rw [hu] at h
    simp only [hn, hs, Nat.mul_one] at h
    split at h
    · rename_i hl
      rw [Option.map_eq_some_iff] at h
      obtain ⟨r, hr, _⟩ := h
      obtain ⟨_, hg⟩ := mapM_range _ hr
      obtain ⟨l, rfl⟩ := cells_words (cs := cs) (by
        intro y hy
        obtain ⟨i, hi, hp⟩ := mem_part hy
        obtain ⟨z, hz, _⟩ := hg i (by omega)
        rw [hp] at hz
        obtain ⟨n, h1, _, h2⟩ := DataW.trod_int he hz
        simp only [List.cons.injEq, and_true] at h1
        exact ⟨n, h1, h2⟩)
      exact ⟨l, rfl, by rw [← hl, uc_length]⟩
    · cases h
end

theorem open_blocks {W : World} {base : Nat} {v : Value} (h : Value.okWide Try.prog W .any base 73 v ∧ Came W 73 v) : ∃ l : List Bytes, RdSl W v 64 (bcs l) l.length ∧ (∀ x ∈ l, x.length = 64) ∧ capOk v ∧ l.length ≤ 140737488351232 := by
  obtain ⟨h1, H, enc, fuel, x, h2, h3⟩ := h
  rw [open_sl (by kernel_rfl : Try.prog.underlying 73 = some (.slice 32)) h1] at h2
  exact trod_arrs (by kernel_rfl) (by kernel_rfl : Try.prog.underlying 32 = some (.array 64 5)) (by decide) (by kernel_rfl) (by kernel_rfl) (by kernel_rfl) (by kernel_rfl) h2 h3

theorem open_w8 {W : World} {base : Nat} {v : Value} (h : Value.okWide Try.prog W .any base 70 v ∧ Came W 70 v) : ∃ l : List UInt32, v = .agg (uc l).toArray ∧ l.length = 8 := by
  obtain ⟨h1, H, enc, fuel, x, h2, h3⟩ := h
  have hu : Try.prog.underlying 70 = some (.array 8 69) := by kernel_rfl
  unfold Value.okWide at h1
  rw [hu] at h1
  obtain ⟨cs, rfl, _, _⟩ := h1
  obtain ⟨l, h4, h5⟩ := trod_arrW hu (by kernel_rfl) (by kernel_rfl) (by kernel_rfl) h2
  refine ⟨l, ?_, h5⟩
  have : cs.toList = uc l := h4
  rw [← this]
theorem open_b64 {W : World} {base : Nat} {v : Value} (h : Value.okWide Try.prog W .any base 32 v ∧ Came W 32 v) : ∃ l : Bytes, v = .agg (bc l).toArray ∧ l.length = 64 := by
  obtain ⟨h1, H, enc, fuel, x, h2, h3⟩ := h
  have hu : Try.prog.underlying 32 = some (.array 64 5) := by kernel_rfl
  unfold Value.okWide at h1
  rw [hu] at h1
  obtain ⟨cs, rfl, _, _⟩ := h1
  obtain ⟨l, h4, h5⟩ := trod_arr hu (by kernel_rfl) (by kernel_rfl) (by kernel_rfl) h2
  refine ⟨l, ?_, h5⟩
  have : cs.toList = bc l := h4
  rw [← this]
end Go.Proofs.Ytedebapgmfnflaa
