/- The disk's calls that came in; are they many; arithmetic by bits. -/
import Derived.Test.YtedebapgmfnflaaL0
import Derived.Test.YtedebapgmfnflaaE0
namespace Go.Proofs.Ytedebapgmfnflaa
open Go
set_option maxRecDepth 100000

section
variable {P : Program} {w : World} {K : VPost}
theorem bin_and {t : TypeId} {c : Bool} {k : IntKind} {x y : Int} : binW P .and t c (.int k x) (.int k y) w K = K (.int k (k.wrap (BitVec.ofInt k.bits x &&& BitVec.ofInt k.bits y).toNat)) w := by
  simp [binW, binE, guardE, eqGuard, binOp, Op.intBits, insW, okW, Sem.run_bind]

theorem and_mask (x : Int) (n : Nat) (hn : n < 63) : IntKind.i64.wrap (BitVec.ofInt IntKind.i64.bits x &&& BitVec.ofInt IntKind.i64.bits (2 ^ n - 1)).toNat = x % 2 ^ n := by
  have hb : IntKind.i64.bits = 64 := rfl
  have hp : (2 : Nat) ^ n < 2 ^ 63 := Nat.pow_lt_pow_right (by decide) hn
  have hp0 : 0 < (2 : Nat) ^ n := Nat.two_pow_pos n
  have hm : (BitVec.ofInt IntKind.i64.bits (2 ^ n - 1)).toNat = 2 ^ n - 1 := by
    rw [BitVec.toNat_ofInt, hb]
    have : ((2 : Int) ^ n - 1) = ((2 ^ n - 1 : Nat) : Int) := by
      rw [Int.ofNat_sub hp0]; simp
    rw [this]
    omega
  rw [BitVec.toNat_and, hm, Nat.and_two_pow_sub_one_eq_mod, BitVec.toNat_ofInt, hb]
  have hd : (2 ^ n : Int) ∣ ((2 ^ 64 : Nat) : Int) := ⟨2 ^ (64 - n), by
    rw [← Int.pow_add, show n + (64 - n) = 64 by omega]; rfl⟩
  have e1 : (((x % ((2 ^ 64 : Nat) : Int)).toNat % 2 ^ n : Nat) : Int) = x % 2 ^ n := by
    rw [Int.natCast_emod, Int.toNat_of_nonneg (Int.emod_nonneg _ (by decide))]
    simp only [Int.natCast_pow, Int.cast_ofNat_Int] at hd ⊢
    exact Int.emod_emod_of_dvd x hd
  rw [e1]
  have h2 : (0 : Int) < 2 ^ n := by exact_mod_cast hp0
  have h3 : ((2 : Int) ^ n) < 2 ^ 63 := by exact_mod_cast hp
  have h4 := Int.emod_nonneg x (show (2 : Int) ^ n ≠ 0 by omega)
  have h5 := Int.emod_lt_of_pos x h2
  rw [IntKind.wrap_i64]
  omega
end

theorem and7 {P : Program} {w : World} {K : VPost} {t : TypeId} {c : Bool} {x : Int} : binW P .and t c (.int .i64 x) (.int .i64 7) w K = K (.int .i64 (x % 8)) w := by
  rw [bin_and]
  exact congrArg (fun z => K (.int .i64 z) w) (and_mask x 3 (by decide))
theorem and63 {P : Program} {w : World} {K : VPost} {t : TypeId} {c : Bool} {x : Int} : binW P .and t c (.int .i64 x) (.int .i64 63) w K = K (.int .i64 (x % 64)) w := by
  rw [bin_and]
  exact congrArg (fun z => K (.int .i64 z) w) (and_mask x 6 (by decide))

theorem RdSl.ltb {w : World} {v : Value} {s m : Nat} {ys : List Value} (h : RdSl w v s ys m) (h0 : 0 < ys.length) : ∀ b ∈ slB v, b < w.heap.size := by
  obtain ⟨_, ⟨rfl, _⟩ | ⟨b, o, c, cs, rfl, hb, _⟩⟩ := h
  · exact absurd h0 (Nat.lt_irrefl _)
  · intro x hx
    simp [slB] at hx; subst hx
    exact hb.lt

theorem DiskM.write_n (D : DiskM) (i : Int) (b : Bytes) : (D.write i b).1.n = D.n := by
  unfold DiskM.write; split
  · rfl
  · split <;> rfl
theorem DiskM.write_pend (D : DiskM) (i : Int) (b : Bytes) : (D.write i b).1.pend.length ≤ D.pend.length + 1 := by
  unfold DiskM.write; split
  · simp
  · split <;> simp

theorem flat_get {α : Type} (f : α → List Value) (s : Nat) : ∀ (l : List α), (∀ x ∈ l, (f x).length = s) → ∀ (i : Nat) (h : i < l.length), ((l.flatMap f).drop (i * s)).take s = f l[i] := by
  intro l
  induction l with
  | nil => intro _ i h; exact absurd h (Nat.not_lt_zero _)
  | cons x r ih =>
    intro hl i h
    have h0 := hl x List.mem_cons_self
    rw [List.flatMap_cons]
    cases i with
    | zero =>
      rw [Nat.zero_mul, List.drop_zero, List.take_append_of_le_length (by omega), List.take_of_length_le (by omega)]
      rfl
    | succ i =>
      rw [Nat.add_mul, Nat.one_mul, Nat.add_comm (i * s) s, ← List.drop_drop, List.drop_append_of_le_length (by omega), List.drop_of_length_le (l := f x) (by omega), List.nil_append]
      exact ih (fun y hy => hl y (List.mem_cons_of_mem _ hy)) i (by simpa using h)

theorem flat_len {α : Type} (f : α → List Value) (s : Nat) : ∀ (l : List α), (∀ x ∈ l, (f x).length = s) → (l.flatMap f).length = l.length * s := by
  intro l
  induction l with
  | nil => intro _; simp
  | cons x r ih =>
    intro h
    rw [List.flatMap_cons, List.length_append, h x List.mem_cons_self, ih (fun y hy => h y (List.mem_cons_of_mem _ hy)), List.length_cons, Nat.add_mul]
    omega

/-- An element of a slice that may be read, by its cells. -/
theorem RdSl.elem {w : World} {v : Value} {s m i : Nat} {ys : List Value} (h : RdSl w v s ys m) (hi : i < m) (hs : 0 < s) (k : IntKind) :
    ∃ b o cs, (∀ K : VPost, K (.pointer (some ⟨b, o, none⟩)) w → idxW (some (none, s)) v (.int k i) w K) ∧ RBlk w b cs ∧ o + s ≤ cs.length ∧ (cs.drop o).take s = (ys.drop (i * s)).take s := by
  obtain ⟨hl, ⟨rfl, _⟩ | ⟨b, o, c, cs, rfl, hb, h1, h2⟩⟩ := h
  · have : 0 < m * s := Nat.mul_pos (by omega) hs
    rw [List.length_nil] at hl
    omega
  · have hi2 : i * s + s ≤ m * s := by
      have := Nat.mul_le_mul_right s (show i + 1 ≤ m from hi)
      rw [Nat.add_mul, Nat.one_mul] at this; exact this
    refine ⟨b, o + i * s, cs, fun K hK => idx_i hi hK, hb, by omega, ?_⟩
    rw [← h1, List.drop_take, List.take_take, List.drop_drop, Nat.min_eq_left (by omega)]

theorem at_get {cs ys : List Value} {o s j : Nat} (h : (cs.drop o).take s = ys) (hj : j < s) : cs[o + j]? = ys[j]? := by
  rw [← h, List.getElem?_take, if_pos hj, List.getElem?_drop]
theorem at_part {cs ys : List Value} {o s j n : Nat} (h : (cs.drop o).take s = ys) (hj : j + n ≤ s) : (cs.drop (o + j)).take n = (ys.drop j).take n := by
  rw [← h, List.drop_take, List.take_take, List.drop_drop, Nat.min_eq_left (by omega)]

/-! ### Calls -/
structure CallM where
  what : Int
  n : Int
  blk : Bytes
  picks : Bytes
  pv : Value

def callCells (c : CallM) : List Value := .int .i64 c.what :: .int .i64 c.n :: (bc c.blk ++ [c.pv])

def i64ok (x : Int) : Prop := -9223372036854775808 ≤ x ∧ x ≤ 9223372036854775807

structure CallM.good (w : World) (c : CallM) : Prop where
  len : c.blk.length = 64
  what : i64ok c.what
  num : i64ok c.n
  rd : RdSl w c.pv 1 (bc c.picks) c.picks.length
  plen : c.picks.length ≤ 140737488351232

structure IsCalls (w : World) (v : Value) (l : List CallM) : Prop where
  rd : RdSl w v 67 (l.flatMap callCells) l.length
  good : ∀ c ∈ l, c.good w
  len : l.length ≤ 140737488351232

theorem callCells_len {w : World} {c : CallM} (h : c.good w) : (callCells c).length = 67 := by simp [callCells, bc_length, h.len]

theorem IsCalls.keep {w w' : World} {v : Value} {l : List CallM} (h : IsCalls w v l) (e : Ext [] w w') : IsCalls w' v l :=
  ⟨h.rd.keep e (by simp), fun c hc => let g := h.good c hc; ⟨g.len, g.what, g.num, g.rd.keep e (by simp), g.plen⟩, h.len⟩

/-- A call, by its cells. -/
theorem IsCalls.elem {w : World} {v : Value} {l : List CallM} (h : IsCalls w v l) {i : Nat} (hi : i < l.length) (k : IntKind) :
    ∃ b o cs, (∀ K : VPost, K (.pointer (some ⟨b, o, none⟩)) w → idxW (some (none, 67)) v (.int k i) w K) ∧ RBlk w b cs ∧
      cs[o]? = some (.int .i64 l[i].what) ∧ cs[o + 1]? = some (.int .i64 l[i].n) ∧ (cs.drop (o + 2)).take 64 = bc l[i].blk ∧ cs[o + 66]? = some l[i].pv ∧ o + 67 ≤ cs.length ∧ (cs.drop o).take 67 = callCells l[i] := by
  obtain ⟨b, o, cs, h1, h2, h3, h4⟩ := h.rd.elem hi (by decide) k
  rw [flat_get callCells 67 l (fun c hc => callCells_len (h.good c hc)) i hi] at h4
  have hg := h.good l[i] (List.getElem_mem hi)
  have hbl : (bc l[i].blk).length = 64 := by rw [bc_length, hg.len]
  refine ⟨b, o, cs, h1, h2, ?_, ?_, ?_, ?_, h3, h4⟩
  · have := at_get h4 (show 0 < 67 by decide)
    simpa [callCells] using this
  · have := at_get h4 (show 1 < 67 by decide)
    simpa [callCells] using this
  · rw [at_part h4 (show 2 + 64 ≤ 67 by decide)]
    simp only [callCells, List.drop_succ_cons, List.drop_zero]
    rw [List.take_append_of_le_length (by omega), List.take_of_length_le (by omega)]
  · rw [at_get h4 (show 66 < 67 by decide)]
    simp only [callCells, List.getElem?_cons_succ]
    rw [List.getElem?_append_right (by omega), hbl]
    rfl

def strF (P : Program) (t : TypeId) : Option (List (TypeId × Nat)) :=
  match P.underlying t with
  | some (.struct fs) => some (fs.toList.map fun f => (f.type, f.offset))
  | _ => none

theorem trod_fields {H : Type} {enc : TypeId × Value → H} {P : Program} {w : World} {sp : Nat → Bool} {held : Bool} {t : TypeId} {l : List (TypeId × Nat)} {cs : List Value} {x : DataW H × List MemPlace} {fuel : Nat} (hs : strF P t = some l) (h : DataW.trod enc P w 0 sp held fuel t cs = some x) (hfit : fitsD P t x.1) :
    cs.length = P.cellsOf t ∧ ∀ (i : Nat) te off, l[i]? = some (te, off) → ∃ y n, DataW.trod enc P w 0 sp held n te ((cs.drop off).take (P.cellsOf te)) = some y ∧ fitsD P te y.1 := by
  unfold strF at hs
  split at hs
  · rename_i fs hu
    simp only [Option.some.injEq] at hs
    subst hs
    obtain ⟨xs, n, _, hx, hl, hxs, hf⟩ := DataW.trod_struct hu h
    rw [hx] at hfit
    refine ⟨hl, fun i te off hi => ?_⟩
    rw [List.getElem?_map, Option.map_eq_some_iff] at hi
    obtain ⟨f, hfi, he⟩ := hi
    simp only [Prod.mk.injEq] at he
    obtain ⟨rfl, rfl⟩ := he
    have hlt : i < fs.size := by
      have := (List.getElem?_eq_some_iff.1 hfi).1
      simpa using this
    have := hf i f (by simpa using hfi)
    rw [List.getElem?_eq_getElem (by omega)] at this
    exact ⟨_, n, this, fits_struct hu hfit (i := i) (by simp [hfi]) (by rw [List.getElem?_map, List.getElem?_eq_getElem (by omega)]; rfl)⟩
  · cases hs

theorem wf_i64 {n : Int} (h : (Lit.int .i64 n).wf = true) : i64ok n := by
  simp [Lit.wf] at h
  have k1 : IntKind.i64.min = -9223372036854775808 := by decide
  have k2 : IntKind.i64.max = 9223372036854775807 := by decide
  have k3 : n ≤ IntKind.i64.max := by have := h.2; omega
  exact ⟨by omega, by omega⟩

theorem trod_calls {H : Type} {enc : TypeId × Value → H} {w : World} {sp : Nat → Bool} {held : Bool} {v : Value} {x : DataW H × List MemPlace} {fuel : Nat} (h : DataW.trod enc Try.prog w 0 sp held fuel 22 [v] = some x) (hfit : fitsD Try.prog 22 x.1) :
    ∃ l, IsCalls w v l := by
  obtain ⟨ys, m, hrd, hm, hel⟩ := trod_sl (by kernel_rfl : Try.prog.underlying 22 = some (.slice 36)) (by kernel_rfl : Try.prog.cellsOf 36 = 67) (by decide) h hfit
  have hby : Try.prog.bytesOf 36 = 104 := by kernel_rfl
  rw [hby, reach_eq] at hm
  have hint : Try.prog.underlying 3 = some (.int .i64) := by kernel_rfl
  have hel' : ∀ i, i < m → ∃ c : CallM, c.good w ∧ (ys.drop (i * 67)).take 67 = callCells c := by
    intro i hi
    obtain ⟨y, f, hy, hyf⟩ := hel i hi
    obtain ⟨hl, hf⟩ := trod_fields (by kernel_rfl : strF Try.prog 36 = some [(3, 0), (3, 1), (33, 2), (34, 66)]) hy hyf
    have hc1 : Try.prog.cellsOf 3 = 1 := by kernel_rfl
    have hc64 : Try.prog.cellsOf 33 = 64 := by kernel_rfl
    have hcs : Try.prog.cellsOf 34 = 1 := by kernel_rfl
    have hcc : Try.prog.cellsOf 36 = 67 := by kernel_rfl
    rw [hcc] at hl
    generalize hcs' : (ys.drop (i * 67)).take 67 = cs at *
    obtain ⟨y0, n0, h0, k0⟩ := hf 0 _ _ rfl
    obtain ⟨y1, n1, h1, k1⟩ := hf 1 _ _ rfl
    obtain ⟨y2, n2, h2, k2⟩ := hf 2 _ _ rfl
    obtain ⟨y3, n3, h3, k3⟩ := hf 3 _ _ rfl
    rw [hc1] at h0 h1
    rw [hc64] at h2
    rw [hcs] at h3
    obtain ⟨a0, e0, _, g0⟩ := DataW.trod_int hint h0
    obtain ⟨a1, e1, _, g1⟩ := DataW.trod_int hint h1
    obtain ⟨bl, e2, g2⟩ := trod_arr (by kernel_rfl : Try.prog.underlying 33 = some (.array 64 5)) (by kernel_rfl) (by kernel_rfl) hc64 h2
    have hl3 : ((cs.drop 66).take 1).length = 1 := by simp; omega
    obtain ⟨pv, e3⟩ := List.length_eq_one_iff.1 hl3
    rw [e3] at h3
    obtain ⟨pk, g3, g4⟩ := trod_bytes und_u8s (by kernel_rfl) (by kernel_rfl) (by kernel_rfl) h3 k3
    refine ⟨⟨a0, a1, bl, pk, pv⟩, ⟨g2, wf_i64 g0, wf_i64 g1, g3, g4⟩, ?_⟩
    have : cs = (cs.drop 0).take 1 ++ ((cs.drop 1).take 1 ++ ((cs.drop 2).take 64 ++ (cs.drop 66).take 1)) := by
      have t3 : (cs.drop 66).take 1 = cs.drop 66 := List.take_of_length_le (by simp; omega)
      have t2 : (cs.drop 2).take 64 ++ cs.drop 66 = cs.drop 2 := by
        rw [show (66 : Nat) = 2 + 64 by rfl, ← List.drop_drop, List.take_append_drop]
      have t1 : (cs.drop 1).take 1 ++ cs.drop 2 = cs.drop 1 := by
        rw [show (2 : Nat) = 1 + 1 by rfl, ← List.drop_drop, List.take_append_drop]
      rw [t3, t2, t1, List.drop_zero, List.take_append_drop]
    rw [this, e0, e1, e2, e3]
    simp [callCells]
  clear hel h
  have key : ∀ (m : Nat) (ys : List Value), ys.length = m * 67 → (∀ i, i < m → ∃ c : CallM, c.good w ∧ (ys.drop (i * 67)).take 67 = callCells c) → ∃ l : List CallM, l.length = m ∧ (∀ c ∈ l, c.good w) ∧ ys = l.flatMap callCells := by
    intro m
    induction m with
    | zero => intro ys hl _; exact ⟨[], rfl, by simp, List.length_eq_zero_iff.1 (by omega)⟩
    | succ m ih =>
      intro ys hl hel
      obtain ⟨c, hc, he⟩ := hel 0 (by omega)
      obtain ⟨l, h1, h2, h3⟩ := ih (ys.drop 67) (by rw [List.length_drop]; omega) (fun i hi => by
        obtain ⟨c, hc, he⟩ := hel (i + 1) (by omega)
        refine ⟨c, hc, ?_⟩
        rw [List.drop_drop, show 67 + i * 67 = (i + 1) * 67 by omega]; exact he)
      refine ⟨c :: l, by simp [h1], fun d hd => ?_, ?_⟩
      · rcases List.mem_cons.1 hd with rfl | hd
        · exact hc
        · exact h2 d hd
      · rw [List.flatMap_cons, ← h3, ← he, Nat.zero_mul, List.drop_zero, List.take_append_drop]
  obtain ⟨l, h1, h2, h3⟩ := key m ys hrd.1 hel'
  subst h1
  subst h3
  exact ⟨l, hrd, h2, by omega⟩

/-- Are they many? -/
theorem great_c {w : World} {v : Value} {l : List CallM} (h : IsCalls w v l) {K : VPost} (hT : K (.bool true) w) (hF : l.length ≤ 60 → (∀ c ∈ l, c.picks.length ≤ 2000) → K (.bool false) w) :
    Calls Try.prog 20 #[v] w (retK K) := by
  refine c20_calls _ w K ?_
  unfold c20
  obtain ⟨a, c, hva⟩ := h.rd.len
  have hl1 : ∀ (w : World) (K : VPost), lenW Try.prog (some true) #[22] 3 #[v] w K = K (.int .i64 l.length) w := fun w K => by rw [hva, len_s]
  simp only [hl1, bin_gtr]
  refine cond_d (fun hlt => hT) (fun hlt => ?_)
  have hlt : l.length ≤ 60 := by omega
  refine bindX_i fun J0 h0 => bindX_i fun J1 h1 => bindX_i fun J2 h2 => ?_
  refine loop_i (fun m fr w1 => ∃ k s : Nat, m = l.length - k ∧ k ≤ l.length ∧ fr 0 = v ∧ fr 4 = .int .i64 k ∧ fr 3 = .int .i64 s ∧ s ≤ 2000 ∧ (∀ c ∈ l.take k, c.picks.length ≤ s) ∧ w1 = w) l.length ?_ ?_
  · exact ⟨0, 0, rfl, Nat.zero_le _, rfl, rfl, rfl, Nat.zero_le _, by simp, rfl⟩
  · rintro m fr w1 J ⟨k, s, rfl, hk, f0, f4, f3, hs, hp, rfl⟩ hJ hX
    simp only [f0, f4, f3, hl1, bin_lss]
    refine cond_d (fun hlt => ?_) (fun hlt => ?_)
    · have hlt : k < l.length := by omega
      obtain ⟨b, o, cs, hix, hb, _, _, _, h66, _, _⟩ := h.elem hlt .i64
      refine hix _ (off_i (load1 hb h66 ?_))
      have hg := h.good l[k] (List.getElem_mem hlt)
      obtain ⟨pa, pc, hpv⟩ := hg.rd.len
      have hpl := hg.plen
      rw [hpv, len_s, bin_add, i64_self (by omega), bin_gtr]
      refine cond_d (fun hc => ?_) (fun hc => ?_)
      · exact hX _ _ _ (by simp) (h2 _ _ _ (h1 _ _ _ (h0 _ _ _ hT)))
      · rw [bin_add, i64_self (by omega)]
        refine hJ (l.length - (k + 1)) _ _ (by omega) ⟨k + 1, s + l[k].picks.length, rfl, hlt, f0, ?_, ?_, by omega, ?_, rfl⟩
        · show Value.int .i64 ((k : Int) + 1) = _
          simp
        · show Value.int .i64 ((s : Int) + _) = _
          simp
        · intro c hc
          rw [List.take_succ_eq_append_getElem hlt, List.mem_append] at hc
          rcases hc with hc | hc
          · have := hp c hc; omega
          · simp at hc; subst hc; omega
    · have hkn : k = l.length := by omega
      subst hkn
      rw [List.take_length] at hp
      exact hX _ _ _ (by simp) (h2 _ _ _ (blk_x (seq_n h1 (hF (by omega) (fun c hc => Nat.le_trans (hp c hc) hs)))))
end Go.Proofs.Ytedebapgmfnflaa
