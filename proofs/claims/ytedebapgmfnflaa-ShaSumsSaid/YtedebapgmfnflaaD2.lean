/- The disk's own functions, by contracts: what makes, flushes, reads, copies. -/
import Derived.Test.YtedebapgmfnflaaD1
namespace Go.Proofs.Ytedebapgmfnflaa
open Go
set_option maxRecDepth 100000

theorem blk_x {K : XPost} {id : Nat} {fr : Fr} {w : World} (h : K .normal fr w) : blkX id K (.exit id) fr w := by
  unfold blkX; simp only [Nat.beq_refl]; exact h

def DiskM.fresh (n : Nat) : DiskM := ⟨n, List.replicate (64 * n) 0, List.replicate (64 * n) 0, [], -1⟩

theorem bc_zeros (n : Nat) : bc (List.replicate n 0) = List.replicate n (.int .u8 0) := by simp [bc, bv]

theorem fill_disk (a b v : Value) (z : Int) (ha : a.cells = #[a]) (hb : b.cells = #[b]) : fillL [(0, 1), (1, 1), (2, 1), (3, 1)] [.slice none 0 0, .slice none 0 0, .slice none 0 0, .int .i64 0] [(0, a), (1, b), (3, .int .i64 z)] = some [a, b, .slice none 0 0, .int .i64 z] := by
  have h3 : (Value.int .i64 z).cells = #[.int .i64 z] := rfl
  simp [fillL, ha, hb, h3, lspl]

theorem make_blocks {w : World} {n : Nat} (hn : n ≤ 4096) {K : VPost} (h : ∀ b w', w.heap.size = b → Ext [] w w' → Blk w' b (bc (List.replicate (64 * n) 0)) 33 → w'.heap.size = b + 1 → K (.slice (some ⟨b, 0, none⟩) n n) w') :
    insW Try.prog (Instr.makeSlice 99 (.int .i64 n) (.int .i64 n)) w K := by
  obtain ⟨i, hi, hz, hs, hb⟩ := tyI_spec ty_block
  refine makeSlice_i (z0 := .int .u8 0) und_blocks hi hz (by rw [hs]; rfl) (Nat.le_refl _) (by rw [hb]; omega) (by omega) fun b w' h1 h2 h3 h4 => h b w' h1 h2 ?_ h4
  rw [bc_zeros, Nat.mul_comm 64 n, ← hs]; exact h3

theorem new_c {w : World} (size : Int) {K : VPost} (hbad : ¬ (1 ≤ size ∧ size ≤ 4096) → K (.tuple #[.pointer none, .int .i64 11]) w)
    (hK : 1 ≤ size ∧ size ≤ 4096 → ∀ p F w', Disk w' p F (DiskM.fresh size.toNat) → Ext [] w w' → (∀ b ∈ F, w.heap.size ≤ b) → K (.tuple #[.pointer (some ⟨p, 0, none⟩), .int .i64 0]) w') :
    Calls Try.prog 21 #[.int .i64 size] w (retK K) := by
  refine c21_calls _ w K ?_
  unfold c21
  simp only [bin_lss, bin_gtr]
  by_cases h0 : size < 1
  · simp only [h0, decide_true, gstep_tf, pickW_t, condW_t]
    exact hbad (by omega)
  · simp only [h0, decide_false, gstep_f, pickW_f, bin_gtr]
    refine cond_d (fun h1 => hbad (by omega)) (fun h1 => ?_)
    have hk := hK ⟨by omega, by omega⟩
    obtain ⟨n, rfl⟩ : ∃ n : Nat, size = n := ⟨size.toNat, by omega⟩
    simp only [Int.toNat_natCast] at hk
    have hok : (DiskM.fresh n).ok := ⟨by simp [DiskM.fresh], by simp [DiskM.fresh], by simp [DiskM.fresh], by show 1 ≤ n; omega, by show n ≤ 4096; omega, by simp [DiskM.fresh], by simp [DiskM.fresh]⟩
    have key : ∀ (b1 b2 : Nat) (w3 : World), Ext [] w w3 → Blk w3 b1 (bc (List.replicate (64 * n) 0)) 33 → Blk w3 b2 (bc (List.replicate (64 * n) 0)) 33 → b1 ≠ b2 → w.heap.size ≤ b1 → w.heap.size ≤ b2 →
        insW Try.prog (Instr.build 102 #[(0, .slice (some ⟨b1, 0, none⟩) n n), (1, .slice (some ⟨b2, 0, none⟩) n n), (3, .int .i64 (-1))]) w3 fun t w4 => w4 = w3 ∧ boxW 102 t w4 fun t w5 => K (.tuple #[t, .int .i64 0]) w5 := by
      intro b1 b2 w3 e3 h1 h2 hne hb1 hb2
      refine build_i str_disk (fill_disk _ _ .nilIface _ rfl rfl) ⟨rfl, boxW_i fun p w4 hp e4 hb4 hs4 => ?_⟩
      refine hk p [p, b1, b2] w4 ⟨b1, b2, n, n, .slice none 0 0, ⟨hb4, (h1.keep e4 (by simp)).pb, (h2.keep e4 (by simp)).pb, .inl ⟨rfl, rfl, rfl⟩, hok, ?_, ?_, hne, by simp [slB], by simp [slB], by simp [slB]⟩, by simp [slB]⟩ (e3.new e4) ?_
      · have := h1.lt; omega
      · have := h2.lt; omega
      · intro b hb
        have := e3.size
        simp only [List.mem_cons, List.not_mem_nil, or_false] at hb
        rcases hb with rfl | rfl | rfl <;> omega
    constructor
    · refine make_blocks (by omega) fun b1 w1 hb1 e1 h1 hs1 => make_blocks (by omega) fun b2 w2 hb2 e2 h2 hs2 => ?_
      have e1 := e1.undrew
      exact key b1 b2 w2 (e1.new e2) (h1.keep e2 (by simp)) h2 (by omega) (by have : w.drew.heap.size = w.heap.size := rfl; omega) (by have := e1.size; omega)
    · refine make_blocks (by omega) fun b2 w1 hb2 e1 h2 hs1 => make_blocks (by omega) fun b1 w2 hb1 e2 h1 hs2 => ?_
      have e1 := e1.undrew
      exact key b1 b2 w2 (e1.new e2) h1 (h2.keep e2 (by simp)) (by omega) (by have := e1.size; omega) (by have : w.drew.heap.size = w.heap.size := rfl; omega)

/-- All lasts. -/
def DiskM.flush (D : DiskM) : DiskM := { D with last := D.seen, pend := [] }

theorem lspl_all {cs vs : List Value} (h : cs.length = vs.length) : lspl cs 0 vs = vs := by
  unfold lspl
  rw [List.drop_of_length_le (by omega)]
  simp

theorem bspl_all {cs vs : Bytes} (h : cs.length = vs.length) : bspl cs 0 vs = vs := by
  unfold bspl
  rw [List.drop_of_length_le (by omega)]
  simp

theorem flush_c {w : World} {p : Nat} {F : List Nat} {D : DiskM} (h : Disk w p F D) {K : VPost} (hK : ∀ F' w', Disk w' p F' D.flush → Mv F w F' w' → K (.tuple #[]) w') :
    Calls Try.prog 25 #[.pointer (some ⟨p, 0, none⟩)] w (retK K) := by
  obtain ⟨bl, bs, zl, zs, pv, h, rfl⟩ := h
  refine c25_calls _ w K ?_
  unfold c25
  simp only [nilW_e]
  refine off_i (load1 (o := 0 + 0) h.hdr.r rfl (off_i (load1 (o := 0 + 1) h.hdr.r rfl ?_)))
  obtain ⟨i, hi, hz, hsz, hby⟩ := tyI_spec ty_block
  have hl := h.ok.llen
  have hs := h.ok.slen
  refine PB.copy (ys := bc D.seen) (m := D.n) und_blocks hi h.last (h.seen.rd (by rw [bc_length, hsz]; omega))
    (bc_one _) (by rw [bc_length, hsz]; omega) fun w1 e1 h1 hs1 => ?_
  have e1 := e1.undrew
  have hh1 := h.hdr.keep e1 (by simpa using h.ne1)
  refine off_i (o := 0) (k := 2) (store1 (o := 0 + 2) hh1 rfl (by simp) rfl fun w2 e2 hh2 hz2 => ?_)
  refine hK [p, bl, bs] w2 ⟨bl, bs, zl, zs, .slice none 0 0, ⟨hh2, ?_, (h.seen.keep e1 (by simpa using Ne.symm h.ne3)).keep e2 (by simpa using Ne.symm h.ne2), .inl ⟨rfl, rfl, rfl⟩, ⟨hs, hs, by simp [DiskM.flush], h.ok.n1, h.ok.n2, h.ok.l1, h.ok.l2⟩, h.ne1, h.ne2, h.ne3, by simp [slB], by simp [slB], by simp [slB]⟩, by simp [slB]⟩ ⟨?_, ?_⟩
  · have : lspl (bc D.last) 0 (List.take (min D.n D.n * i.size) (bc D.seen)) = bc D.seen := by
      rw [List.take_of_length_le (by rw [bc_length, hsz, Nat.min_self]; omega)]
      exact lspl_all (by rw [bc_length, bc_length]; omega)
    rw [this] at h1
    exact h1.keep e2 (by simpa using Ne.symm h.ne1)
  · exact ((Ext.refl _ w).step e1 (by simp)).step e2 (by simp)
  · intro b hb
    left
    simp at hb ⊢
    rcases hb with rfl | rfl | rfl <;> simp

def DiskM.limit (D : DiskM) (k : Int) : DiskM := { D with left := max k (-1) }

theorem max_e {P : Program} {ts : Array TypeId} {ty : TypeId} {k : IntKind} {x y : Int} {w : World} {K : VPost} : insW P (Builtin.max_ ts ty #[.int k x, .int k y]) w K = K (.int k (max x y)) w := by
  unfold insW Builtin.max_
  simp only [List.foldlM_cons, List.foldlM_nil, Builtin.max2, Sem.run_bind, Sem.run_pure, Result.andThen_ok, okW]
  have : (if y > x then y else x) = max x y := by
    rw [Int.max_def]; split <;> split <;> omega
  rw [this]
theorem min_e {P : Program} {ts : Array TypeId} {ty : TypeId} {k : IntKind} {x y : Int} {w : World} {K : VPost} : insW P (Builtin.min_ ts ty #[.int k x, .int k y]) w K = K (.int k (min x y)) w := by
  unfold insW Builtin.min_
  simp only [List.foldlM_cons, List.foldlM_nil, Builtin.min2, Sem.run_bind, Sem.run_pure, Result.andThen_ok, okW]
  have : (if y < x then y else x) = min x y := by
    rw [Int.min_def]; split <;> split <;> omega
  rw [this]

theorem limit_c {w : World} {p : Nat} {F : List Nat} {D : DiskM} (h : Disk w p F D) (k : Int) (hk : k ≤ 9223372036854775807) {K : VPost} (hK : ∀ F' w', Disk w' p F' (D.limit k) → Mv F w F' w' → K (.tuple #[]) w') :
    Calls Try.prog 31 #[.pointer (some ⟨p, 0, none⟩), .int .i64 k] w (retK K) := by
  obtain ⟨bl, bs, zl, zs, pv, h, rfl⟩ := h
  refine c31_calls _ _ w K ?_
  unfold c31
  simp only [max_e, nilW_e]
  refine off_i (o := 0) (k := 3) (store1 (o := 0 + 3) h.hdr rfl (by simp) rfl fun w2 e2 hh2 hz2 => ?_)
  refine hK _ w2 ⟨bl, bs, zl, zs, pv, ⟨hh2, h.last.keep e2 (by simpa using Ne.symm h.ne1), h.seen.keep e2 (by simpa using Ne.symm h.ne2), h.pend.keep e2 (fun x hx => by simp; intro e; exact h.ne4 (e ▸ hx)),
    ⟨h.ok.llen, h.ok.slen, h.ok.plen, h.ok.n1, h.ok.n2, by show -1 ≤ max k (-1); omega, by show max k (-1) ≤ _; omega⟩, h.ne1, h.ne2, h.ne3, h.ne4, h.ne5, h.ne6⟩, rfl⟩ ⟨e2.mono (by intro x hx _; simp at hx; subst hx; simp), fun x hx => .inl hx⟩

/-- A sector. -/
def DiskM.read (D : DiskM) (i : Int) : Bytes × Int := if 0 ≤ i ∧ i < D.n then ((D.seen.drop (64 * i.toNat)).take 64, 0) else (List.replicate 64 0, 11)

theorem DiskM.read_length {D : DiskM} (h : D.ok) (i : Int) : (D.read i).1.length = 64 := by
  unfold DiskM.read
  split
  · have := h.slen; simp; omega
  · simp

theorem read_c {w : World} {p : Nat} {F : List Nat} {D : DiskM} (h : Disk w p F D) (i : Int) {K : VPost}
    (hK : ∀ w', Ext [] w w' → K (.tuple #[.agg (bc (D.read i).1).toArray, .int .i64 (D.read i).2]) w') :
    Calls Try.prog 33 #[.pointer (some ⟨p, 0, none⟩), .int .i64 i] w (retK K) := by
  refine c33_calls _ _ w K ?_
  unfold c33
  obtain ⟨ti, hi, hz, hsz, hby⟩ := tyI_spec ty_block
  have hz' : zeroO Try.prog 33 = some (.agg (Array.replicate 64 (.int .u8 0))) := by simp [zeroO, hi, hz]
  refine allocW_i hz' fun b1 w1 hb1 e1 h1 hs1 => ?_
  have hd1 := h.keep e1 (by simp)
  have hc1 : (Value.agg (Array.replicate 64 (.int .u8 0))).cells.toList = bc (List.replicate 64 0) := by rw [bc_zeros]; simp [Value.cells]
  rw [hc1] at h1
  refine fnW_of (by kernel_rfl) (there_c hd1 i ?_)
  simp only [not_e]
  refine cond_b (fun hc => ?_) (fun hc => ?_)
  · have hn : ¬ (0 ≤ i ∧ i < D.n) := by simp at hc; omega
    have hr : D.read i = (List.replicate 64 0, 11) := by unfold DiskM.read; rw [if_neg hn]
    rw [hr] at hK
    refine insW_ok (v := .agg (Array.replicate 64 (.int .u8 0))) (w' := w1) ?_ ?_
    · unfold Instr.build
      have hzr : (zeroValue 33).run Try.prog w1 = .ok (.agg (Array.replicate 64 (.int .u8 0))) w1 := by
        unfold zeroValue; simp only [Sem.run_bind, run_info hi, Result.andThen_ok, hz, Sem.run_pure]
      have hu : Try.prog.underlying 33 = some (.array 64 5) := by kernel_rfl
      obtain ⟨ui, hui, huz, husz, huby⟩ := tyI_spec ty_u8
      simp only [Sem.run_bind, hzr, Result.andThen_ok, run_und hu, run_size hui, Instr.fill, Sem.run_pure, Value.cells]
    · have e0 : (Value.agg (Array.replicate 64 (.int .u8 0))) = .agg (bc (List.replicate 64 0)).toArray := by rw [bc_zeros, List.toArray_replicate]
      rw [e0]
      refine storeAll h1 (by rw [bc_length]; simp) (by rw [bc_length]; simp) (bc_one _) fun w2 e2 h2 hs2 => ?_
      refine loadAll h2.r (by rw [bc_length]; simp) ?_
      exact hK w2 ((((Ext.refl [] w).new e1).step e2 (by intro x hx hlt; simp at hx; omega)))
  · have hn : 0 ≤ i ∧ i < D.n := by simpa using hc
    have hr : D.read i = ((D.seen.drop (64 * i.toNat)).take 64, 0) := by unfold DiskM.read; rw [if_pos hn]
    rw [hr] at hK
    have hlt := hd1.lt
    obtain ⟨bl, bs, zl, zs, pv, hh, rfl⟩ := hd1
    obtain ⟨q, rfl⟩ : ∃ q : Nat, i = q := ⟨i.toNat, by omega⟩
    simp only [nilW_e]
    have hsl := hh.ok.slen
    refine off_i (load1 (o := 0 + 1) hh.hdr.r rfl (idx_i (by omega) (PB.loadN hh.seen (by rw [bc_length]; omega) ?_)))
    rw [bc_part]
    simp only [Int.toNat_natCast, Nat.zero_add] at hK ⊢
    have hlen : (List.take 64 (List.drop (q * 64) D.seen)).length = 64 := by simp; omega
    refine storeAll h1 (by rw [bc_length, hlen]) (by rw [bc_length]; simp) (bc_one _) fun w2 e2 h2 hs2 => ?_
    refine loadAll h2.r (by rw [bc_length, hlen]) ?_
    rw [Nat.mul_comm q 64]
    exact hK w2 ((((Ext.refl [] w).new e1).step e2 (by intro x hx hlt; simp at hx; omega)))
end Go.Proofs.Ytedebapgmfnflaa
