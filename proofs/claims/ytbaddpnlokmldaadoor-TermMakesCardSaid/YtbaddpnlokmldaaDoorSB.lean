/- SHA-256: all contracts. Conditions: at most 2^36 bytes. -/
import Derived.Test.YtbaddpnlokmldaaDoorBB
import Derived.Test.YtbaddpnlokmldaaDoorCS
namespace Go.Proofs.YtbaddpnlokmldaaDoor
open Go
set_option maxRecDepth 100000

section
variable {P : Program} {S : List Nat} {w0 w : World} {L R : List Res} {K : VPost}
theorem idxA1 {b n i : Nat} {k : IntKind} (hi : i < n) (h : K (.pointer (some ⟨b, i, none⟩)) w) : idxW (some (some n, 1)) (.pointer (some ⟨b, 0, none⟩)) (.int k i) w K :=
  idxA_i hi (by rw [Nat.mul_one, Nat.zero_add]; exact h)
theorem Sep.ldw {b : Nat} {l : List UInt32} {t : TypeId} (s : Sep S w0 w L R) (i : Nat) (hL : L[i]? = some (rB b (uc l) t)) {k : Nat} (hk : k < l.length) (h : K (uv (l.getD k 0)) w) : loadW (some (false, 1)) (.pointer (some ⟨b, k, none⟩)) w K :=
  s.load1 i hL (uc_get hk) h
theorem Sep.stw {g : Bool} {b : Nat} {l : List UInt32} {t : TypeId} {x : UInt32} {K : World → Prop} (s : Sep S w0 w L R) (i : Nat) (hL : L[i]? = some (rB b (uc l) t)) {k : Nat} (hk : k < l.length)
    (h : ∀ w', Sep S w0 w' (L.set i (rB b (uc (l.set k x)) t)) R → K w') : storeW (some (g, 1)) (.pointer (some ⟨b, k, none⟩)) (uv x) w K :=
  s.store1 i hL rfl (by rw [uc_length]; exact hk) rfl fun w' s' _ => h w' (by rw [← uc_set]; exact s')
end

theorem rot_and : ∀ r : Fin 32, 0 < r.val → IntKind.u64.wrap (BitVec.ofInt IntKind.u64.bits (IntKind.u64.wrap (-(r.val : Int))) &&& BitVec.ofInt IntKind.u64.bits 31).toNat = ((32 - r.val : Nat) : Int) := by decide +kernel

theorem und_int : Tryd.prog.underlying 3 = some (.int .i64) := by kernel_rfl
theorem und_uint : Tryd.prog.underlying 83 = some (.int .u64) := by kernel_rfl
theorem und_u8 : Tryd.prog.underlying 5 = some (.int .u8) := by kernel_rfl
theorem und_u32 : Tryd.prog.underlying 101 = some (.int .u32) := by kernel_rfl

/-! ### Arrays of words -/
theorem cells_w8 : (Value.agg (Array.replicate 8 (.int .u32 0))).cells.toList = uc (List.replicate 8 0) := rfl
theorem cells_w64 : (Value.agg (Array.replicate 64 (.int .u32 0))).cells.toList = uc (List.replicate 64 0) := rfl

theorem build_words {w : World} {K : VPost} {t : TypeId} {n : Nat} {ti : TypeInfo} {parts : List (Nat × Value)} {l : List UInt32} (hu : Tryd.prog.underlying t = some (.array n 101)) (hi : Tryd.prog.info? t = some ti) (hz : ti.zero = some (.agg (Array.replicate n (.int .u32 0))))
    (hf : fillA 1 (List.replicate n (Value.int .u32 0)) parts = some (uc l)) (h : K (.agg (uc l).toArray) w) : insW Tryd.prog (Instr.build t parts.toArray) w K := by
  obtain ⟨ui, hui, huz, husz, huby⟩ := tyI_spec (by kernel_rfl : tyI Tryd.prog 101 = some (.int .u32 0, 1, 4))
  refine buildA_i hu hi hz hui ?_ h
  rw [husz]
  simpa [Value.cells] using hf
theorem set_mid {α : Type} (a : List α) (x y : α) (r : List α) (n : Nat) (h : a.length = n) : (a ++ x :: r).set n y = a ++ y :: r := by
  subst h
  rw [List.set_append_right _ _ (Nat.le_refl _), Nat.sub_self, List.set_cons_zero]
theorem get_mid {α : Type} (a : List α) (x : α) (r : List α) (n : Nat) (h : a.length = n) : (a ++ x :: r)[n]? = some x := by
  subst h
  rw [List.getElem?_append_right (Nat.le_refl _), Nat.sub_self]; rfl
theorem get_left (a r : List UInt32) (n : Nat) (h : n < a.length) : (uc (a ++ r))[n]? = some (uv (a.getD n 0)) := by
  rw [uc_append, List.getElem?_append_left (by rw [uc_length]; exact h), uc_get h]

def accW (b : Bytes) (t : Nat) : Nat → UInt32
  | 0 => 0
  | j + 1 => accW b t j <<< 8 ||| u8w (b.getD (4 * t + j) 0)
theorem accW_word (b : Bytes) (t : Nat) : accW b t 4 = word b t := by
  unfold accW accW accW accW accW word
  rw [zero_shl, Nat.add_zero]

theorem rnds_8 (ws : List UInt32) (t : Nat) (s : St) : (rnds ws t s).list.length = 8 := rfl
theorem zip_step (st l : List UInt32) (i : Nat) (h : i < st.length) (h' : i < l.length) :
    (((List.zipWith (· + ·) st l).take i ++ st.drop i).set i (st.getD i 0 + l.getD i 0)) = (List.zipWith (· + ·) st l).take (i + 1) ++ st.drop (i + 1) := by
  have hz : i < (List.zipWith (· + ·) st l).length := by simp; omega
  have hl : ((List.zipWith (· + ·) st l).take i).length = i := by simp; omega
  rw [List.drop_eq_getElem_cons h, set_mid _ _ _ _ i hl, List.take_succ_eq_append_getElem hz]
  simp [List.getD_eq_getElem?_getD, h, h']
theorem zip_get (st l : List UInt32) (i : Nat) (h : i < st.length) (h' : i < l.length) : ((List.zipWith (· + ·) st l).take i ++ st.drop i).getD i 0 = st.getD i 0 := by
  have hl : ((List.zipWith (· + ·) st l).take i).length = i := by simp; omega
  rw [List.getD_eq_getElem?_getD, List.getElem?_append_right (by omega), hl, Nat.sub_self, List.getElem?_drop, List.getD_eq_getElem?_getD, Nat.add_zero]

theorem fill_w8 (a b c d e f g h : UInt32) : fillA 1 (List.replicate 8 (Value.int .u32 0)) [(0, uv a), (1, uv b), (2, uv c), (3, uv d), (4, uv e), (5, uv f), (6, uv g), (7, uv h)] = some (uc [a, b, c, d, e, f, g, h]) := by kernel_rfl

def hcells (m : HM) (rv : Value) : List Value := uc m.st ++ [rv, .int .i64 m.n]
section
variable {m : HM} {rv : Value} (h : m.st.length = 8)
include h
theorem hc_len : (hcells m rv).length = 10 := by simp [hcells, uc_length, h]
theorem hc_8 : (hcells m rv)[8]? = some rv := by
  unfold hcells; rw [List.getElem?_append_right (by rw [uc_length]; omega), uc_length, h]; rfl
theorem hc_9 : (hcells m rv)[9]? = some (.int .i64 m.n) := by
  unfold hcells; rw [List.getElem?_append_right (by rw [uc_length]; omega), uc_length, h]; rfl
theorem hc_st : ((hcells m rv).drop 0).take 8 = uc m.st := by
  unfold hcells; rw [List.drop_zero, List.take_append_of_le_length (by rw [uc_length]; omega), List.take_of_length_le (by rw [uc_length]; omega)]
theorem hc_s8 (rv' : Value) : (hcells m rv).set 8 rv' = hcells m rv' := by
  unfold hcells; rw [List.set_append_right _ _ (by rw [uc_length]; omega), uc_length, h]; rfl
theorem hc_s9 (n : Nat) : (hcells m rv).set 9 (.int .i64 n) = hcells { m with n := n } rv := by
  unfold hcells; rw [List.set_append_right _ _ (by rw [uc_length]; omega), uc_length, h]; rfl
theorem hc_spl (st : List UInt32) (hs : st.length = 8) : lspl (hcells m rv) 0 (uc st) = hcells { m with st := st } rv := by
  unfold hcells lspl
  rw [List.take_zero, List.nil_append, Nat.zero_add, uc_length, hs, List.drop_append_of_le_length (by rw [uc_length]; omega), List.drop_of_length_le (by rw [uc_length]; omega), List.nil_append]
end

theorem absorb_snoc (j : Nat) : ∀ (s : List UInt32) (x : Bytes), 64 * (j + 1) ≤ x.length → absorb (j + 1) s x = compress (absorb j s x) ((x.drop (64 * j)).take 64) := by
  induction j with
  | zero => intro s x _; rfl
  | succ j ih =>
    intro s x h
    show absorb (j + 1) (compress s (x.take 64)) (x.drop 64) = compress (absorb j (compress s (x.take 64)) (x.drop 64)) _
    rw [ih _ _ (by rw [List.length_drop]; omega), List.drop_drop, show 64 + 64 * j = 64 * (j + 1) by omega]

theorem slArr0 {b n sz : Nat} {w : World} {K : VPost} (h : K (.slice (some ⟨b, 0, none⟩) n n) w) : sliceW (.arr n sz) (.pointer (some ⟨b, 0, none⟩)) none none none w K := slArr_i h

theorem Blk.rdAll {w : World} {b n : Nat} {cs : List Value} {t : TypeId} (h : Blk w b cs t) (hn : cs.length = n) : RdSl w (.slice (some ⟨b, 0, none⟩) n n) 1 cs n :=
  ⟨by rw [hn, Nat.mul_one], .inr ⟨b, 0, n, cs, rfl, h.r, by rw [List.drop_zero, List.take_of_length_le (by rw [hn, Nat.mul_one]; exact Nat.le_refl _)], by rw [hn]; omega⟩⟩

/-! ### What stands behind -/
theorem be8_range (x : Nat) : be8 x = (List.range 8).map fun j => UInt8.ofNat (x >>> (56 - 8 * j)) := rfl
theorem be8_step (x j : Nat) (h : j < 8) : (be8 x).take (j + 1) = (be8 x).take j ++ [UInt8.ofNat (x >>> (56 - 8 * j))] := by
  have hl : j < (be8 x).length := by rw [be8_length]; exact h
  rw [List.take_succ_eq_append_getElem hl]
  congr 2
  simp [be8_range]

theorem flat_one (v : Value) (h : v.cells = #[v]) : flatV [v] = [v] := by simp [flatV, h]
theorem bv_cells (b : UInt8) : (bv b).cells = #[bv b] := rfl

/-! ### A hash made -/
theorem fill_hash {Z : List Value} (hZ : Z.length = 10) (st : List UInt32) (hst : st.length = 8) (v : Value) (hv : v.cells = #[v]) (n : Nat) :
    fillL [(0, 8), (8, 1), (9, 1)] Z [(0, .agg (uc st).toArray), (1, v), (2, .int .i64 n)] = some (uc st ++ [v, .int .i64 n]) := by
  have h1 : (Value.agg (uc st).toArray).cells = (uc st).toArray := rfl
  have h2 : (Value.int .i64 (n : Int)).cells = #[.int .i64 n] := rfl
  have hu : (uc st).length = 8 := by rw [uc_length]; exact hst
  have l1 : (lspl Z 0 (uc st)).length = 10 := by rw [lspl_length (by omega)]; exact hZ
  have l2 : (lspl (lspl Z 0 (uc st)) 8 [v]).length = 10 := by rw [lspl_length (by simp; omega)]; exact l1
  have e1 := lspl_lspl Z 0 (uc st) [v] (by simp; omega)
  rw [hu, Nat.zero_add] at e1
  have e2 := lspl_lspl Z 0 (uc st ++ [v]) [.int .i64 n] (by simp; omega)
  rw [List.length_append, hu, Nat.zero_add, ← e1] at e2
  have e3 : lspl Z 0 (uc st ++ [v] ++ [.int .i64 n]) = uc st ++ [v, .int .i64 n] := by
    unfold lspl
    rw [List.drop_of_length_le (by simp; omega)]
    simp
  rw [e3] at e2
  simp [fillL, h1, h2, hv, hu, hZ, l1, l2]
  exact e2
theorem fill_hash0 {Z : List Value} (hZ : Z.length = 10) (st : List UInt32) (hst : st.length = 8) :
    fillL [(0, 8), (8, 1), (9, 1)] Z [(0, .agg (uc st).toArray)] = some (uc st ++ Z.drop 8) := by
  have h1 : (Value.agg (uc st).toArray).cells = (uc st).toArray := rfl
  have hu : (uc st).length = 8 := by rw [uc_length]; exact hst
  simp [fillL, h1, hu, hZ, lspl]

def hashZ : List Value := List.replicate 8 (.int .u32 0) ++ [.slice none 0 0, .int .i64 0]
/-- One row, written as such. -/
theorem rows_one {w : World} {t : Value} {x : Value} {b : Bytes} (ht : RdSl w t 1 [x] 1) (hx : RdSl w x 1 (bc b) b.length) (hc : capOk x) : RowsR w t [x] [b] := ⟨ht, ⟨hx, hc⟩, trivial⟩

theorem cells_dig : (Value.agg (Array.replicate 32 (.int .u8 0))).cells.toList = bc (List.replicate 32 0) := rfl

theorem outM_step (s : List UInt32) (i : Nat) (h : i < 32) : ((outM s).take i ++ List.replicate (32 - i) 0).set i (UInt8.ofNat ((s.getD (i / 4) 0).toNat >>> (24 - 8 * (i % 4)))) = (outM s).take (i + 1) ++ List.replicate (32 - (i + 1)) 0 := by
  have hl : ((outM s).take i).length = i := by rw [List.length_take, outM_length]; omega
  have hr : List.replicate (32 - i) (0 : UInt8) = 0 :: List.replicate (32 - (i + 1)) 0 := by rw [show 32 - i = (32 - (i + 1)) + 1 by omega, List.replicate_succ]
  have hlt : i < (outM s).length := by rw [outM_length]; exact h
  rw [hr, set_mid _ _ _ _ i hl, List.take_succ_eq_append_getElem hlt, List.append_assoc]
  congr 2
  simp [outM]

end Go.Proofs.YtbaddpnlokmldaaDoor
