/- SHA-256: all contracts. Conditions: at most 2^36 bytes. -/
import Derived.Test.YtedebapgmfnflaaDoorBB
import Derived.Test.YtedebapgmfnflaaDoorCS
namespace Go.Proofs.YtedebapgmfnflaaDoor
open Go
set_option maxRecDepth 100000

section
variable {P : Program} {S : List Nat} {w0 w : World} {L R : List Res} {K : VPost}
theorem idxA1 {b n i : Nat} {k : IntKind} (hi : i < n) (h : K (.pointer (some ⟨b, i, none⟩)) w) : idxW (some (some n, 1)) (.pointer (some ⟨b, 0, none⟩)) (.int k i) w K :=
  idxA_i hi (by rw [Nat.mul_one, Nat.zero_add]; exact h)
theorem Sep.ldw {b : Nat} {l : List UInt32} {t : TypeId} (s : Sep S w0 w L R) (i : Nat) (hL : L[i]? = some (rB b (uc l) t)) {k : Nat} (hk : k < l.length) (h : K (uv (l.getD k 0)) w) : loadW (some (false, 1)) (.pointer (some ⟨b, k, none⟩)) w K :=
  s.load1 i hL (uc_get hk) h
theorem Sep.stw {g : Bool} {b : Nat} {l : List UInt32} {t : TypeId} {x : UInt32} {K : World → Prop} (s : Sep S w0 w L R) (i : Nat) (hL : L[i]? = some (rB b (uc l) t)) {k : Nat} (hk : k < l.length)
    (h : ∀ w', Sep S w0 w' (L.set i (rB b (uc (l.set k x)) t)) R → K w') : storeW (some (g, 1)) (.pointer (some ⟨b, k, none⟩)) (uv x) w K :=
  s.store1 i hL rfl (by rw [uc_length]; exact hk) rfl fun w' s' _ => h w' (by rw [← uc_set]; exact s')
end

theorem rot_and : ∀ r : Fin 32, 0 < r.val → IntKind.u64.wrap (BitVec.ofInt IntKind.u64.bits (IntKind.u64.wrap (-(r.val : Int))) &&& BitVec.ofInt IntKind.u64.bits 31).toNat = ((32 - r.val : Nat) : Int) := by decide +kernel

theorem und_int : Tryd.prog.underlying 3 = some (.int .i64) := by kernel_rfl
theorem und_uint : Tryd.prog.underlying 172 = some (.int .u64) := by kernel_rfl
theorem und_u8 : Tryd.prog.underlying 5 = some (.int .u8) := by kernel_rfl
theorem und_u32 : Tryd.prog.underlying 168 = some (.int .u32) := by kernel_rfl

/-- A word turned. -/
theorem rot_c {w : World} {K : VPost} (x : UInt32) (r : Nat) (h0 : 0 < r) (h1 : r < 32) (hK : K (uv (rr x r)) w) : Calls Tryd.prog 235 #[uv x, .int .i64 (-(r : Int))] w (retK K) := by
  refine c235_calls _ _ w K ?_
  unfold c235
  rw [convN_i und_int und_uint, binN_e, bin_and, rot_and ⟨r, h1⟩ h0]
  simp only
  rw [u32_shl (show 32 - r < 32 by omega), binN_e, bin_sub, wrap_u64]
  have : ((32 : Int) - ((32 - r : Nat) : Int)) % 18446744073709551616 = (r : Int) := by omega
  rw [this, u32_shr h1, u32_or]
  exact hK

theorem mix_c {w : World} {K : VPost} (x l : UInt32) (a b : Nat) (ha0 : 0 < a) (ha1 : a < 32) (hb0 : 0 < b) (hb1 : b < 32) (hK : K (uv (rr x a ^^^ rr x b ^^^ l)) w) :
    Calls Tryd.prog 234 #[uv x, .int .i64 a, .int .i64 b, uv l] w (retK K) := by
  refine c234_calls _ _ _ _ w K ?_
  unfold c234
  rw [negN, i64_self (by omega)]
  refine fnW_of (by kernel_rfl) (rot_c x a ha0 ha1 ?_)
  rw [negN, i64_self (by omega)]
  refine fnW_of (by kernel_rfl) (rot_c x b hb0 hb1 ?_)
  rw [u32_xor, u32_xor]
  exact hK

/-! ### Arrays of words -/
theorem zero_w8 : zeroO Tryd.prog 169 = some (.agg (Array.replicate 8 (.int .u32 0))) := by kernel_rfl
theorem zero_w64 : zeroO Tryd.prog 258 = some (.agg (Array.replicate 64 (.int .u32 0))) := by kernel_rfl
theorem cells_w8 : (Value.agg (Array.replicate 8 (.int .u32 0))).cells.toList = uc (List.replicate 8 0) := rfl
theorem cells_w64 : (Value.agg (Array.replicate 64 (.int .u32 0))).cells.toList = uc (List.replicate 64 0) := rfl

theorem build_words {w : World} {K : VPost} {t : TypeId} {n : Nat} {ti : TypeInfo} {parts : List (Nat × Value)} {l : List UInt32} (hu : Tryd.prog.underlying t = some (.array n 168)) (hi : Tryd.prog.info? t = some ti) (hz : ti.zero = some (.agg (Array.replicate n (.int .u32 0))))
    (hf : fillA 1 (List.replicate n (Value.int .u32 0)) parts = some (uc l)) (h : K (.agg (uc l).toArray) w) : insW Tryd.prog (Instr.build t parts.toArray) w K := by
  obtain ⟨ui, hui, huz, husz, huby⟩ := tyI_spec (by kernel_rfl : tyI Tryd.prog 168 = some (.int .u32 0, 1, 4))
  refine buildA_i hu hi hz hui ?_ h
  rw [husz]
  simpa [Value.cells] using hf
theorem build_w8 {w : World} {K : VPost} {parts : List (Nat × Value)} {l : List UInt32} (hf : fillA 1 (List.replicate 8 (Value.int .u32 0)) parts = some (uc l)) (h : K (.agg (uc l).toArray) w) : insW Tryd.prog (Instr.build 169 parts.toArray) w K := by
  obtain ⟨ti, hi, hz, hs, hb⟩ := tyI_spec (by kernel_rfl : tyI Tryd.prog 169 = some (.agg (Array.replicate 8 (.int .u32 0)), 8, 32))
  exact build_words (by kernel_rfl) hi hz hf h
theorem build_w64 {w : World} {K : VPost} {parts : List (Nat × Value)} {l : List UInt32} (hf : fillA 1 (List.replicate 64 (Value.int .u32 0)) parts = some (uc l)) (h : K (.agg (uc l).toArray) w) : insW Tryd.prog (Instr.build 258 parts.toArray) w K := by
  obtain ⟨ti, hi, hz, hs, hb⟩ := tyI_spec (by kernel_rfl : tyI Tryd.prog 258 = some (.agg (Array.replicate 64 (.int .u32 0)), 64, 256))
  exact build_words (by kernel_rfl) hi hz hf h

theorem first_c {w : World} {K : VPost} (hK : ∀ w', Ext [] w w' → K (.agg (uc shaH).toArray) w') : Calls Tryd.prog 198 #[] w (retK K) := by
  refine c198_calls w K ?_
  unfold c198
  refine (Sep.nil w).alloc zero_w8 cells_w8 fun b w1 s _ => ?_
  refine build_w8 (l := shaH) (by kernel_rfl) ?_
  refine s.storeAll 0 rfl rfl rfl (uc_one _) fun w2 s _ => s.loadAll 0 rfl rfl ?_
  exact hK w2 s.ext

theorem constants_c {w : World} {K : VPost} (hK : ∀ w', Ext [] w w' → K (.agg (uc shaK).toArray) w') : Calls Tryd.prog 232 #[] w (retK K) := by
  refine c232_calls w K ?_
  unfold c232
  refine (Sep.nil w).alloc zero_w64 cells_w64 fun b w1 s _ => ?_
  refine build_w64 (l := shaK) (by kernel_rfl) ?_
  refine s.storeAll 0 rfl rfl rfl (uc_one _) fun w2 s _ => s.loadAll 0 rfl rfl ?_
  exact hK w2 s.ext

theorem set_mid {α : Type} (a : List α) (x y : α) (r : List α) (n : Nat) (h : a.length = n) : (a ++ x :: r).set n y = a ++ y :: r := by
  subst h
  rw [List.set_append_right _ _ (Nat.le_refl _), Nat.sub_self, List.set_cons_zero]
theorem get_mid {α : Type} (a : List α) (x : α) (r : List α) (n : Nat) (h : a.length = n) : (a ++ x :: r)[n]? = some x := by
  subst h
  rw [List.getElem?_append_right (Nat.le_refl _), Nat.sub_self]; rfl
theorem get_left (a r : List UInt32) (n : Nat) (h : n < a.length) : (uc (a ++ r))[n]? = some (uv (a.getD n 0)) := by
  rw [uc_append, List.getElem?_append_left (by rw [uc_length]; exact h), uc_get h]

def accW (b : Bytes) (t : Nat) : Nat → UInt32
  | 0 => 0
  | j + 1 => accW b t j <<< 8 ||| u8w (b.getD (4 * t + j) 0)
theorem accW_word (b : Bytes) (t : Nat) : accW b t 4 = word b t := by
  unfold accW accW accW accW accW word
  rw [zero_shl, Nat.add_zero]

theorem schedule_c {w : World} {K : VPost} {v : Value} {blk : Bytes} (hb : RdSl w v 1 (bc blk) 64) (hcap : capOk v) (hK : ∀ w', Ext [] w w' → K (.agg (uc (sched blk 64)).toArray) w') :
    Calls Tryd.prog 233 #[v] w (retK K) := by
  have hbl : blk.length = 64 := by have := hb.1; rw [bc_length] at this; omega
  refine c233_calls _ w K ?_
  unfold c233
  refine ((Sep.nil w).addR (T := rR v 1 (bc blk) 64) hb (by simp)).alloc zero_w64 cells_w64 fun b w1 s _ => ?_
  refine bindX_i fun J0 h0 => bindX_i fun J1 h1 => bindX_i fun J2 h2 => ?_
  refine loop_i (fun m fr wr => ∃ t : Nat, m = 64 - t ∧ t ≤ 64 ∧ fr 0 = v ∧ fr 2 = .pointer (some ⟨b, 0, none⟩) ∧ fr 8 = .int .i64 t ∧
    Sep [] w wr [rB b (uc (sched blk t ++ List.replicate (64 - t) 0)) 258] [rR v 1 (bc blk) 64]) 64 ?_ ?_
  · exact ⟨0, rfl, by omega, rfl, rfl, rfl, s⟩
  · rintro m fr wr J ⟨t, rfl, ht, f0, f2, f8, s⟩ hJ hX
    rw [f8]
    refine nlss (x := t) (y := 64) ?_
    refine cond_d (fun hlt => ?_) (fun hlt => ?_)
    · refine bindX_i fun J3 h3 => bindX_i fun J4 h4 => bindX_i fun J5 h5 => ?_
      have hsl := sched_length blk t
      have hrep : List.replicate (64 - t) (0 : UInt32) = 0 :: List.replicate (63 - t) 0 := by rw [show 64 - t = (63 - t) + 1 by omega, List.replicate_succ]
      rw [hrep] at s
      -- the round's end
      have fin : ∀ (fr : Fr) (wr : World), fr 0 = v → fr 2 = .pointer (some ⟨b, 0, none⟩) → fr 8 = .int .i64 t → Sep [] w wr [rB b (uc (sched blk (t + 1) ++ List.replicate (63 - t) 0)) 258] [rR v 1 (bc blk) 64] → J3 .normal fr wr := by
        intro fr wr f0 f2 f8 s
        refine seq_n h3 ?_
        rw [f8]
        refine nadd (x := t) (y := 1) (by omega) ?_
        exact hJ (64 - (t + 1)) _ _ (by omega) ⟨t + 1, rfl, by omega, f0, f2, rfl, by rwa [show 64 - (t + 1) = 63 - t by omega]⟩
      refine nlss (x := t) (y := 16) (cond_d (fun h16 => ?_) (fun h16 => ?_))
      · refine bindX_i fun J6 h6 => ?_
        refine nmul (x := 4) (y := t) (by omega) (nmul (x := 4) (y := t) (by omega) (nadd (x := 4 * t) (y := 4) (by omega) ?_))
        rw [f0]
        refine RdSl.cut (l := 4 * t) (h := 4 * t + 4) (s.rat 0 rfl) hcap rfl rfl (by omega) (by omega) fun v' hv' hc' hs' hf' => ?_
        have hpart : (List.take ((4 * t + 4 - 4 * t) * 1) (List.drop (4 * t * 1) (bc blk))) = bc ((blk.drop (4 * t)).take 4) := by
          rw [bc_part, Nat.mul_one, Nat.mul_one, show 4 * t + 4 - 4 * t = 4 by omega]
        have hl4 : ((blk.drop (4 * t)).take 4).length = 4 := by rw [List.length_take, List.length_drop]; omega
        rw [hpart, show 4 * t + 4 - 4 * t = 4 by omega] at hv'
        rw [hpart] at hf'
        have s := s.part (T := rR v' 1 (bc ((blk.drop (4 * t)).take 4)) 4) (U := rR v 1 (bc blk) 64) (by simp) hv' hf'
        obtain ⟨va, vc, hva⟩ := hv'.len
        have hlen : ∀ (w : World) (K : VPost), lenW Tryd.prog (some true) #[22] 3 #[v'] w K = K (.int .i64 (4 : Nat)) w := fun w K => by rw [hva, len_s]
        rw [hlen]
        refine bindX_i fun J7 h7 => ?_
        refine loop_i (fun m fr wr => ∃ j : Nat, m = 4 - j ∧ j ≤ 4 ∧ fr 0 = v ∧ fr 2 = .pointer (some ⟨b, 0, none⟩) ∧ fr 8 = .int .i64 t ∧ fr 3 = .int .i64 t ∧ fr 19 = v' ∧ fr 20 = .int .i64 (4 : Nat) ∧ fr 21 = .int .i64 j ∧
          Sep [] w wr [rB b (uc (sched blk t ++ accW blk t j :: List.replicate (63 - t) 0)) 258] [rR v' 1 (bc ((blk.drop (4 * t)).take 4)) 4, rR v 1 (bc blk) 64]) 4 ?_ ?_
        · exact ⟨0, rfl, by omega, f0, f2, f8, rfl, rfl, rfl, rfl, s⟩
        · rintro m fr wr I ⟨j, rfl, hj, g0, g2, g8, g3, g19, g20, g21, s⟩ hI hY
          rw [g20, g21]
          refine nlss (x := j) (y := 4) (cond_d (fun hj4 => ?_) (fun hj4 => ?_))
          · rw [g19, g2, g3]
            obtain ⟨pb, po, hix, hld⟩ := RdSl.at1 (s.rat 0 rfl) (i := j) (by rw [hl4]; exact hj4) .i64
            refine hix _ (hld _ ?_)
            have hget : ((blk.drop (4 * t)).take 4).getD j 0 = blk.getD (4 * t + j) 0 := by
              simp only [List.getD_eq_getElem?_getD, List.getElem?_take, hj4, if_true, List.getElem?_drop]
            rw [hget]
            have hl64 : (sched blk t ++ accW blk t j :: List.replicate (63 - t) 0).length = 64 := by simp [hsl]; omega
            have hg : (sched blk t ++ accW blk t j :: List.replicate (63 - t) 0).getD t 0 = accW blk t j := by rw [List.getD_eq_getElem?_getD, get_mid _ _ _ t hsl]; rfl
            refine idxA1 hlt (s.ldw 0 rfl (by omega) ?_)
            rw [hg, show ((8 : Int)) = ((8 : Nat) : Int) from rfl, u32_shl (show 8 < 32 by decide), conv_u8w und_u8 und_u32, u32_or]
            refine idxA1 hlt (s.stw 0 rfl (by omega) fun w2 s => ?_)
            rw [set_mid _ _ _ _ t hsl] at s
            have s : Sep [] w w2 [rB b (uc (sched blk t ++ accW blk t (j + 1) :: List.replicate (63 - t) 0)) 258] _ := s
            refine nadd (x := j) (y := 1) (by omega) ?_
            exact hI (4 - (j + 1)) _ _ (by omega) ⟨j + 1, rfl, by omega, g0, g2, g8, g3, g19, g20, rfl, s⟩
          · obtain rfl : j = 4 := by omega
            rw [accW_word] at s
            refine hY _ _ _ (by simp) (h7 _ _ _ (blk_x (seq_n h6 (fin _ _ g0 g2 g8 ?_))))
            have s := s.sub (L' := [rB b (uc (sched blk t ++ word blk t :: List.replicate (63 - t) 0)) 258]) (R' := [rR v 1 (bc blk) 64]) (List.Sublist.refl _) (by simp)
            have e : sched blk (t + 1) ++ List.replicate (63 - t) 0 = sched blk t ++ word blk t :: List.replicate (63 - t) 0 := by simp [sched, wAt, h16]
            rw [e]; exact s
      · have far : ∀ (fr : Fr) (wr : World), fr 0 = v → fr 2 = .pointer (some ⟨b, 0, none⟩) → fr 8 = .int .i64 t → fr 3 = .int .i64 t → Sep [] w wr [rB b (uc (sched blk t ++ 0 :: List.replicate (63 - t) 0)) 258] [rR v 1 (bc blk) 64] → J5 .normal fr wr := by
          intro fr wr f0 f2 f8 f3 s
          refine seq_n h5 ?_
          rw [f2, f3]
          have s := s.drew
          generalize wr.drew = wr at *
          have hl64 : (sched blk t ++ 0 :: List.replicate (63 - t) 0).length = 64 := by simp [hsl]; omega
          have hg : ∀ k, k < t → (sched blk t ++ 0 :: List.replicate (63 - t) 0).getD k 0 = (sched blk t).getD k 0 := by
            intro k hk
            rw [List.getD_eq_getElem?_getD, List.getElem?_append_left (by omega), List.getD_eq_getElem?_getD]
          refine nsub (x := t) (y := 15) (by omega) (by omega) (idxA1 (by omega) (s.ldw 0 rfl (by omega) ?_))
          refine nsub (x := t) (y := 2) (by omega) (by omega) (idxA1 (by omega) (s.ldw 0 rfl (by omega) ?_))
          have s := s.drew
          generalize wr.drew = wr at *
          refine nsub (x := t) (y := 16) (by omega) (by omega) (idxA1 (by omega) (s.ldw 0 rfl (by omega) ?_))
          rw [show ((3 : Int)) = ((3 : Nat) : Int) from rfl, u32_shr (show 3 < 32 by decide)]
          refine nsub (x := t) (y := 7) (by omega) (by omega) (idxA1 (by omega) (s.ldw 0 rfl (by omega) ?_))
          rw [show ((10 : Int)) = ((10 : Nat) : Int) from rfl, u32_shr (show 10 < 32 by decide)]
          refine fnW_of (by kernel_rfl) (mix_c _ _ 7 18 (by decide) (by decide) (by decide) (by decide) ?_)
          refine ⟨s.ldw 0 rfl (by omega) ⟨rfl, rfl⟩, s.ldw 0 rfl (by omega) ⟨rfl, rfl⟩, ?_⟩
          rw [u32_add, u32_add]
          refine fnW_of (by kernel_rfl) (mix_c _ _ 17 19 (by decide) (by decide) (by decide) (by decide) ?_)
          refine ⟨s.ldw 0 rfl (by omega) ⟨rfl, rfl⟩, s.ldw 0 rfl (by omega) ⟨rfl, rfl⟩, ?_⟩
          rw [u32_add]
          rw [hg _ (by omega), hg _ (by omega), hg _ (by omega), hg _ (by omega)]
          refine idxA1 hlt (s.stw 0 rfl (by omega) fun w2 s => ?_)
          rw [set_mid _ _ _ _ t hsl] at s
          refine fin _ _ f0 f2 f8 ?_
          have e : sched blk (t + 1) ++ List.replicate (63 - t) 0 = sched blk t ++ wNext (sched blk t) t :: List.replicate (63 - t) 0 := by simp [sched, wAt, h16]
          rw [e]
          exact s
        exact far _ _ f0 f2 f8 rfl s
    · obtain rfl : t = 64 := by omega
      refine hX _ _ _ (by simp) (h2 _ _ _ (blk_x ?_))
      have tail : ∀ (fr : Fr) (wr : World), fr 2 = .pointer (some ⟨b, 0, none⟩) → Sep [] w wr [rB b (uc (sched blk 64 ++ List.replicate (64 - 64) 0)) 258] [rR v 1 (bc blk) 64] → J1 .normal fr wr := ?_
      · exact tail _ _ f2 s
      intro fr wr f2 s
      refine seq_n h1 ?_
      rw [f2]
      have hc : (uc (sched blk 64 ++ List.replicate (64 - 64) 0)) = uc (sched blk 64) := by simp
      rw [hc] at s
      have hl : (uc (sched blk 64)).length = 64 := by rw [uc_length, sched_length]
      refine s.loadAll 0 rfl hl (s.storeAll 0 rfl hl hl (uc_one _) fun w2 s _ => s.loadAll 0 rfl hl ?_)
      exact hK w2 s.ext

theorem rnds_8 (ws : List UInt32) (t : Nat) (s : St) : (rnds ws t s).list.length = 8 := rfl
theorem zip_step (st l : List UInt32) (i : Nat) (h : i < st.length) (h' : i < l.length) :
    (((List.zipWith (· + ·) st l).take i ++ st.drop i).set i (st.getD i 0 + l.getD i 0)) = (List.zipWith (· + ·) st l).take (i + 1) ++ st.drop (i + 1) := by
  have hz : i < (List.zipWith (· + ·) st l).length := by simp; omega
  have hl : ((List.zipWith (· + ·) st l).take i).length = i := by simp; omega
  rw [List.drop_eq_getElem_cons h, set_mid _ _ _ _ i hl, List.take_succ_eq_append_getElem hz]
  simp [List.getD_eq_getElem?_getD, h, h']
theorem zip_get (st l : List UInt32) (i : Nat) (h : i < st.length) (h' : i < l.length) : ((List.zipWith (· + ·) st l).take i ++ st.drop i).getD i 0 = st.getD i 0 := by
  have hl : ((List.zipWith (· + ·) st l).take i).length = i := by simp; omega
  rw [List.getD_eq_getElem?_getD, List.getElem?_append_right (by omega), hl, Nat.sub_self, List.getElem?_drop, List.getD_eq_getElem?_getD, Nat.add_zero]

theorem fill_w8 (a b c d e f g h : UInt32) : fillA 1 (List.replicate 8 (Value.int .u32 0)) [(0, uv a), (1, uv b), (2, uv c), (3, uv d), (4, uv e), (5, uv f), (6, uv g), (7, uv h)] = some (uc [a, b, c, d, e, f, g, h]) := by kernel_rfl

set_option maxHeartbeats 1000000 in
theorem compress_c {w : World} {K : VPost} {v : Value} {blk : Bytes} {st : List UInt32} (hst : st.length = 8) (hb : RdSl w v 1 (bc blk) 64) (hcap : capOk v) (hK : ∀ w', Ext [] w w' → K (.agg (uc (compress st blk)).toArray) w') :
    Calls Tryd.prog 222 #[.agg (uc st).toArray, v] w (retK K) := by
  refine c222_calls _ _ w K ?_
  unfold c222
  have hsl := sched_length blk 64
  have hus : (uc st).length = 8 := by rw [uc_length]; exact hst
  refine ((Sep.nil w).addR (T := rR v 1 (bc blk) 64) hb (by simp)).box fun b2 w1 s _ => ?_
  refine s.alloc zero_w8 cells_w8 fun b4 w2 s _ => ?_
  refine fnW_of (by kernel_rfl) (constants_c fun w3 e => ?_)
  have s := s.ext0 e
  refine fnW_of (by kernel_rfl) (schedule_c (s.rat 0 rfl) hcap fun w4 e => ?_)
  have s := s.ext0 e
  refine s.alloc zero_w64 cells_w64 fun b5 w5 s _ => s.alloc zero_w64 cells_w64 fun b6 w6 s _ => ?_
  have hus64 : (uc (sched blk 64)).length = 64 := by rw [uc_length, hsl]
  refine s.storeAll 1 rfl rfl rfl (uc_one _) fun w7 s _ => s.storeAll 0 rfl hus64 rfl (uc_one _) fun w8 s _ => ?_
  have s : Sep [] w w8 [rB b6 (uc (sched blk 64)) 258, rB b5 (uc shaK) 258, rB b4 (uc (List.replicate 8 0)) 169, rB b2 (uc st) 169] [rR v 1 (bc blk) 64] := s
  have s := s.drew
  generalize w8.drew = w9 at *
  refine idxA1 (i := 0) (by decide) ?_
  refine s.ldw 3 rfl (by omega) ?_
  refine idxA1 (i := 1) (by decide) ?_
  refine s.ldw 3 rfl (by omega) ?_
  refine idxA1 (i := 2) (by decide) ?_
  refine s.ldw 3 rfl (by omega) ?_
  refine idxA1 (i := 3) (by decide) ?_
  refine s.ldw 3 rfl (by omega) ?_
  refine idxA1 (i := 4) (by decide) ?_
  refine s.ldw 3 rfl (by omega) ?_
  refine idxA1 (i := 5) (by decide) ?_
  refine s.ldw 3 rfl (by omega) ?_
  refine idxA1 (i := 6) (by decide) ?_
  refine s.ldw 3 rfl (by omega) ?_
  refine idxA1 (i := 7) (by decide) ?_
  refine s.ldw 3 rfl (by omega) ?_
  refine bindX_i fun J0 h0 => bindX_i fun J1 h1 => bindX_i fun J2 h2 => ?_
  -- behind the rounds
  have tail : ∀ (fr : Fr) (wr : World) (q : St), q = rnds (sched blk 64) 64 (St.ofL st) → fr 2 = .pointer (some ⟨b2, 0, none⟩) → fr 4 = .pointer (some ⟨b4, 0, none⟩) → fr 7 = uv q.a → fr 8 = uv q.b → fr 9 = uv q.c → fr 10 = uv q.d → fr 11 = uv q.e → fr 12 = uv q.f → fr 13 = uv q.g → fr 14 = uv q.h →
      Sep [] w wr [rB b6 (uc (sched blk 64)) 258, rB b5 (uc shaK) 258, rB b4 (uc (List.replicate 8 0)) 169, rB b2 (uc st) 169] [rR v 1 (bc blk) 64] → J1 .normal fr wr := by
    intro fr wr q hq f2 f4 f7 f8 f9 f10 f11 f12 f13 f14 s
    refine seq_n h1 ?_
    refine bindX_i fun J3 h3 => ?_
    refine build_w8 (l := q.list) (by rw [f7, f8, f9, f10, f11, f12, f13, f14]; exact fill_w8 _ _ _ _ _ _ _ _) ?_
    refine bindX_i fun J4 h4 => ?_
    have hql : q.list.length = 8 := rfl
    have fin : ∀ (fr : Fr) (wr : World), fr 2 = .pointer (some ⟨b2, 0, none⟩) → fr 4 = .pointer (some ⟨b4, 0, none⟩) →
        Sep [] w wr [rB b6 (uc (sched blk 64)) 258, rB b5 (uc shaK) 258, rB b4 (uc (List.replicate 8 0)) 169, rB b2 (uc (compress st blk)) 169] [rR v 1 (bc blk) 64] → J3 .normal fr wr := by
      intro fr wr f2 f4 s
      refine seq_n h3 ?_
      rw [f2, f4]
      have hcl : (uc (compress st blk)).length = 8 := by rw [uc_length]; exact compress_length _ _ hst
      refine s.loadAll 3 rfl hcl (s.storeAll 2 rfl hcl rfl (uc_one _) fun w2 s _ => s.loadAll 2 rfl hcl ?_)
      exact hK w2 s.ext
    refine loop_i (fun m fr wr => ∃ i : Nat, m = 8 - i ∧ i ≤ 8 ∧ fr 2 = .pointer (some ⟨b2, 0, none⟩) ∧ fr 4 = .pointer (some ⟨b4, 0, none⟩) ∧ fr 102 = .agg (uc q.list).toArray ∧ fr 103 = .int .i64 i ∧
      Sep [] w wr [rB b6 (uc (sched blk 64)) 258, rB b5 (uc shaK) 258, rB b4 (uc (List.replicate 8 0)) 169, rB b2 (uc ((List.zipWith (· + ·) st q.list).take i ++ st.drop i)) 169] [rR v 1 (bc blk) 64]) 8 ?_ ?_
    · exact ⟨0, rfl, by omega, f2, f4, rfl, rfl, s⟩
    · rintro m fr wr J ⟨i, rfl, hi, g2, g4, g102, g103, s⟩ hJ hX
      rw [g103]
      refine nlss (x := i) (y := 8) (cond_d (fun hlt => ?_) (fun hlt => ?_))
      · rw [g102, g2]
        have hll : ((List.zipWith (· + ·) st q.list).take i ++ st.drop i).length = 8 := by simp [hst, hql]; omega
        refine ixv1 hlt (v := uv (q.list.getD i 0)) (by rw [List.getElem?_toArray]; exact uc_get (by omega)) ?_
        refine idxA1 hlt (s.ldw 3 rfl (by omega) ?_)
        rw [zip_get _ _ _ (by omega) (by omega), u32_add]
        refine idxA1 hlt (s.stw 3 rfl (by omega) fun w2 s => ?_)
        rw [zip_step _ _ _ (by omega) (by omega)] at s
        refine nadd (x := i) (y := 1) (by omega) ?_
        exact hJ (8 - (i + 1)) _ _ (by omega) ⟨i + 1, rfl, by omega, g2, g4, g102, rfl, s⟩
      · obtain rfl : i = 8 := by omega
        refine hX _ _ _ (by simp) (h4 _ _ _ (blk_x (fin _ _ g2 g4 ?_)))
        have e : (List.zipWith (· + ·) st q.list).take 8 ++ st.drop 8 = compress st blk := by
          rw [List.take_of_length_le (by simp; omega), List.drop_of_length_le (by omega), List.append_nil, hq]; rfl
        rw [e] at s
        exact s
  refine loop_i (fun m fr wr => ∃ (t : Nat) (q : St), m = 64 - t ∧ t ≤ 64 ∧ q = rnds (sched blk 64) t (St.ofL st) ∧ fr 2 = .pointer (some ⟨b2, 0, none⟩) ∧ fr 4 = .pointer (some ⟨b4, 0, none⟩) ∧ fr 5 = .pointer (some ⟨b5, 0, none⟩) ∧ fr 6 = .pointer (some ⟨b6, 0, none⟩) ∧ fr 39 = .int .i64 t ∧
    fr 7 = uv q.a ∧ fr 8 = uv q.b ∧ fr 9 = uv q.c ∧ fr 10 = uv q.d ∧ fr 11 = uv q.e ∧ fr 12 = uv q.f ∧ fr 13 = uv q.g ∧ fr 14 = uv q.h ∧
    Sep [] w wr [rB b6 (uc (sched blk 64)) 258, rB b5 (uc shaK) 258, rB b4 (uc (List.replicate 8 0)) 169, rB b2 (uc st) 169] [rR v 1 (bc blk) 64]) 64 ?_ ?_
  · exact ⟨0, St.ofL st, rfl, by omega, rfl, rfl, rfl, rfl, rfl, rfl, rfl, rfl, rfl, rfl, rfl, rfl, rfl, rfl, s⟩
  · rintro m fr wr J ⟨t, q, rfl, ht, hq, f2, f4, f5, f6, f39, f7, f8, f9, f10, f11, f12, f13, f14, s⟩ hJ hX
    rw [f39]
    refine nlss (x := t) (y := 64) (cond_d (fun hlt => ?_) (fun hlt => ?_))
    · rw [f5, f6, f7, f8, f9, f10, f11, f12, f13, f14]
      have s := s.drew
      generalize wr.drew = wr at *
      have hkl : shaK.length = 64 := rfl
      rw [u32_and, u32_not, u32_and, u32_xor]
      refine idxA1 hlt ?_
      refine s.ldw 1 rfl (by omega) ?_
      refine idxA1 hlt ?_
      refine s.ldw 0 rfl (by omega) ?_
      refine fnW_of (by kernel_rfl) (rot_c _ 25 (by decide) (by decide) ?_)
      refine ⟨s.ldw 1 rfl (by omega) ⟨rfl, rfl⟩, s.ldw 0 rfl (by omega) ⟨rfl, rfl⟩, ?_⟩
      refine fnW_of (by kernel_rfl) (mix_c _ _ 6 11 (by decide) (by decide) (by decide) (by decide) ?_)
      refine ⟨s.ldw 1 rfl (by omega) ⟨rfl, rfl⟩, s.ldw 0 rfl (by omega) ⟨rfl, rfl⟩, ?_⟩
      rw [u32_add, u32_add, u32_add, u32_add]
      refine fnW_of (by kernel_rfl) (rot_c _ 22 (by decide) (by decide) ?_)
      refine fnW_of (by kernel_rfl) (mix_c _ _ 2 13 (by decide) (by decide) (by decide) (by decide) ?_)
      rw [u32_and, u32_and, u32_xor, u32_and, u32_xor, u32_add, u32_add, u32_add]
      refine nadd (x := t) (y := 1) (by omega) ?_
      refine hJ (64 - (t + 1)) _ _ (by omega) ⟨t + 1, rnd q (shaK.getD t 0) ((sched blk 64).getD t 0), rfl, by omega, by rw [hq]; rfl, f2, f4, f5, f6, rfl, rfl, ?_, ?_, ?_, rfl, ?_, ?_, ?_, s⟩
      all_goals rfl
    · obtain rfl : t = 64 := by omega
      exact hX _ _ _ (by simp) (h2 _ _ _ (blk_x (tail _ _ q hq f2 f4 f7 f8 f9 f10 f11 f12 f13 f14 s)))

def hcells (m : HM) (rv : Value) : List Value := uc m.st ++ [rv, .int .i64 m.n]
section
variable {m : HM} {rv : Value} (h : m.st.length = 8)
include h
theorem hc_len : (hcells m rv).length = 10 := by simp [hcells, uc_length, h]
theorem hc_8 : (hcells m rv)[8]? = some rv := by
  unfold hcells; rw [List.getElem?_append_right (by rw [uc_length]; omega), uc_length, h]; rfl
theorem hc_9 : (hcells m rv)[9]? = some (.int .i64 m.n) := by
  unfold hcells; rw [List.getElem?_append_right (by rw [uc_length]; omega), uc_length, h]; rfl
theorem hc_st : ((hcells m rv).drop 0).take 8 = uc m.st := by
  unfold hcells; rw [List.drop_zero, List.take_append_of_le_length (by rw [uc_length]; omega), List.take_of_length_le (by rw [uc_length]; omega)]
theorem hc_s8 (rv' : Value) : (hcells m rv).set 8 rv' = hcells m rv' := by
  unfold hcells; rw [List.set_append_right _ _ (by rw [uc_length]; omega), uc_length, h]; rfl
theorem hc_s9 (n : Nat) : (hcells m rv).set 9 (.int .i64 n) = hcells { m with n := n } rv := by
  unfold hcells; rw [List.set_append_right _ _ (by rw [uc_length]; omega), uc_length, h]; rfl
theorem hc_spl (st : List UInt32) (hs : st.length = 8) : lspl (hcells m rv) 0 (uc st) = hcells { m with st := st } rv := by
  unfold hcells lspl
  rw [List.take_zero, List.nil_append, Nat.zero_add, uc_length, hs, List.drop_append_of_le_length (by rw [uc_length]; omega), List.drop_of_length_le (by rw [uc_length]; omega), List.nil_append]
end

structure IsHash (w : World) (p : Nat) (rv : Value) (m : HM) : Prop where
  hdr : Blk w p (hcells m rv) 229
  rest : OwnAt w rv 5 1 (bc m.rest) m.rest.length
  ne : p ∉ slB rv
  st : m.st.length = 8
/-- The hash behind a pointer, and the blocks that are its. -/
def Hash (w : World) (p : Nat) (F : List Nat) (m : HM) : Prop := ∃ rv, IsHash w p rv m ∧ F = p :: slB rv
theorem Hash.keep {w w' : World} {p : Nat} {F S : List Nat} {m : HM} (h : Hash w p F m) (e : Ext S w w') (hd : ∀ b ∈ F, b ∉ S) : Hash w' p F m := by
  obtain ⟨rv, h, rfl⟩ := h
  exact ⟨rv, ⟨h.hdr.keep e (hd p (by simp)), h.rest.keep e (fun b hb => hd b (by simp [hb])), h.ne, h.st⟩, rfl⟩
theorem Hash.lt {w : World} {p : Nat} {F : List Nat} {m : HM} (h : Hash w p F m) : ∀ b ∈ F, b < w.heap.size := by
  obtain ⟨rv, h, rfl⟩ := h
  intro b hb
  rcases List.mem_cons.1 hb with rfl | hb
  · exact h.hdr.lt
  · exact h.rest.lt b hb
def rH (p : Nat) (F : List Nat) (m : HM) : Res := ⟨F, fun w => Hash w p F m, fun h => h.lt, fun h e hd => h.keep e hd⟩

theorem Hash.len8 {w : World} {p : Nat} {F : List Nat} {m : HM} (h : Hash w p F m) : m.st.length = 8 := by obtain ⟨_, h, _⟩ := h; exact h.st

/-- A hash's parts in hand. -/
theorem Hash.open {w : World} {p : Nat} {rv : Value} {m : HM} {R : List Res} (h : IsHash w p rv m) (hR : ∀ T ∈ R, T.holds w) (hd : ∀ T ∈ R, ∀ b ∈ p :: slB rv, b ∉ T.foot) :
    Sep (p :: slB rv) w w [rB p (hcells m rv) 229, rO rv 5 1 (bc m.rest) m.rest.length] R :=
  Sep.start (by
    intro T hT
    rcases List.mem_cons.1 hT with rfl | hT
    · exact h.hdr
    · simp at hT; subst hT; exact h.rest) hR (by
    intro T hT b hb
    rcases List.mem_cons.1 hT with rfl | hT
    · simp [rB] at hb; subst hb; simp
    · simp at hT; subst hT; exact List.mem_cons_of_mem _ hb) (by
    refine List.pairwise_cons.2 ⟨fun T hT b hb => ?_, by simp⟩
    simp [rB] at hb
    simp at hT
    subst hb; subst hT
    exact h.ne) (by
    intro T hT U hU b hb
    refine hd U hU b ?_
    rcases List.mem_cons.1 hT with rfl | hT
    · simp [rB] at hb; subst hb; simp
    · simp at hT; subst hT; exact List.mem_cons_of_mem _ hb)
/-- .. and a hash again. -/
theorem Sep.hash {S : List Nat} {w0 w : World} {L R : List Res} {p : Nat} {rv : Value} {m : HM} (s : Sep S w0 w (rB p (hcells m rv) 229 :: rO rv 5 1 (bc m.rest) m.rest.length :: L) R) (hst : m.st.length = 8) :
    Hash w p (p :: slB rv) m ∧ ∀ b ∈ p :: slB rv, b ∈ S ∨ w0.heap.size ≤ b := by
  have hp := (List.pairwise_cons.1 s.dis).1 (rO rv 5 1 (bc m.rest) m.rest.length) (by simp) p (by simp [rB])
  refine ⟨⟨rv, ⟨s.at 0 rfl, s.at 1 rfl, hp, hst⟩, rfl⟩, fun b hb => ?_⟩
  rcases List.mem_cons.1 hb with rfl | hb
  · exact s.old _ List.mem_cons_self b (by simp [rB])
  · exact s.old (rO rv 5 1 (bc m.rest) m.rest.length) (by simp) b hb

theorem absorb_snoc (j : Nat) : ∀ (s : List UInt32) (x : Bytes), 64 * (j + 1) ≤ x.length → absorb (j + 1) s x = compress (absorb j s x) ((x.drop (64 * j)).take 64) := by
  induction j with
  | zero => intro s x _; rfl
  | succ j ih =>
    intro s x h
    show absorb (j + 1) (compress s (x.take 64)) (x.drop 64) = compress (absorb j (compress s (x.take 64)) (x.drop 64)) _
    rw [ih _ _ (by rw [List.length_drop]; omega), List.drop_drop, show 64 + 64 * j = 64 * (j + 1) by omega]

theorem und_bytes' : Tryd.prog.underlying 22 = some (.slice 5) := und_u8s

set_option maxHeartbeats 1000000 in
theorem take_c {w : World} {K : VPost} {p : Nat} {F : List Nat} {m : HM} {x : Value} {b : Bytes} (h : Hash w p F m) (hx : RdSl w x 1 (bc b) b.length) (hd : ∀ c ∈ F, c ∉ rdB x (bc b)) (hn : m.n + b.length ≤ 2 ^ 38) (hr : m.rest.length + b.length ≤ 2 ^ 38)
    (hK : ∀ F' w', Hash w' p F' (m.take b) → Mv F w F' w' → K (.tuple #[]) w') : Calls Tryd.prog 199 #[.pointer (some ⟨p, 0, none⟩), x] w (retK K) := by
  refine c199_calls _ _ w K ?_
  unfold c199
  obtain ⟨rv, h, rfl⟩ := h
  have h8 := h.st
  obtain ⟨ui, hui, huz, husz, huby⟩ := tyI_spec ty_u8
  have s := Hash.open (R := [rR x 1 (bc b) b.length]) h (by intro T hT; simp at hT; subst hT; exact hx) (by intro T hT c hc; simp at hT; subst hT; exact hd c hc)
  rw [nilW_e]
  refine off_i (k := 8) ?_
  refine s.load1 0 rfl (hc_8 h8) ?_
  refine s.appendO (v := rv) (n := m.rest.length) (m := b.length) (ys := bc b) (xs := bc m.rest) 1 (by rw [husz]; rfl) und_u8s und_u8s hui huz (by rw [husz]; rfl) (by rw [huby]; decide) (by rw [husz]; exact s.rat 0 rfl) (bc_one _) (by rw [huby]; omega) fun rv1 w1 s => ?_
  rw [husz, ← bc_append] at s
  have s : Sep _ w w1 [rB p (hcells m rv) 229, rO rv1 5 1 (bc (m.rest ++ b)) (m.rest.length + b.length)] _ := s
  rw [nilW_e]
  refine off_i (k := 8) ?_
  have hv1 : rv1.cells = #[rv1] ∧ rv1.oneCell' = true := by
    obtain ⟨a, c, rfl⟩ := (OwnAt.rd (s.at 1 rfl)).len
    exact ⟨rfl, rfl⟩
  refine s.store1 0 rfl hv1.1 (by rw [hc_len h8]; decide) hv1.2 fun w2 s _ => ?_
  have s : Sep _ w w2 [rB p ((hcells m rv).set 8 rv1) 229, rO rv1 5 1 (bc (m.rest ++ b)) (m.rest.length + b.length)] _ := s
  rw [hc_s8 h8] at s
  rw [nilW_e]
  refine off_i (k := 9) ?_
  refine s.load1 0 rfl (hc_9 h8) ?_
  obtain ⟨xa, xc, hxa⟩ := hx.len
  rw [hxa, len_s]
  refine nadd (by omega) ?_
  rw [nilW_e]
  refine off_i (k := 9) ?_
  refine s.store1 0 rfl rfl (by rw [hc_len h8]; decide) rfl fun w3 s _ => ?_
  have s : Sep _ w w3 [rB p ((hcells m rv1).set 9 (.int .i64 ((m.n + b.length : Nat) : Int))) 229, rO rv1 5 1 (bc (m.rest ++ b)) (m.rest.length + b.length)] _ := s
  rw [hc_s9 h8] at s
  refine bindX_i fun J0 h0 => bindX_i fun J1 h1 => ?_
  generalize hr0 : m.rest ++ b = r0 at s
  have hrl : r0.length = m.rest.length + b.length := by rw [← hr0, List.length_append]
  rw [← hrl] at s
  refine loop_i (fun q fr wr => ∃ (j : Nat) (rv' : Value), q = r0.length - 64 * j ∧ 64 * j ≤ r0.length ∧ fr 0 = .pointer (some ⟨p, 0, none⟩) ∧
    Sep (p :: slB rv) w wr [rB p (hcells ⟨absorb j m.st r0, r0.drop (64 * j), m.n + b.length⟩ rv') 229, rO rv' 5 1 (bc (r0.drop (64 * j))) (r0.drop (64 * j)).length] [rR x 1 (bc b) b.length]) r0.length ?_ ?_
  · exact ⟨0, rv1, by omega, by omega, rfl, s⟩
  · rintro q fr wr J ⟨j, rv', rfl, hj, f0, s⟩ hJ hX
    have ha8 : (absorb j m.st r0).length = 8 := absorb_length _ _ _ h8
    have hdl : (r0.drop (64 * j)).length = r0.length - 64 * j := List.length_drop
    rw [f0, nilW_e]
    refine off_i (k := 8) ?_
    refine s.load1 0 rfl (hc_8 ha8) ?_
    obtain ⟨ra, rc, hra⟩ := (OwnAt.rd (s.at 1 rfl)).len
    have hlen : ∀ (w : World) (K : VPost), lenW Tryd.prog (some true) #[22] 3 #[rv'] w K = K (.int .i64 (r0.drop (64 * j)).length) w := fun w K => by rw [hra, len_s]
    rw [hlen]
    refine ngeq (y := 64) (cond_d (fun hge => ?_) (fun hge => ?_))
    · have s := s.drew
      generalize wr.drew = wr at *
      rw [nilW_e]
      refine off_i (k := 0) ?_
      refine s.loadN 0 rfl (by rw [hc_len ha8]; decide) ?_
      rw [Nat.zero_add, hc_st ha8, nilW_e]
      refine off_i (k := 8) ?_
      refine s.load1 0 rfl (hc_8 ha8) ?_
      refine RdSl.cut (l := 0) (h := 64) (OwnAt.rd (s.at 1 rfl)) (OwnAt.cap (s.at 1 rfl)) rfl rfl (by omega) hge fun v' hv' hc' _ _ => ?_
      have hpart : (List.take ((64 - 0) * 1) (List.drop (0 * 1) (bc (r0.drop (64 * j))))) = bc ((r0.drop (64 * j)).take 64) := by
        rw [Nat.zero_mul, bc_part, List.drop_zero]
      rw [hpart] at hv'
      refine fnW_of (by kernel_rfl) (compress_c ha8 hv' hc' fun w4 e => ?_)
      have s := s.ext0 e
      have hn8 : (compress (absorb j m.st r0) ((r0.drop (64 * j)).take 64)).length = 8 := compress_length _ _ ha8
      rw [nilW_e]
      refine off_i (k := 0) ?_
      refine s.storeN 0 rfl rfl (by rw [uc_length, hn8]) (by rw [hc_len ha8]; decide) (uc_one _) fun w5 s _ => ?_
      have s : Sep _ w w5 [rB p (lspl (hcells ⟨absorb j m.st r0, r0.drop (64 * j), m.n + b.length⟩ rv') 0 (uc (compress (absorb j m.st r0) ((r0.drop (64 * j)).take 64)))) 229, rO rv' 5 1 (bc (r0.drop (64 * j))) (r0.drop (64 * j)).length] _ := s
      rw [hc_spl ha8 _ hn8, ← absorb_snoc j _ _ (by omega)] at s
      have hb8 : (absorb (j + 1) m.st r0).length = 8 := absorb_length _ _ _ h8
      rw [nilW_e]
      refine off_i (k := 8) ?_
      refine s.load1 0 rfl (hc_8 hb8) ?_
      refine OwnAt.cutO (l := 64) (h := (r0.drop (64 * j)).length) (s.at 1 rfl) rfl rfl hge (Nat.le_refl _) fun v2 hv2 hb2 => ?_
      have hpart2 : (List.take (((r0.drop (64 * j)).length - 64) * 1) (List.drop (64 * 1) (bc (r0.drop (64 * j))))) = bc (r0.drop (64 * (j + 1))) := by
        rw [bc_part, List.drop_drop, List.take_of_length_le (by rw [List.length_drop]; omega)]
        congr 1
      have hl2 : (r0.drop (64 * j)).length - 64 = (r0.drop (64 * (j + 1))).length := by rw [List.length_drop, List.length_drop]; omega
      rw [hpart2, hl2] at hv2
      have s := s.upd 1 rfl (T' := rO v2 5 1 (bc (r0.drop (64 * (j + 1)))) (r0.drop (64 * (j + 1))).length) hv2 (Ext.refl _ _) (fun c hc => .inl (by
        show c ∈ slB rv'
        rw [← hb2]; exact hc))
      rw [nilW_e]
      refine off_i (k := 8) ?_
      have hvc : v2.cells = #[v2] ∧ v2.oneCell' = true := by
        obtain ⟨a, c, rfl⟩ := (OwnAt.rd hv2).len
        exact ⟨rfl, rfl⟩
      refine s.store1 0 rfl hvc.1 (by rw [hc_len hb8]; decide) hvc.2 fun w6 s _ => ?_
      have s : Sep _ w w6 [rB p ((hcells ⟨absorb (j + 1) m.st r0, r0.drop (64 * j), m.n + b.length⟩ rv').set 8 v2) 229, rO v2 5 1 (bc (r0.drop (64 * (j + 1)))) (r0.drop (64 * (j + 1))).length] _ := s
      rw [hc_s8 hb8] at s
      exact hJ (r0.length - 64 * (j + 1)) _ _ (by omega) ⟨j + 1, v2, rfl, by omega, f0, s⟩
    · refine hX _ _ _ (by simp) (h1 _ _ _ (blk_x (h0 _ _ _ ?_)))
      have hjj : r0.length / 64 = j := by omega
      obtain ⟨hh, ho⟩ := s.hash ha8
      have em : m.take b = ⟨absorb j m.st r0, r0.drop (64 * j), m.n + b.length⟩ := by
        unfold HM.take
        rw [hr0, hjj]
      refine hK _ _ (em ▸ hh) ⟨s.ext, ho⟩

theorem slArr0 {b n sz : Nat} {w : World} {K : VPost} (h : K (.slice (some ⟨b, 0, none⟩) n n) w) : sliceW (.arr n sz) (.pointer (some ⟨b, 0, none⟩)) none none none w K := slArr_i h

theorem Blk.rdAll {w : World} {b n : Nat} {cs : List Value} {t : TypeId} (h : Blk w b cs t) (hn : cs.length = n) : RdSl w (.slice (some ⟨b, 0, none⟩) n n) 1 cs n :=
  ⟨by rw [hn, Nat.mul_one], .inr ⟨b, 0, n, cs, rfl, h.r, by rw [List.drop_zero, List.take_of_length_le (by rw [hn, Nat.mul_one]; exact Nat.le_refl _)], by rw [hn]; omega⟩⟩

/-! ### What stands behind -/
theorem be8_range (x : Nat) : be8 x = (List.range 8).map fun j => UInt8.ofNat (x >>> (56 - 8 * j)) := rfl
theorem be8_step (x j : Nat) (h : j < 8) : (be8 x).take (j + 1) = (be8 x).take j ++ [UInt8.ofNat (x >>> (56 - 8 * j))] := by
  have hl : j < (be8 x).length := by rw [be8_length]; exact h
  rw [List.take_succ_eq_append_getElem hl]
  congr 2
  simp [be8_range]

theorem flat_one (v : Value) (h : v.cells = #[v]) : flatV [v] = [v] := by simp [flatV, h]
theorem bv_cells (b : UInt8) : (bv b).cells = #[bv b] := rfl

/-- A byte more. -/
theorem Sep.addByte {S : List Nat} {w0 w : World} {L R : List Res} {K : Value → VPost} {v : Value} {l : Bytes} {n : Nat} (s : Sep S w0 w L R) (i : Nat) (hL : L[i]? = some (rO v 5 1 (bc l) n)) (b : UInt8) (hn : n ≤ 2 ^ 38)
    (h : ∀ t v' w', Sep S w0 w' (L.set i (rO v' 5 1 (bc (l ++ [b])) (n + 1))) R → K t v' w') :
    insW Tryd.prog (Instr.buildSlice 22 1 #[(0, bv b)]) w fun t w' => insW Tryd.prog (Builtin.append_ #[22, 22] 22 #[v, t]) w' (K t) := by
  obtain ⟨ui, hui, huz, husz, huby⟩ := tyI_spec ty_u8
  refine s.lit (vs := [bv b]) und_u8s hui huz rfl (by intro x hx; simp at hx; subst hx; rw [husz]; rfl) (by rw [husz]; simp) fun t w1 s1 ht _ => ?_
  have s1 : Sep S w0 w1 (rO t 5 ui.size [bv b] 1 :: L) R := s1
  rw [husz] at s1
  have hi : i < L.length := (List.getElem?_eq_some_iff.1 hL).1
  refine s1.appendO (v := v) (n := n) (m := 1) (ys := [bv b]) (xs := bc l) (i + 1) (by rw [husz]; simpa using hL) und_u8s und_u8s hui huz (by rw [husz]; rfl) (by rw [huby]; decide) (by rw [husz]; exact OwnAt.rd (s1.at 0 rfl)) (by intro y hy; simp at hy; subst hy; rfl) (by rw [huby]; omega) fun v' w2 s2 => ?_
  rw [husz] at s2
  have e : bc l ++ [bv b] = bc (l ++ [b]) := by simp [bc]
  rw [e] at s2
  exact h t v' w2 (s2.drop 0)

theorem pad_c {w : World} {K : VPost} (n : Int) (hno : ¬ (0 ≤ n ∧ n ≤ 1125899906842624) → K (.slice none 0 0) w)
    (hK : 0 ≤ n ∧ n ≤ 1125899906842624 → ∀ v w', OwnAt w' v 5 1 (bc (padM n.toNat)) (padM n.toNat).length → Ext [] w w' → (∀ b ∈ slB v, w.heap.size ≤ b) → K v w') :
    Calls Tryd.prog 201 #[.int .i64 n] w (retK K) := by
  refine c201_calls _ w K ?_
  unfold c201
  obtain ⟨ui, hui, huz, husz, huby⟩ := tyI_spec ty_u8
  rw [ilss]
  by_cases h0 : n < 0
  · simp only [h0, decide_true, gstep_tf, pickW_t, condW_t]
    exact hno (by omega)
  · simp only [h0, decide_false, gstep_f, igtr, pickW_f]
    refine cond_d (fun h1 => hno (by omega)) (fun h1 => ?_)
    replace hK := hK (by omega)
    obtain ⟨n, rfl⟩ : ∃ k : Nat, n = k := ⟨n.toNat, by omega⟩
    simp only [Int.toNat_natCast] at hK
    refine nrem (y := 64) (by decide) ?_
    refine nsub (x := 119) (by omega) (by decide) ?_
    refine nrem (y := 64) (by decide) ?_
    refine (Sep.nil w).lit (vs := [bv 128]) und_u8s hui huz rfl (by intro x hx; simp at hx; subst hx; rw [husz]; rfl) (by rw [husz]; simp) fun t w1 s ht _ => ?_
    have hz : (119 - n % 64) % 64 = zeros n := rfl
    rw [hz]
    have hzl : zeros n < 64 := Nat.mod_lt _ (by decide)
    refine s.appendZ (v := t) (n := 1) (m := zeros n) (xs := flatV [bv 128]) 0 rfl und_u8s und_int hui huz (by rw [husz]; rfl) (by rw [huby]; decide) (by intro y hy; simp [Value.cells] at hy; subst hy; rfl) (by rw [huby]; omega) fun v w2 s => ?_
    have hzc : (Builtin.zeroCells (Value.int .u8 0).cells (zeros n)).toList = bc (List.replicate (zeros n) 0) := by
      rw [bc_zeros]
      apply List.ext_getElem
      · rw [zeroC _ _ 1 rfl]; simp
      · intro k h1 h2
        unfold Builtin.zeroCells
        simp [Value.cells, Nat.mod_one]
    rw [hzc, husz] at s
    have s : Sep [] w w2 [rO v 5 1 (bc (128 :: List.replicate (zeros n) 0)) (1 + zeros n)] [] := s
    refine bindX_i fun J0 h0 => bindX_i fun J1 h1 => bindX_i fun J2 h2 => ?_
    refine loop_i (fun m fr wr => ∃ (j : Nat) (v : Value), m = 8 - j ∧ j ≤ 8 ∧ fr 0 = .int .i64 n ∧ fr 4 = v ∧ fr 5 = .int .i64 (56 - 8 * (j : Int)) ∧
      Sep [] w wr [rO v 5 1 (bc (128 :: List.replicate (zeros n) 0 ++ (be8 (n * 8)).take j)) (1 + zeros n + j)] []) 8 ?_ ?_
    · exact ⟨0, v, rfl, by omega, rfl, rfl, rfl, by rw [List.take_zero, List.append_nil]; exact s⟩
    · rintro m fr wr J ⟨j, v, rfl, hj, f0, f4, f5, s⟩ hJ hX
      rw [f0, f4, f5, igeq]
      refine cond_d (fun hge => ?_) (fun hge => ?_)
      · have hj8 : j < 8 := by omega
        refine nmul (x := n) (y := 8) (by omega) ?_
        have e56 : (56 - 8 * (j : Int)) = ((56 - 8 * j : Nat) : Int) := by omega
        rw [e56]
        refine nshr (by show 56 - 8 * j ≤ 64; omega) ?_
        rw [conv_byte und_int und_u8]
        refine s.addByte 0 rfl _ (by omega) fun _ v' w3 s => ?_
        have s : Sep [] w w3 [rO v' 5 1 (bc (128 :: List.replicate (zeros n) 0 ++ (be8 (n * 8)).take j ++ [UInt8.ofNat ((n * 8) >>> (56 - 8 * j))])) (1 + zeros n + j + 1)] [] := s
        rw [List.append_assoc, ← be8_step _ _ hj8] at s
        refine isub (by omega) ?_
        exact hJ (8 - (j + 1)) _ _ (by omega) ⟨j + 1, v', rfl, by omega, f0, rfl, by show Value.int .i64 _ = _; congr 1; omega, s⟩
      · obtain rfl : j = 8 := by omega
        refine hX _ _ _ (by simp) (h2 _ _ _ (blk_x (seq_n h1 ?_)))
        have e : 128 :: List.replicate (zeros n) 0 ++ (be8 (n * 8)).take 8 = padM n := rfl
        have hl : 1 + zeros n + 8 = (padM n).length := by rw [padM_length]; omega
        rw [e, hl] at s
        have hv := s.fresh 0 rfl
        show K (fr 4) wr
        rw [f4]
        exact hK v wr (s.at 0 rfl) s.ext hv

/-! ### A hash made -/
theorem fill_hash {Z : List Value} (hZ : Z.length = 10) (st : List UInt32) (hst : st.length = 8) (v : Value) (hv : v.cells = #[v]) (n : Nat) :
    fillL [(0, 8), (8, 1), (9, 1)] Z [(0, .agg (uc st).toArray), (1, v), (2, .int .i64 n)] = some (uc st ++ [v, .int .i64 n]) := by
  have h1 : (Value.agg (uc st).toArray).cells = (uc st).toArray := rfl
  have h2 : (Value.int .i64 (n : Int)).cells = #[.int .i64 n] := rfl
  have hu : (uc st).length = 8 := by rw [uc_length]; exact hst
  have l1 : (lspl Z 0 (uc st)).length = 10 := by rw [lspl_length (by omega)]; exact hZ
  have l2 : (lspl (lspl Z 0 (uc st)) 8 [v]).length = 10 := by rw [lspl_length (by simp; omega)]; exact l1
  have e1 := lspl_lspl Z 0 (uc st) [v] (by simp; omega)
  rw [hu, Nat.zero_add] at e1
  have e2 := lspl_lspl Z 0 (uc st ++ [v]) [.int .i64 n] (by simp; omega)
  rw [List.length_append, hu, Nat.zero_add, ← e1] at e2
  have e3 : lspl Z 0 (uc st ++ [v] ++ [.int .i64 n]) = uc st ++ [v, .int .i64 n] := by
    unfold lspl
    rw [List.drop_of_length_le (by simp; omega)]
    simp
  rw [e3] at e2
  simp [fillL, h1, h2, hv, hu, hZ, l1, l2]
  exact e2
theorem fill_hash0 {Z : List Value} (hZ : Z.length = 10) (st : List UInt32) (hst : st.length = 8) :
    fillL [(0, 8), (8, 1), (9, 1)] Z [(0, .agg (uc st).toArray)] = some (uc st ++ Z.drop 8) := by
  have h1 : (Value.agg (uc st).toArray).cells = (uc st).toArray := rfl
  have hu : (uc st).length = 8 := by rw [uc_length]; exact hst
  simp [fillL, h1, hu, hZ, lspl]

def hashZ : List Value := List.replicate 8 (.int .u32 0) ++ [.slice none 0 0, .int .i64 0]
theorem str_hash : strI Tryd.prog 229 = some ([(0, 8), (8, 1), (9, 1)], hashZ) := by kernel_rfl

theorem newH_c {w : World} {K : VPost} (hK : ∀ p F w', Hash w' p F (hm []) → Ext [] w w' → (∀ b ∈ F, w.heap.size ≤ b) → K (.pointer (some ⟨p, 0, none⟩)) w') : Calls Tryd.prog 170 #[] w (retK K) := by
  refine c170_calls w K ?_
  unfold c170
  refine fnW_of (by kernel_rfl) (first_c fun w1 e1 => ?_)
  refine build_i str_hash (fill_hash0 rfl shaH rfl) ?_
  refine boxW_i fun p w2 hp e2 hk _ => ?_
  refine hK p [p] w2 ⟨.slice none 0 0, ⟨hk, .inl ⟨rfl, rfl, rfl⟩, by simp [slB], rfl⟩, rfl⟩ (e1.new e2) ?_
  intro b hb
  simp at hb
  have := e1.size
  omega

theorem Hash.n {w : World} {K : VPost} {p : Nat} {F : List Nat} {m : HM} (h : Hash w p F m) (hK : K (.int .i64 m.n) w) : nilW (.pointer (some ⟨p, 0, none⟩)) w fun t w' => offW (some 9) t w' fun t w' => loadW (some (false, 1)) t w' K := by
  obtain ⟨rv, h, rfl⟩ := h
  rw [nilW_e]
  refine off_i (k := 9) ?_
  exact load1 h.hdr.r (hc_9 h.st) hK

theorem forkH_c {w : World} {K : VPost} {p : Nat} {F : List Nat} {m : HM} (h : Hash w p F m) (hr : m.rest.length ≤ 2 ^ 38) (hK : ∀ q G w', Hash w' q G m → Ext [] w w' → (∀ b ∈ G, w.heap.size ≤ b) → K (.pointer (some ⟨q, 0, none⟩)) w') :
    Calls Tryd.prog 200 #[.pointer (some ⟨p, 0, none⟩)] w (retK K) := by
  refine c200_calls _ w K ?_
  unfold c200
  obtain ⟨ui, hui, huz, husz, huby⟩ := tyI_spec ty_u8
  have e0 := Ext.drew [] w
  have hsz : w.drew.heap.size = w.heap.size := rfl
  replace h : Hash w.drew p F m := h.keep e0 (by simp)
  generalize w.drew = w1 at *
  obtain ⟨rv, h, rfl⟩ := h
  have h8 := h.st
  rw [nilW_e]
  refine off_i (k := 0) ?_
  refine loadN h.hdr.r (by rw [hc_len h8]; decide) ?_
  rw [Nat.zero_add, hc_st h8, nilW_e]
  refine off_i (k := 8) ?_
  refine load1 h.hdr.r (hc_8 h8) ?_
  rw [nilW_e]
  refine off_i (k := 9) ?_
  refine load1 h.hdr.r (hc_9 h8) ?_
  refine buildSlice_i (vs := []) und_u8s hui huz rfl (by simp) (by simp) fun b1 w2 hb1 e1 hk1 hs1 => ?_
  have hh := h.hdr.keep e1 (by simp)
  have hst0 := hc_st (rv := rv) h8
  rw [List.drop_zero] at hst0
  refine ⟨loadN hh.r (by rw [hc_len h8]; decide) ⟨by rw [List.drop_zero, hst0], rfl⟩, load1 hh.r (hc_8 h8) ⟨rfl, rfl⟩, load1 hh.r (hc_9 h8) ⟨rfl, rfl⟩, ?_⟩
  have hb1s : b1 = w1.heap.size := hb1.symm
  refine append_i (ys := bc m.rest) (m := m.rest.length) (xs := []) (n := 0) und_u8s und_u8s hui huz (by rw [husz]; rfl) (by rw [huby]; decide) (.inr ⟨b1, 0, [], rfl, by simpa [flatV] using hk1, by simp, by simp, Nat.le_refl _⟩) (by rw [husz]; exact h.rest.rd.keep e1 (by simp)) (bc_one _) (by rw [huby]; omega) fun v2 w3 hv2 e2 hb2 => ?_
  rw [husz, Nat.zero_add, List.nil_append] at hv2
  have hne1 : p ∉ slB (.slice (some ⟨b1, 0, none⟩) 0 0) := by simp [slB]; have := h.hdr.lt; omega
  have hh2 := hh.keep e2 hne1
  refine ⟨loadN hh2.r (by rw [hc_len h8]; decide) ⟨by rw [List.drop_zero, hst0], rfl⟩, load1 hh2.r (hc_9 h8) ⟨rfl, rfl⟩, ?_⟩
  have hv2c : v2.cells = #[v2] := by obtain ⟨a, c, rfl⟩ := hv2.rd.len; rfl
  refine build_i str_hash (fill_hash rfl m.st h8 v2 hv2c m.n) ?_
  have hnew : ∀ b ∈ slB v2, w1.heap.size ≤ b := by
    intro b hb
    rcases hb2 with e | ⟨b', e, hge⟩
    · rw [e] at hb; simp [slB] at hb; omega
    · rw [e] at hb; simp at hb; have := e1.size; omega
  refine boxW_i fun q w4 hq e4 hk4 _ => ?_
  have hltv := hv2.lt
  refine hK q (q :: slB v2) w4 ⟨v2, ⟨hk4, hv2.at.keep e4 (by simp), fun hm => by have := hltv q hm; omega, h8⟩, rfl⟩ (((e0.new e1).step e2 (by intro x hx hlt; simp [slB] at hx; omega)).new e4) ?_
  intro b hb
  rcases List.mem_cons.1 hb with rfl | hb
  · have := e1.size
    have := e2.size
    omega
  · have := hnew b hb; omega

theorem takeA_c {w : World} {K : VPost} {p : Nat} {F : List Nat} {a : Bytes} {x : Value} {b : Bytes} (h : Hash w p F (hm a)) (hx : RdSl w x 1 (bc b) b.length) (hd : ∀ c ∈ F, c ∉ rdB x (bc b)) (hn : a.length + b.length ≤ 2 ^ 37)
    (hK : ∀ F' w', Hash w' p F' (hm (a ++ b)) → Mv F w F' w' → K (.tuple #[]) w') : Calls Tryd.prog 199 #[.pointer (some ⟨p, 0, none⟩), x] w (retK K) :=
  take_c h hx hd (by show a.length + b.length ≤ _; omega) (by have := hm_rest a; omega) fun F' w' h' m => hK F' w' (hm_take a b ▸ h') m

theorem writeH_c {w : World} {K : VPost} {p : Nat} {F : List Nat} {a : Bytes} {v : Value} {hs : List Value} {ls : List Bytes} (h : Hash w p F (hm a)) (hv : RowsR w v hs ls) (hd : ∀ c ∈ F, c ∉ rdB v hs ++ rowsF hs ls) (hn : a.length + ls.flatten.length ≤ 2 ^ 37) (hls : ls.length ≤ 2 ^ 38)
    (hK : ∀ F' w', Hash w' p F' (hm (a ++ ls.flatten)) → Mv F w F' w' → K (.tuple #[]) w') : Calls Tryd.prog 171 #[.pointer (some ⟨p, 0, none⟩), v] w (retK K) := by
  refine c171_calls _ _ w K ?_
  unfold c171
  have s : Sep F w w [rH p F (hm a)] [rW v hs ls] := Sep.one1 (T := rH p F (hm a)) (U := rW v hs ls) h hv hd
  obtain ⟨va, vc, hva⟩ := hv.len
  rw [hva, len_s, ← hva]
  refine bindX_i fun J0 h0 => bindX_i fun J1 h1 => ?_
  refine loop_i (fun m fr wr => ∃ (i : Nat) (F' : List Nat), m = ls.length - i ∧ i ≤ ls.length ∧ fr 0 = .pointer (some ⟨p, 0, none⟩) ∧ fr 6 = v ∧ fr 7 = .int .i64 ls.length ∧ fr 8 = .int .i64 i ∧
    Sep F w wr [rH p F' (hm (a ++ (ls.take i).flatten))] [rW v hs ls]) ls.length ?_ ?_
  · exact ⟨0, F, rfl, by omega, rfl, rfl, rfl, rfl, by rw [List.take_zero, List.flatten_nil, List.append_nil]; exact s⟩
  · rintro m fr wr J ⟨i, F', rfl, hi, f0, f6, f7, f8, s⟩ hJ hX
    rw [f0, f6, f7, f8]
    refine nlss (cond_d (fun hlt => ?_) (fun hlt => ?_))
    · obtain ⟨b, o, r, hix, hld, hr, hc, hf⟩ := RowsR.elem (s.rat 0 rfl) hlt .i64
      refine hix _ ?_
      refine hld _ ?_
      have htk : ls.take (i + 1) = ls.take i ++ [ls[i]] := List.take_succ_eq_append_getElem hlt
      have hlen : (ls.take (i + 1)).flatten.length ≤ ls.flatten.length := by
        have : ls = ls.take (i + 1) ++ ls.drop (i + 1) := (List.take_append_drop _ _).symm
        conv => rhs; rw [this, List.flatten_append, List.length_append]
        omega
      have e : (ls.take (i + 1)).flatten = (ls.take i).flatten ++ ls[i] := by rw [htk, List.flatten_append]; simp
      rw [e, List.length_append] at hlen
      refine fnW_of (by kernel_rfl) (takeA_c (s.at 0 rfl) hr (fun c hc' hcm => s.disR (rH p F' (hm (a ++ (ls.take i).flatten))) (by simp) (rW v hs ls) (by simp) c hc' (hf c hcm)) (by rw [List.length_append]; omega) fun F2 w2 h2 m2 => ?_)
      rw [List.append_assoc, ← e] at h2
      have s := s.upd 0 rfl (T' := rH p F2 (hm (a ++ (ls.take (i + 1)).flatten))) h2 m2.ext m2.own
      refine nadd (y := 1) (by omega) ?_
      exact hJ (ls.length - (i + 1)) _ _ (by omega) ⟨i + 1, F2, rfl, by omega, f0, f6, f7, rfl, s⟩
    · obtain rfl : i = ls.length := by omega
      rw [List.take_length] at s
      obtain ⟨hh, e, ho⟩ := s.out 0 rfl
      exact hX _ _ _ (by simp) (h1 _ _ _ (blk_x (h0 _ _ _ (hK _ _ hh ⟨e, ho⟩))))

/-- One row, written as such. -/
theorem rows_one {w : World} {t : Value} {x : Value} {b : Bytes} (ht : RdSl w t 1 [x] 1) (hx : RdSl w x 1 (bc b) b.length) (hc : capOk x) : RowsR w t [x] [b] := ⟨ht, ⟨hx, hc⟩, trivial⟩

theorem zero_dig : zeroO Tryd.prog 77 = some (.agg (Array.replicate 32 (.int .u8 0))) := by kernel_rfl
theorem cells_dig : (Value.agg (Array.replicate 32 (.int .u8 0))).cells.toList = bc (List.replicate 32 0) := rfl

theorem outM_step (s : List UInt32) (i : Nat) (h : i < 32) : ((outM s).take i ++ List.replicate (32 - i) 0).set i (UInt8.ofNat ((s.getD (i / 4) 0).toNat >>> (24 - 8 * (i % 4)))) = (outM s).take (i + 1) ++ List.replicate (32 - (i + 1)) 0 := by
  have hl : ((outM s).take i).length = i := by rw [List.length_take, outM_length]; omega
  have hr : List.replicate (32 - i) (0 : UInt8) = 0 :: List.replicate (32 - (i + 1)) 0 := by rw [show 32 - i = (32 - (i + 1)) + 1 by omega, List.replicate_succ]
  have hlt : i < (outM s).length := by rw [outM_length]; exact h
  rw [hr, set_mid _ _ _ _ i hl, List.take_succ_eq_append_getElem hlt, List.append_assoc]
  congr 2
  simp [outM]

set_option maxHeartbeats 1000000 in
theorem sumH_c {w : World} {K : VPost} {p : Nat} {F : List Nat} {a : Bytes} (h : Hash w p F (hm a)) (hn : a.length ≤ 2 ^ 36) (hK : ∀ w', Ext [] w w' → K (.agg (bc (digest a)).toArray) w') :
    Calls Tryd.prog 172 #[.pointer (some ⟨p, 0, none⟩)] w (retK K) := by
  refine c172_calls _ w K ?_
  unfold c172
  have s : Sep [] w w [] [rH p F (hm a)] := (Sep.nil w).addR (T := rH p F (hm a)) h (by simp)
  refine s.alloc zero_dig cells_dig fun b2 w1 s _ => ?_
  refine fnW_of (by kernel_rfl) (forkH_c (s.rat 0 rfl) (by have := hm_rest a; omega) fun q G w2 hq e hG => ?_)
  have s := s.add (T := rH q G (hm a)) hq e hG
  refine Hash.n (s.rat 0 rfl) ?_
  have hn0 : ((hm a).n : Int) = (a.length : Int) := rfl
  rw [hn0]
  refine fnW_of (by kernel_rfl) (pad_c _ (fun hh => absurd ⟨by omega, by omega⟩ hh) fun _ v w3 hv e hvn => ?_)
  rw [Int.toNat_natCast] at hv
  have s := s.add (T := rO v 5 1 (bc (padM a.length)) (padM a.length).length) hv e hvn
  have hpl : (padM a.length).length ≤ 73 := by rw [padM_length]; have : zeros a.length < 64 := Nat.mod_lt _ (by decide); omega
  have hdis := (List.pairwise_cons.1 s.dis).1 (rH q G (hm a)) (by simp)
  refine fnW_of (by kernel_rfl) (takeA_c (s.at 1 rfl) (OwnAt.rd (s.at 0 rfl)) (fun c hc hcm => hdis c (by
    show c ∈ slB v
    unfold rdB at hcm; split at hcm
    · cases hcm
    · exact hcm) hc) (by omega) fun G2 w4 hq2 m2 => ?_)
  have s := s.upd 1 rfl (T' := rH q G2 (hm (a ++ padM a.length))) hq2 m2.ext m2.own
  have s : Sep [] w w4 [rO v 5 1 (bc (padM a.length)) (padM a.length).length, rH q G2 (hm (a ++ padM a.length)), rB b2 (bc (List.replicate 32 0)) 77] [rH p F (hm a)] := s
  refine s.alloc zero_dig cells_dig fun b4 w5 s _ => ?_
  refine bindX_i fun J0 h0 => bindX_i fun J1 h1 => bindX_i fun J2 h2 => ?_
  generalize hst : (hm (a ++ padM a.length)).st = st at *
  have hdg : outM st = digest a := by rw [← hst]; rfl
  have h8 : st.length = 8 := by rw [← hst]; exact hm_st _
  refine loop_i (fun m fr wr => ∃ i : Nat, m = 32 - i ∧ i ≤ 32 ∧ fr 2 = .pointer (some ⟨b2, 0, none⟩) ∧ fr 3 = .pointer (some ⟨q, 0, none⟩) ∧ fr 4 = .pointer (some ⟨b4, 0, none⟩) ∧ fr 15 = .int .i64 i ∧
    Sep [] w wr [rB b4 (bc ((outM st).take i ++ List.replicate (32 - i) 0)) 77, rO v 5 1 (bc (padM a.length)) (padM a.length).length, rH q G2 (hm (a ++ padM a.length)), rB b2 (bc (List.replicate 32 0)) 77] [rH p F (hm a)]) 32 ?_ ?_
  · exact ⟨0, rfl, by omega, rfl, rfl, rfl, rfl, s⟩
  · rintro m fr wr J ⟨i, rfl, hi, f2, f3, f4, f15, s⟩ hJ hX
    rw [f15]
    refine nlss (y := 32) (cond_d (fun hlt => ?_) (fun hlt => ?_))
    · rw [f3, f4]
      refine nquo (y := 4) (by decide) (by omega) ?_
      rw [nilW_e]
      refine off_i (k := 0) ?_
      refine idxA1 (i := i / 4) (by omega) ?_
      obtain ⟨rv, hq, _⟩ : Hash wr q G2 (hm (a ++ padM a.length)) := s.at 2 rfl
      refine load1 (v := uv (st.getD (i / 4) 0)) hq.hdr.r ?_ ?_
      · unfold hcells
        rw [hst, List.getElem?_append_left (by rw [uc_length]; omega)]
        exact uc_get (by omega)
      refine nrem (y := 4) (by decide) ?_
      refine nmul (x := 8) (by omega) ?_
      refine nsub (x := 24) (by omega) (by decide) ?_
      unfold uv
      refine nshr (by show 24 - 8 * (i % 4) ≤ 32; omega) ?_
      rw [conv_byte und_u32 und_u8]
      refine idxA1 hlt ?_
      refine s.store1 0 rfl rfl (by rw [bc_length, List.length_append, List.length_take, List.length_replicate, outM_length]; omega) rfl fun w6 s _ => ?_
      rw [bc_set, outM_step _ _ hlt] at s
      refine nadd (y := 1) (by omega) ?_
      exact hJ (32 - (i + 1)) _ _ (by omega) ⟨i + 1, rfl, by omega, f2, f3, f4, rfl, s⟩
    · obtain rfl : i = 32 := by omega
      have tail : ∀ (fr : Fr) (wr : World), fr 2 = .pointer (some ⟨b2, 0, none⟩) → fr 4 = .pointer (some ⟨b4, 0, none⟩) → Sep [] w wr [rB b4 (bc (digest a)) 77, rO v 5 1 (bc (padM a.length)) (padM a.length).length, rH q G2 (hm (a ++ padM a.length)), rB b2 (bc (List.replicate 32 0)) 77] [rH p F (hm a)] → J1 .normal fr wr := by
        intro fr wr f2 f4 s
        refine seq_n h1 ?_
        rw [f2, f4]
        have hl : (bc (digest a)).length = 32 := by rw [bc_length, digest_length]
        refine s.loadAll 0 rfl hl ?_
        refine s.storeAll 3 rfl hl rfl (bc_one _) fun w7 s _ => ?_
        refine s.loadAll 3 rfl hl ?_
        exact hK _ s.ext
      refine hX _ _ _ (by simp) (h2 _ _ _ (blk_x (tail _ _ f2 f4 ?_)))
      have e : (outM st).take 32 ++ List.replicate (32 - 32) 0 = digest a := by rw [hdg]; simp [digest_length, List.take_of_length_le]
      rw [e] at s
      exact s

theorem sum_c {w : World} {K : VPost} {x : Value} {b : Bytes} (hx : RdSl w x 1 (bc b) b.length) (hc : capOk x) (hn : b.length ≤ 2 ^ 36) (hK : ∀ w', Ext [] w w' → K (.agg (bc (digest b)).toArray) w') :
    Calls Tryd.prog 129 #[x] w (retK K) := by
  refine c129_calls _ w K ?_
  unfold c129
  have s : Sep [] w w [] [rR x 1 (bc b) b.length] := (Sep.nil w).addR (T := rR x 1 (bc b) b.length) hx (by simp)
  refine s.alloc zero_dig cells_dig fun b2 w1 s _ => ?_
  refine fnW_of (by kernel_rfl) (newH_c fun p F w2 hh e hF => ?_)
  have s := s.add (T := rH p F (hm [])) hh e hF
  obtain ⟨ti, hi, hz, hs, hby⟩ := tyI_spec (by kernel_rfl : tyI Tryd.prog 22 = some (.slice none 0 0, 1, 24))
  have hxc : x.cells = #[x] := by obtain ⟨a, c, rfl⟩ := hx.len; rfl
  refine s.lit (vs := [x]) (by kernel_rfl : Tryd.prog.underlying 45 = some (.slice 22)) hi hz rfl (by intro y hy; simp at hy; subst hy; rw [hs, hxc]; rfl) (by rw [hs]; simp) fun t w3 s ht _ => ?_
  rw [hs, flat_one _ hxc] at s
  have s : Sep [] w w3 [rO t 22 1 [x] 1, rH p F (hm []), rB b2 (bc (List.replicate 32 0)) 77] [rR x 1 (bc b) b.length] := s
  have hdis := (List.pairwise_cons.1 s.dis).1 (rH p F (hm [])) (by simp)
  refine fnW_of (by kernel_rfl) (writeH_c (hs := [x]) (ls := [b]) (s.at 1 rfl) (rows_one (OwnAt.rd (s.at 0 rfl)) (s.rat 0 rfl) hc) ?_ (by simp; omega) (by simp) fun F2 w4 h2 m2 => ?_)
  · intro c hcF hcm
    simp only [rowsF, List.append_nil, List.mem_append] at hcm
    rcases hcm with hcm | hcm
    · exact hdis c (by
        show c ∈ slB t
        exact hcm) hcF
    · exact s.disR (rH p F (hm [])) (by simp) (rR x 1 (bc b) b.length) (by simp) c hcF hcm
  have s := s.upd 1 rfl (T' := rH p F2 (hm ([] ++ [b].flatten))) h2 m2.ext m2.own
  have e1 : ([] : Bytes) ++ [b].flatten = b := by simp
  rw [e1] at s
  have s : Sep [] w w4 [rO t 22 1 [x] 1, rH p F2 (hm b), rB b2 (bc (List.replicate 32 0)) 77] [rR x 1 (bc b) b.length] := s
  refine fnW_of (by kernel_rfl) (sumH_c (s.at 1 rfl) hn fun w5 e => ?_)
  have s := s.ext0 e
  have hl : (bc (digest b)).length = 32 := by rw [bc_length, digest_length]
  refine s.storeAll 2 rfl hl rfl (bc_one _) fun w7 s _ => ?_
  refine s.loadAll 2 rfl hl ?_
  exact hK _ s.ext
end Go.Proofs.YtedebapgmfnflaaDoor
