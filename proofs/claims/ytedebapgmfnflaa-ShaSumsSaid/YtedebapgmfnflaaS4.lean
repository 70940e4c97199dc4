/- SHA-256: the walks of what turns, mixes and schedules words, by contracts. Condition: the slice has a block's 64 bytes. -/
import Derived.Test.YtedebapgmfnflaaS2
import Derived.Test.YtedebapgmfnflaaH2
import Derived.Test.YtedebapgmfnflaaCS
import Derived.Test.YtedebapgmfnflaaE1
namespace Go.Proofs.Ytedebapgmfnflaa
open Go
set_option maxRecDepth 100000

section
variable {P : Program} {S : List Nat} {w0 w : World} {L R : List Res} {K : VPost}
theorem idxA1 {b n i : Nat} {k : IntKind} (hi : i < n) (h : K (.pointer (some ⟨b, i, none⟩)) w) : idxW (some (some n, 1)) (.pointer (some ⟨b, 0, none⟩)) (.int k i) w K :=
  idxA_i hi (by rw [Nat.mul_one, Nat.zero_add]; exact h)
theorem Sep.ldw {b : Nat} {l : List UInt32} {t : TypeId} (s : Sep S w0 w L R) (i : Nat) (hL : L[i]? = some (rB b (uc l) t)) {k : Nat} (hk : k < l.length) (h : K (uv (l.getD k 0)) w) : loadW (some (false, 1)) (.pointer (some ⟨b, k, none⟩)) w K :=
  s.load1 i hL (uc_get hk) h
theorem Sep.stw {g : Bool} {b : Nat} {l : List UInt32} {t : TypeId} {x : UInt32} {K : World → Prop} (s : Sep S w0 w L R) (i : Nat) (hL : L[i]? = some (rB b (uc l) t)) {k : Nat} (hk : k < l.length)
    (h : ∀ w', Sep S w0 w' (L.set i (rB b (uc (l.set k x)) t)) R → K w') : storeW (some (g, 1)) (.pointer (some ⟨b, k, none⟩)) (uv x) w K :=
  s.store1 i hL rfl (by rw [uc_length]; exact hk) rfl fun w' s' _ => h w' (by rw [← uc_set]; exact s')
end

theorem rot_and : ∀ r : Fin 32, 0 < r.val → IntKind.u64.wrap (BitVec.ofInt IntKind.u64.bits (IntKind.u64.wrap (-(r.val : Int))) &&& BitVec.ofInt IntKind.u64.bits 31).toNat = ((32 - r.val : Nat) : Int) := by decide +kernel

theorem und_int : Try.prog.underlying 3 = some (.int .i64) := by kernel_rfl
theorem und_uint : Try.prog.underlying 54 = some (.int .u64) := by kernel_rfl
theorem und_u8 : Try.prog.underlying 5 = some (.int .u8) := by kernel_rfl
theorem und_u32 : Try.prog.underlying 69 = some (.int .u32) := by kernel_rfl

/-- A word turned. -/
theorem rot_c {w : World} {K : VPost} (x : UInt32) (r : Nat) (h0 : 0 < r) (h1 : r < 32) (hK : K (uv (rr x r)) w) : Calls Try.prog 105 #[uv x, .int .i64 (-(r : Int))] w (retK K) := by
  refine c105_calls _ _ w K ?_
  unfold c105
  rw [convN_i und_int und_uint, binN_e, bin_and, rot_and ⟨r, h1⟩ h0]
  simp only
  rw [u32_shl (show 32 - r < 32 by omega), binN_e, bin_sub, wrap_u64]
  have : ((32 : Int) - ((32 - r : Nat) : Int)) % 18446744073709551616 = (r : Int) := by omega
  rw [this, u32_shr h1, u32_or]
  exact hK

theorem mix_c {w : World} {K : VPost} (x l : UInt32) (a b : Nat) (ha0 : 0 < a) (ha1 : a < 32) (hb0 : 0 < b) (hb1 : b < 32) (hK : K (uv (rr x a ^^^ rr x b ^^^ l)) w) :
    Calls Try.prog 104 #[uv x, .int .i64 a, .int .i64 b, uv l] w (retK K) := by
  refine c104_calls _ _ _ _ w K ?_
  unfold c104
  rw [negN, i64_self (by omega)]
  refine fnW_of (by kernel_rfl) (rot_c x a ha0 ha1 ?_)
  rw [negN, i64_self (by omega)]
  refine fnW_of (by kernel_rfl) (rot_c x b hb0 hb1 ?_)
  rw [u32_xor, u32_xor]
  exact hK

/-! ### Arrays of words -/
theorem zero_w8 : zeroO Try.prog 70 = some (.agg (Array.replicate 8 (.int .u32 0))) := by kernel_rfl
theorem zero_w64 : zeroO Try.prog 138 = some (.agg (Array.replicate 64 (.int .u32 0))) := by kernel_rfl
theorem cells_w8 : (Value.agg (Array.replicate 8 (.int .u32 0))).cells.toList = uc (List.replicate 8 0) := rfl
theorem cells_w64 : (Value.agg (Array.replicate 64 (.int .u32 0))).cells.toList = uc (List.replicate 64 0) := rfl

theorem build_words {w : World} {K : VPost} {t : TypeId} {n : Nat} {ti : TypeInfo} {parts : List (Nat × Value)} {l : List UInt32} (hu : Try.prog.underlying t = some (.array n 69)) (hi : Try.prog.info? t = some ti) (hz : ti.zero = some (.agg (Array.replicate n (.int .u32 0))))
    (hf : fillA 1 (List.replicate n (Value.int .u32 0)) parts = some (uc l)) (h : K (.agg (uc l).toArray) w) : insW Try.prog (Instr.build t parts.toArray) w K := by
  obtain ⟨ui, hui, huz, husz, huby⟩ := tyI_spec (by kernel_rfl : tyI Try.prog 69 = some (.int .u32 0, 1, 4))
  refine buildA_i hu hi hz hui ?_ h
  rw [husz]
  simpa [Value.cells] using hf
theorem build_w8 {w : World} {K : VPost} {parts : List (Nat × Value)} {l : List UInt32} (hf : fillA 1 (List.replicate 8 (Value.int .u32 0)) parts = some (uc l)) (h : K (.agg (uc l).toArray) w) : insW Try.prog (Instr.build 70 parts.toArray) w K := by
  obtain ⟨ti, hi, hz, hs, hb⟩ := tyI_spec (by kernel_rfl : tyI Try.prog 70 = some (.agg (Array.replicate 8 (.int .u32 0)), 8, 32))
  exact build_words (by kernel_rfl) hi hz hf h
theorem build_w64 {w : World} {K : VPost} {parts : List (Nat × Value)} {l : List UInt32} (hf : fillA 1 (List.replicate 64 (Value.int .u32 0)) parts = some (uc l)) (h : K (.agg (uc l).toArray) w) : insW Try.prog (Instr.build 138 parts.toArray) w K := by
  obtain ⟨ti, hi, hz, hs, hb⟩ := tyI_spec (by kernel_rfl : tyI Try.prog 138 = some (.agg (Array.replicate 64 (.int .u32 0)), 64, 256))
  exact build_words (by kernel_rfl) hi hz hf h

theorem first_c {w : World} {K : VPost} (hK : ∀ w', Ext [] w w' → K (.agg (uc shaH).toArray) w') : Calls Try.prog 79 #[] w (retK K) := by
  refine c79_calls w K ?_
  unfold c79
  refine (Sep.nil w).alloc zero_w8 cells_w8 fun b w1 s _ => ?_
  refine build_w8 (l := shaH) (by kernel_rfl) ?_
  refine s.storeAll 0 rfl rfl rfl (uc_one _) fun w2 s _ => s.loadAll 0 rfl rfl ?_
  exact hK w2 s.ext

theorem constants_c {w : World} {K : VPost} (hK : ∀ w', Ext [] w w' → K (.agg (uc shaK).toArray) w') : Calls Try.prog 102 #[] w (retK K) := by
  refine c102_calls w K ?_
  unfold c102
  refine (Sep.nil w).alloc zero_w64 cells_w64 fun b w1 s _ => ?_
  refine build_w64 (l := shaK) (by kernel_rfl) ?_
  refine s.storeAll 0 rfl rfl rfl (uc_one _) fun w2 s _ => s.loadAll 0 rfl rfl ?_
  exact hK w2 s.ext

theorem set_mid {α : Type} (a : List α) (x y : α) (r : List α) (n : Nat) (h : a.length = n) : (a ++ x :: r).set n y = a ++ y :: r := by
  subst h
  rw [List.set_append_right _ _ (Nat.le_refl _), Nat.sub_self, List.set_cons_zero]
theorem get_mid {α : Type} (a : List α) (x : α) (r : List α) (n : Nat) (h : a.length = n) : (a ++ x :: r)[n]? = some x := by
  subst h
  rw [List.getElem?_append_right (Nat.le_refl _), Nat.sub_self]; rfl
theorem get_left (a r : List UInt32) (n : Nat) (h : n < a.length) : (uc (a ++ r))[n]? = some (uv (a.getD n 0)) := by
  rw [uc_append, List.getElem?_append_left (by rw [uc_length]; exact h), uc_get h]

def accW (b : Bytes) (t : Nat) : Nat → UInt32
  | 0 => 0
  | j + 1 => accW b t j <<< 8 ||| u8w (b.getD (4 * t + j) 0)
theorem accW_word (b : Bytes) (t : Nat) : accW b t 4 = word b t := by
  unfold accW accW accW accW accW word
  rw [zero_shl, Nat.add_zero]

theorem schedule_c {w : World} {K : VPost} {v : Value} {blk : Bytes} (hb : RdSl w v 1 (bc blk) 64) (hcap : capOk v) (hK : ∀ w', Ext [] w w' → K (.agg (uc (sched blk 64)).toArray) w') :
    Calls Try.prog 103 #[v] w (retK K) := by
  have hbl : blk.length = 64 := by have := hb.1; rw [bc_length] at this; omega
  refine c103_calls _ w K ?_
  unfold c103
  refine ((Sep.nil w).addR (T := rR v 1 (bc blk) 64) hb (by simp)).alloc zero_w64 cells_w64 fun b w1 s _ => ?_
  refine bindX_i fun J0 h0 => bindX_i fun J1 h1 => bindX_i fun J2 h2 => ?_
  refine loop_i (fun m fr wr => ∃ t : Nat, m = 64 - t ∧ t ≤ 64 ∧ fr 0 = v ∧ fr 2 = .pointer (some ⟨b, 0, none⟩) ∧ fr 8 = .int .i64 t ∧
    Sep [] w wr [rB b (uc (sched blk t ++ List.replicate (64 - t) 0)) 138] [rR v 1 (bc blk) 64]) 64 ?_ ?_
  · exact ⟨0, rfl, by omega, rfl, rfl, rfl, s⟩
  · rintro m fr wr J ⟨t, rfl, ht, f0, f2, f8, s⟩ hJ hX
    rw [f8]
    refine nlss (x := t) (y := 64) ?_
    refine cond_d (fun hlt => ?_) (fun hlt => ?_)
    · refine bindX_i fun J3 h3 => bindX_i fun J4 h4 => bindX_i fun J5 h5 => ?_
      have hsl := sched_length blk t
      have hrep : List.replicate (64 - t) (0 : UInt32) = 0 :: List.replicate (63 - t) 0 := by rw [show 64 - t = (63 - t) + 1 by omega, List.replicate_succ]
      rw [hrep] at s
      -- the round's end
      have fin : ∀ (fr : Fr) (wr : World), fr 0 = v → fr 2 = .pointer (some ⟨b, 0, none⟩) → fr 8 = .int .i64 t → Sep [] w wr [rB b (uc (sched blk (t + 1) ++ List.replicate (63 - t) 0)) 138] [rR v 1 (bc blk) 64] → J3 .normal fr wr := by
        intro fr wr f0 f2 f8 s
        refine seq_n h3 ?_
        rw [f8]
        refine nadd (x := t) (y := 1) (by omega) ?_
        exact hJ (64 - (t + 1)) _ _ (by omega) ⟨t + 1, rfl, by omega, f0, f2, rfl, by rwa [show 64 - (t + 1) = 63 - t by omega]⟩
      refine nlss (x := t) (y := 16) (cond_d (fun h16 => ?_) (fun h16 => ?_))
      · refine bindX_i fun J6 h6 => ?_
        refine nmul (x := 4) (y := t) (by omega) (nmul (x := 4) (y := t) (by omega) (nadd (x := 4 * t) (y := 4) (by omega) ?_))
        rw [f0]
        refine RdSl.cut (l := 4 * t) (h := 4 * t + 4) (s.rat 0 rfl) hcap rfl rfl (by omega) (by omega) fun v' hv' hc' hs' hf' => ?_
        have hpart : (List.take ((4 * t + 4 - 4 * t) * 1) (List.drop (4 * t * 1) (bc blk))) = bc ((blk.drop (4 * t)).take 4) := by
          rw [bc_part, Nat.mul_one, Nat.mul_one, show 4 * t + 4 - 4 * t = 4 by omega]
        have hl4 : ((blk.drop (4 * t)).take 4).length = 4 := by rw [List.length_take, List.length_drop]; omega
        rw [hpart, show 4 * t + 4 - 4 * t = 4 by omega] at hv'
        rw [hpart] at hf'
        have s := s.part (T := rR v' 1 (bc ((blk.drop (4 * t)).take 4)) 4) (U := rR v 1 (bc blk) 64) (by simp) hv' hf'
        obtain ⟨va, vc, hva⟩ := hv'.len
        have hlen : ∀ (w : World) (K : VPost), lenW Try.prog (some true) #[34] 3 #[v'] w K = K (.int .i64 (4 : Nat)) w := fun w K => by rw [hva, len_s]
        rw [hlen]
        refine bindX_i fun J7 h7 => ?_
        refine loop_i (fun m fr wr => ∃ j : Nat, m = 4 - j ∧ j ≤ 4 ∧ fr 0 = v ∧ fr 2 = .pointer (some ⟨b, 0, none⟩) ∧ fr 8 = .int .i64 t ∧ fr 3 = .int .i64 t ∧ fr 19 = v' ∧ fr 20 = .int .i64 (4 : Nat) ∧ fr 21 = .int .i64 j ∧
          Sep [] w wr [rB b (uc (sched blk t ++ accW blk t j :: List.replicate (63 - t) 0)) 138] [rR v' 1 (bc ((blk.drop (4 * t)).take 4)) 4, rR v 1 (bc blk) 64]) 4 ?_ ?_
        · exact ⟨0, rfl, by omega, f0, f2, f8, rfl, rfl, rfl, rfl, s⟩
        · rintro m fr wr I ⟨j, rfl, hj, g0, g2, g8, g3, g19, g20, g21, s⟩ hI hY
          rw [g20, g21]
          refine nlss (x := j) (y := 4) (cond_d (fun hj4 => ?_) (fun hj4 => ?_))
          · rw [g19, g2, g3]
            obtain ⟨pb, po, hix, hld⟩ := RdSl.at1 (s.rat 0 rfl) (i := j) (by rw [hl4]; exact hj4) .i64
            refine hix _ (hld _ ?_)
            have hget : ((blk.drop (4 * t)).take 4).getD j 0 = blk.getD (4 * t + j) 0 := by
              simp only [List.getD_eq_getElem?_getD, List.getElem?_take, hj4, if_true, List.getElem?_drop]
            rw [hget]
            have hl64 : (sched blk t ++ accW blk t j :: List.replicate (63 - t) 0).length = 64 := by simp [hsl]; omega
            have hg : (sched blk t ++ accW blk t j :: List.replicate (63 - t) 0).getD t 0 = accW blk t j := by rw [List.getD_eq_getElem?_getD, get_mid _ _ _ t hsl]; rfl
            refine idxA1 hlt (s.ldw 0 rfl (by omega) ?_)
            rw [hg, show ((8 : Int)) = ((8 : Nat) : Int) from rfl, u32_shl (show 8 < 32 by decide), conv_u8w und_u8 und_u32, u32_or]
            refine idxA1 hlt (s.stw 0 rfl (by omega) fun w2 s => ?_)
            rw [set_mid _ _ _ _ t hsl] at s
            have s : Sep [] w w2 [rB b (uc (sched blk t ++ accW blk t (j + 1) :: List.replicate (63 - t) 0)) 138] _ := s
            refine nadd (x := j) (y := 1) (by omega) ?_
            exact hI (4 - (j + 1)) _ _ (by omega) ⟨j + 1, rfl, by omega, g0, g2, g8, g3, g19, g20, rfl, s⟩
          · obtain rfl : j = 4 := by omega
            rw [accW_word] at s
            refine hY _ _ _ (by simp) (h7 _ _ _ (blk_x (seq_n h6 (fin _ _ g0 g2 g8 ?_))))
            have s := s.sub (L' := [rB b (uc (sched blk t ++ word blk t :: List.replicate (63 - t) 0)) 138]) (R' := [rR v 1 (bc blk) 64]) (List.Sublist.refl _) (by simp)
            have e : sched blk (t + 1) ++ List.replicate (63 - t) 0 = sched blk t ++ word blk t :: List.replicate (63 - t) 0 := by simp [sched, wAt, h16]
            rw [e]; exact s
      · have far : ∀ (fr : Fr) (wr : World), fr 0 = v → fr 2 = .pointer (some ⟨b, 0, none⟩) → fr 8 = .int .i64 t → fr 3 = .int .i64 t → Sep [] w wr [rB b (uc (sched blk t ++ 0 :: List.replicate (63 - t) 0)) 138] [rR v 1 (bc blk) 64] → J5 .normal fr wr := by
          intro fr wr f0 f2 f8 f3 s
          refine seq_n h5 ?_
          rw [f2, f3]
          have s := s.drew
          generalize wr.drew = wr at *
          have hl64 : (sched blk t ++ 0 :: List.replicate (63 - t) 0).length = 64 := by simp [hsl]; omega
          have hg : ∀ k, k < t → (sched blk t ++ 0 :: List.replicate (63 - t) 0).getD k 0 = (sched blk t).getD k 0 := by
            intro k hk
            rw [List.getD_eq_getElem?_getD, List.getElem?_append_left (by omega), List.getD_eq_getElem?_getD]
          refine nsub (x := t) (y := 15) (by omega) (by omega) (idxA1 (by omega) (s.ldw 0 rfl (by omega) ?_))
          refine nsub (x := t) (y := 2) (by omega) (by omega) (idxA1 (by omega) (s.ldw 0 rfl (by omega) ?_))
          have s := s.drew
          generalize wr.drew = wr at *
          refine nsub (x := t) (y := 16) (by omega) (by omega) (idxA1 (by omega) (s.ldw 0 rfl (by omega) ?_))
          rw [show ((3 : Int)) = ((3 : Nat) : Int) from rfl, u32_shr (show 3 < 32 by decide)]
          refine nsub (x := t) (y := 7) (by omega) (by omega) (idxA1 (by omega) (s.ldw 0 rfl (by omega) ?_))
          rw [show ((10 : Int)) = ((10 : Nat) : Int) from rfl, u32_shr (show 10 < 32 by decide)]
          refine fnW_of (by kernel_rfl) (mix_c _ _ 7 18 (by decide) (by decide) (by decide) (by decide) ?_)
          refine ⟨s.ldw 0 rfl (by omega) ⟨rfl, rfl⟩, s.ldw 0 rfl (by omega) ⟨rfl, rfl⟩, ?_⟩
          rw [u32_add, u32_add]
          refine fnW_of (by kernel_rfl) (mix_c _ _ 17 19 (by decide) (by decide) (by decide) (by decide) ?_)
          refine ⟨s.ldw 0 rfl (by omega) ⟨rfl, rfl⟩, s.ldw 0 rfl (by omega) ⟨rfl, rfl⟩, ?_⟩
          rw [u32_add]
          rw [hg _ (by omega), hg _ (by omega), hg _ (by omega), hg _ (by omega)]
          refine idxA1 hlt (s.stw 0 rfl (by omega) fun w2 s => ?_)
          rw [set_mid _ _ _ _ t hsl] at s
          refine fin _ _ f0 f2 f8 ?_
          have e : sched blk (t + 1) ++ List.replicate (63 - t) 0 = sched blk t ++ wNext (sched blk t) t :: List.replicate (63 - t) 0 := by simp [sched, wAt, h16]
          rw [e]
          exact s
        exact far _ _ f0 f2 f8 rfl s
    · obtain rfl : t = 64 := by omega
      refine hX _ _ _ (by simp) (h2 _ _ _ (blk_x ?_))
      have tail : ∀ (fr : Fr) (wr : World), fr 2 = .pointer (some ⟨b, 0, none⟩) → Sep [] w wr [rB b (uc (sched blk 64 ++ List.replicate (64 - 64) 0)) 138] [rR v 1 (bc blk) 64] → J1 .normal fr wr := ?_
      · exact tail _ _ f2 s
      intro fr wr f2 s
      refine seq_n h1 ?_
      rw [f2]
      have hc : (uc (sched blk 64 ++ List.replicate (64 - 64) 0)) = uc (sched blk 64) := by simp
      rw [hc] at s
      have hl : (uc (sched blk 64)).length = 64 := by rw [uc_length, sched_length]
      refine s.loadAll 0 rfl hl (s.storeAll 0 rfl hl hl (uc_one _) fun w2 s _ => s.loadAll 0 rfl hl ?_)
      exact hK w2 s.ext
end Go.Proofs.Ytedebapgmfnflaa
