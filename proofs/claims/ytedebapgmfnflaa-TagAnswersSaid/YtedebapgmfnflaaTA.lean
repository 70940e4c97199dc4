/- The law that a digest comes back from its digits: its walk. -/
import Derived.Test.YtedebapgmfnflaaT8
namespace Go.Proofs.Ytedebapgmfnflaa
open Go
set_option maxRecDepth 100000

theorem und_boolB : Try.prog.underlying 4 = some .bool := by kernel_rfl
set_option maxHeartbeats 2000000 in
theorem hexLaw_walk {w : World} {K : VPost} {a b : Bytes} (ha : a.length = 32) (hb : b.length = 32) (hK : ∀ w', Ext [] w w' → K (.bool true) w') :
    Calls Try.prog 16 #[.agg (bc a).toArray, .agg (bc b).toArray] w (retK K) := by
  refine c16_calls _ _ w K ?_
  unfold c16
  have hbl : ∀ {d : Bytes}, d.length = 32 → (bc d).length = 32 := fun h => by rw [bc_length]; exact h
  refine (Sep.nil w).box fun b2 w1 s _ => ?_
  refine s.box fun b3 w2 s _ => ?_
  have s : Sep [] w w2 [rB b3 (bc b) 62, rB b2 (bc a) 62] [] := s
  refine fnW_of (by kernel_rfl) (alive2_c fun w3 e => ?_)
  have s := s.ext0 e
  rw [notN, Bool.not_true, condW_f]
  refine s.loadAll 1 rfl (hbl ha) ?_
  refine fnW_of (by kernel_rfl) (hex_c ha fun w4 e => ?_)
  have s := s.ext0 e
  refine s.loadAll 0 rfl (hbl hb) ?_
  refine fnW_of (by kernel_rfl) (hex_c hb fun w5 e => ?_)
  have s := s.ext0 e
  refine fnW_of (by kernel_rfl) (fromHex_c fun w6 e => ?_)
  have s := s.ext0 e
  rw [fromHex_hexB ha, extr0, extr1]
  refine s.alloc zero_dig cells_dig fun b7 w7 s _ => ?_
  refine s.storeAll 0 rfl (hbl ha) (by simp [bc]) (bc_one _) fun w8 s _ => ?_
  have s : Sep [] w w8 [rB b7 (bc a) 62, rB b3 (bc b) 62, rB b2 (bc a) 62] [] := s
  have hcx : Lib.compareBytes (hexB a) (hexB b) = Lib.compareBytes a b := compare_hexB a b (by rw [ha, hb])
  refine bindX_i fun J25 h25 => bindX_i fun J26 h26 => ?_
  have fin26 : ∀ (fr : Fr), fr 2 = .pointer (some ⟨b2, 0, none⟩) → fr 3 = .pointer (some ⟨b3, 0, none⟩) → fr 5 = .string ⟨(hexB a).toArray⟩ → fr 6 = .string ⟨(hexB b).toArray⟩ → fr 7 = .pointer (some ⟨b7, 0, none⟩) → fr 8 = .bool true → fr 9 = .int .i64 (if Lib.compareBytes a b < 0 then -1 else 0) → J26 .normal fr w8 := by
    intro fr f2 f3 f5 f6 f7 f8 f9
    refine seq_n h26 ?_
    refine bindX_i fun J29 h29 => ?_
    have fin29 : ∀ (fr : Fr), fr 2 = .pointer (some ⟨b2, 0, none⟩) → fr 3 = .pointer (some ⟨b3, 0, none⟩) → fr 5 = .string ⟨(hexB a).toArray⟩ → fr 6 = .string ⟨(hexB b).toArray⟩ → fr 7 = .pointer (some ⟨b7, 0, none⟩) → fr 8 = .bool true → fr 9 = .int .i64 (Lib.compareBytes a b) → J29 .normal fr w8 := by
      intro fr f2 f3 f5 f6 f7 f8 f9
      refine seq_n h29 ?_
      rw [f2, f3, f5, f6, f7, f8, f9]
      repeat with_reducible refine gs_t ?_
      refine s.loadAll 0 rfl (hbl ha) ?_
      repeat with_reducible refine gs_t ?_
      refine s.loadAll 2 rfl (hbl ha) ?_
      repeat with_reducible refine gs_t ?_
      refine dig_eql ha ha ?_
      rw [decide_eq_true rfl]
      refine pick_ti ?_
      repeat with_reducible refine gs_t ?_
      refine s.loadAll 2 rfl (hbl ha) ?_
      repeat with_reducible refine gs_t ?_
      refine s.loadAll 1 rfl (hbl hb) ?_
      repeat with_reducible refine gs_t ?_
      refine fnW_of (by kernel_rfl) (compare_c ha hb fun w9 e => ?_)
      have s := s.ext0 e
      repeat with_reducible refine gs_t ?_
      rw [ieql, decide_eq_true rfl]
      refine pick_ti ?_
      repeat with_reducible refine gs_t ?_
      refine s.loadAll 1 rfl (hbl hb) ?_
      repeat with_reducible refine gs_t ?_
      refine s.loadAll 2 rfl (hbl ha) ?_
      repeat with_reducible refine gs_t ?_
      refine fnW_of (by kernel_rfl) (compare_c hb ha fun w10 e => ?_)
      have s := s.ext0 e
      repeat with_reducible refine gs_t ?_
      have h3 := cmp_three a b
      rw [negN, i64_fit (by omega)]
      repeat with_reducible refine gs_t ?_
      rw [ieql, cmp_swap a b, decide_eq_true rfl]
      refine pick_ti ?_
      repeat with_reducible refine gs_t ?_
      refine s.loadAll 2 rfl (hbl ha) ?_
      repeat with_reducible refine gs_t ?_
      refine s.loadAll 1 rfl (hbl hb) ?_
      repeat with_reducible refine gs_t ?_
      refine dig_eql ha hb ?_
      repeat with_reducible refine gs_t ?_
      refine str_eql ?_
      repeat with_reducible refine gs_t ?_
      refine bool_eql und_boolB ?_
      refine pick_ti ?_
      have e : (decide (a = b) == decide (hexB a = hexB b)) = true := by
        have := hexB_inj ha hb
        by_cases h : a = b
        · subst h; simp
        · have h2 : ¬ hexB a = hexB b := fun e => h (this.1 e)
          simp [h, h2]
      rw [e]
      exact hK _ s.ext
    rw [f5, f6]
    refine str_gtr ?_
    rw [hcx]
    refine cond_d (fun h => ?_) (fun h => ?_)
    · refine fin29 _ f2 f3 f5 f6 f7 f8 ?_
      have := cmp_three a b
      show Value.int .i64 1 = _
      congr 1
      omega
    · refine fin29 _ f2 f3 f5 f6 f7 f8 ?_
      show fr 9 = _
      rw [f9]
      have := cmp_three a b
      congr 1
      split <;> omega
  refine str_lss ?_
  rw [hcx]
  refine cond_d (fun h => ?_) (fun h => ?_)
  · refine fin26 _ rfl rfl rfl rfl rfl rfl ?_
    rw [if_pos h]; rfl
  · refine fin26 _ rfl rfl rfl rfl rfl rfl ?_
    rw [if_neg h]; rfl
end Go.Proofs.Ytedebapgmfnflaa
