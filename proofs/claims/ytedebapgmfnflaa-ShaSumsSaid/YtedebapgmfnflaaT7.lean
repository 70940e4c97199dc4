/- The laws of sha: sums; its walk. -/
import Derived.Test.YtedebapgmfnflaaT6
import Derived.Test.YtedebapgmfnflaaR4
namespace Go.Proofs.Ytedebapgmfnflaa
open Go
set_option maxRecDepth 100000

theorem uc_ints (l : List UInt32) : uc l = (l.map fun b => (b.toNat : Int)).map (Value.int .u32) := by simp [uc, uv]
theorem uv_inj {a b : UInt32} (h : uv a = uv b) : a = b := by
  unfold uv at h
  simp only [Value.int.injEq, true_and] at h
  exact UInt32.toNat_inj.1 (by omega)
theorem w8_eql {w : World} {K : VPost} {c : Bool} {a : List UInt32} (ha : a.length = 8) (h : K (.bool true) w) : binW Try.prog .eql 70 c (.agg (uc a).toArray) (.agg (uc a).toArray) w K := by
  obtain ⟨ui, hui, huz, husz, huby⟩ := tyI_spec ty_u32
  rw [uc_ints a, bin_ints_eql (by kernel_rfl : Try.prog.underlying 70 = some (.array 8 69)) hui (by kernel_rfl) (by kernel_rfl) (by kernel_rfl) (by kernel_rfl) _ _ (by simpa using ha) (by simpa using ha), decide_eq_true rfl]
  exact h

set_option maxHeartbeats 2000000 in
theorem sums_walk {w : World} {K : VPost} {v : Value} {b : Bytes} {st : List UInt32} {blk : Bytes} {n : Int} (hv : RdSl w v 1 (bc b) b.length) (hst : st.length = 8) (hb : blk.length = 64) (hK : ∀ w', Ext [] w w' → K (.bool true) w') :
    Calls Try.prog 11 #[v, .agg (uc st).toArray, .agg (bc blk).toArray, .int .i64 n] w (retK K) := by
  refine c11_calls _ _ _ _ w K ?_
  unfold c11
  have h1 : (uc st).length = 8 := by rw [uc_length]; exact hst
  have h2 : (bc blk).length = 64 := by rw [bc_length]; exact hb
  refine (Sep.zero1 (U := rR v 1 (bc b) b.length) hv).box fun b5 w1 s _ => s.box fun b6 w2 s _ => ?_
  have s : Sep [] w w2 [rB b6 (bc blk) 32, rB b5 (uc st) 70] [rR v 1 (bc b) b.length] := s
  refine fnW_of (by kernel_rfl) (alive1_c fun w3 e => ?_)
  have s := s.ext0 e
  rw [notN, Bool.not_true, condW_f]
  obtain ⟨va, vc, hva⟩ := hv.len
  rw [hva, len_s, ← hva]
  refine ngtr (y := 1000) (cond_d (fun _ => hK _ s.ext) (fun hle => ?_))
  refine fnW_of (by kernel_rfl) (copyBytes_c (s.rat 0 rfl) (by omega) fun v1 w4 hv1 e hf => ?_)
  have s := s.add (T := rO v1 5 1 (bc b) b.length) hv1.at e hf
  have s := s.drew
  generalize w4.drew = w5 at *
  refine fnW_of (by kernel_rfl) (sum_c (OwnAt.rd (s.at 0 rfl)) (OwnAt.cap (s.at 0 rfl)) (by omega) fun w6 e => ?_)
  have s := s.ext0 e
  refine fnW_of (by kernel_rfl) (rsum_c (s.rat 0 rfl) (by omega) fun w7 e => ?_)
  have s := s.ext0 e
  refine dig_eql (digest_length _) (digest_length _) ?_
  rw [decide_eq_true rfl]
  refine ⟨rfl, ?_⟩
  refine gs_t ?_
  refine s.loadAll 2 rfl h1 ?_
  refine gs_t ?_
  refine s.loadAll 1 rfl h2 ?_
  refine gs_t ?_
  refine s.loadAll 2 rfl h1 ?_
  refine gs_t ?_
  refine s.loadAll 1 rfl h2 ?_
  refine gs_t ?_
  refine fnW_of (by kernel_rfl) (Compress_c hst hb fun w8 e => ?_)
  have s := s.ext0 e
  refine ⟨gs_t (s.loadAll 2 rfl h1 ⟨rfl, rfl⟩), gs_t (s.loadAll 1 rfl h2 ⟨rfl, rfl⟩), ?_⟩
  refine gs_t ?_
  refine fnW_of (by kernel_rfl) (rCompress_c hst hb fun w9 e => ?_)
  have s := s.ext0 e
  refine gs_t ?_
  refine w8_eql (compress_length _ _ hst) ?_
  refine ⟨rfl, ?_⟩
  rw [pickW_t]
  refine gs_t ?_
  refine gs_t ?_
  refine gs_t ?_
  have last : ∀ (wr : World), Ext [] w9 wr → ∀ t36 : Value, t36 = .bool true → pickW (.bool true) t36 (.bool false) wr fun t37_50 w51 =>
      gstep t37_50 true w51 (fun K => K v1 w51) fun t39_52 w53 =>
      gstep t37_50 true w53 (fun K => K v w53) fun t40_54 w55 =>
      gstep t37_50 true w55 (fun K => fnW Try.prog 30 #[t39_52, t40_54] w55 K) fun t41_56 w57 =>
      pickW t37_50 t41_56 (.bool false) w57 fun t42_58 w59 => K t42_58 w59 := by
    intro wr e t36 ht
    subst ht
    have s := s.ext0 e
    rw [pickW_t]
    refine gs_t ?_
    refine gs_t ?_
    refine gs_t ?_
    refine fnW_of (by kernel_rfl) (sameBytes_c (OwnAt.rd (s.at 0 rfl)) (s.rat 0 rfl) (by omega) fun w12 e => ?_)
    rw [decide_eq_true rfl, pickW_t]
    exact hK _ (s.ext0 e).ext
  have nilR : ∀ w : World, RdSl w (.slice none 0 0) 1 (bc []) ([] : Bytes).length := fun w => ⟨rfl, .inl ⟨rfl, _, _, rfl⟩⟩
  by_cases hn : 0 ≤ n ∧ n ≤ 1125899906842624
  · refine fnW_of (by kernel_rfl) (pad_c n (fun h => absurd hn h) fun _ p1 w10 hp1 e1 _ => ?_)
    refine gs_t ?_
    refine fnW_of (by kernel_rfl) (rpad_c n (fun h => absurd hn h) fun _ p2 w11 hp2 e2 _ => ?_)
    refine gs_t ?_
    refine fnW_of (by kernel_rfl) (sameBytes_c ((OwnAt.rd hp1).keep e2 (by simp)) (OwnAt.rd hp2) (by rw [padM_length]; have : zeros n.toNat < 64 := Nat.mod_lt _ (by decide); omega) fun w12 e3 => ?_)
    rw [decide_eq_true rfl]
    exact last _ ((e1.new e2).new e3) _ rfl
  · refine fnW_of (by kernel_rfl) (pad_c n (fun _ => ?_) (fun h => absurd h hn))
    refine gs_t ?_
    refine fnW_of (by kernel_rfl) (rpad_c n (fun _ => ?_) (fun h => absurd h hn))
    refine gs_t ?_
    refine fnW_of (by kernel_rfl) (sameBytes_c (nilR _) (nilR _) (by decide) fun w12 e3 => ?_)
    rw [decide_eq_true rfl]
    exact last _ e3 _ rfl
end Go.Proofs.Ytedebapgmfnflaa
