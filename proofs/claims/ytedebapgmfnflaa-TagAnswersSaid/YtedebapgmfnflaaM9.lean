/- The heap sort of digests: the walk. -/
import Derived.Test.YtedebapgmfnflaaM8
namespace Go.Proofs.Ytedebapgmfnflaa
open Go
set_option maxRecDepth 100000

theorem heapSort_c {S : List Nat} {w0 w : World} {L R : List Res} {K : VPost} {v : Value} {ds : Array Bytes} {a b : Nat} (s : Sep S w0 w (rDs v ds :: L) R) (hd : all32 ds) (hab : a < b) (hb : b ≤ ds.size) (hsz : ds.size ≤ 2 ^ 29)
    (hK : ∀ u w' d, d = Sort.heapSort dlt ds a b → d.size = ds.size → all32 d → Sep S w0 w' (rDs v d :: L) R → K u w') :
    Calls Try.prog 115 #[v, .int .i64 a, .int .i64 b, cmpV] w (retK K) := by
  refine c115_calls _ _ _ _ w K ?_
  unfold c115
  refine nsub (by omega) (by omega) ?_
  refine bindX_i fun J0 h0 => bindX_i fun J1 h1 => ?_
  refine nsub (y := 1) (by omega) (by omega) ?_
  refine nquo (y := 2) (by decide) (by omega) ?_
  refine bindX_i fun J2 h2 => ?_
  refine loop_i (fun m fr wr => ∃ (d : Array Bytes), m ≤ (b - a - 1) / 2 + 1 ∧ d.size = ds.size ∧ all32 d ∧ Sort.heapBuild dlt (b - a) a m d = Sort.heapBuild dlt (b - a) a ((b - a - 1) / 2 + 1) ds ∧
    fr 0 = v ∧ fr 3 = cmpV ∧ fr 8 = .int .i64 a ∧ fr 9 = .int .i64 (0 : Nat) ∧ fr 10 = .int .i64 (b - a : Nat) ∧ fr 11 = .int .i64 ((m : Int) - 1) ∧ Sep S w0 wr (rDs v d :: L) R) ((b - a - 1) / 2 + 1) ?_ ?_
  · refine ⟨ds, Nat.le_refl _, rfl, hd, rfl, rfl, rfl, rfl, rfl, rfl, ?_, s⟩
    show Value.int .i64 (((b - a - 1) / 2 : Nat) : Int) = _
    congr 1
    omega
  · rintro m fr wr J ⟨d, hm, hds, hd, hst, f0, f3, f8, f9, f10, f11, s⟩ hJ hX
    rw [f0, f3, f8, f10, f11, igeq]
    cases m with
    | zero =>
      rw [decide_eq_false (by omega), condW_f]
      refine hX _ _ _ (by simp) (h2 _ _ _ (blk_x (seq_n h1 ?_)))
      show binN Try.prog .sub _ true (fr 10) _ wr _
      rw [f10]
      refine nsub (y := 1) (by omega) (by omega) ?_
      rw [Sort.heapBuild] at hst
      have hhs : Sort.heapSort dlt ds a b = Sort.heapPop dlt a (b - a) d := by unfold Sort.heapSort; rw [hst]
      refine bindX_i fun J3 h3 => ?_
      refine loop_i (fun m fr wr => ∃ (d : Array Bytes), m ≤ b - a ∧ d.size = ds.size ∧ all32 d ∧ Sort.heapPop dlt a m d = Sort.heapSort dlt ds a b ∧
        fr 0 = v ∧ fr 3 = cmpV ∧ fr 8 = .int .i64 a ∧ fr 9 = .int .i64 (0 : Nat) ∧ fr 12 = .int .i64 ((m : Int) - 1) ∧ Sep S w0 wr (rDs v d :: L) R) (b - a) ?_ ?_
      · refine ⟨d, Nat.le_refl _, hds, hd, hhs.symm, f0, f3, f8, f9, ?_, s⟩
        show Value.int .i64 ((b - a - 1 : Nat) : Int) = _
        congr 1
        omega
      · rintro m fr wr J ⟨d, hm, hds, hd, hst, f0, f3, f8, f9, f12, s⟩ hJ hX
        rw [f0, f3, f8, f9, f12, igeq]
        cases m with
        | zero =>
          rw [decide_eq_false (by omega), condW_f]
          refine hX _ _ _ (by simp) (h3 _ _ _ (blk_x (h0 _ _ _ ?_)))
          exact hK _ _ d hst hds hd s
        | succ k =>
          have ek : ((k + 1 : Nat) : Int) - 1 = ((k : Nat) : Int) := by omega
          rw [ek, decide_eq_true (by omega), condW_t]
          refine nadd (by omega) ?_
          refine nadd (by omega) ?_
          refine s.drew.dswap hd (p := a) (q := a + k) (by omega) (by omega) fun t1 t2 t3 t4 t5 t6 w' s => ?_
          have hsd := swp_all hd (p := a) (q := a + k) (by omega) (by omega)
          have hss := swp_size d a (a + k)
          refine fnW_of (by kernel_rfl) (siftDown_c (root := 0) s hsd (by omega) (by omega) (by omega) fun u w2 d2 e2 hs2 h32 s => ?_)
          refine isub (by omega) ?_
          rw [Sort.heapPop, ← e2] at hst
          exact hJ k _ _ (by omega) ⟨d2, by omega, by omega, h32, hst, f0, f3, f8, f9, rfl, s⟩
    | succ k =>
      have ek : ((k + 1 : Nat) : Int) - 1 = ((k : Nat) : Int) := by omega
      rw [ek, decide_eq_true (by omega), condW_t]
      refine fnW_of (by kernel_rfl) (siftDown_c s hd (by omega) (by omega) (by omega) fun u w2 d2 e2 hs2 h32 s => ?_)
      refine isub (by omega) ?_
      rw [Sort.heapBuild, ← e2] at hst
      exact hJ k _ _ (by omega) ⟨d2, by omega, by omega, h32, hst, f0, f3, f8, f9, f10, rfl, s⟩
end Go.Proofs.Ytedebapgmfnflaa
