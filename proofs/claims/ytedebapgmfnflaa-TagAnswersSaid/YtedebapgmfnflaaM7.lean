/- The pivot's choice, of fewer than 50 digests: the walk. -/
import Derived.Test.YtedebapgmfnflaaM6
namespace Go.Proofs.Ytedebapgmfnflaa
open Go
set_option maxRecDepth 100000

theorem Sep.swap {S : List Nat} {w0 w : World} {L R : List Res} {T1 T2 : Res} (s : Sep S w0 w (T1 :: T2 :: L) R) : Sep S w0 w (T2 :: T1 :: L) R := by
  have hp := List.pairwise_cons.1 s.dis
  have hp2 := List.pairwise_cons.1 hp.2
  have hm : ∀ T ∈ T2 :: T1 :: L, T ∈ T1 :: T2 :: L := fun T h => by
    simp only [List.mem_cons] at h ⊢
    rcases h with h | h | h <;> simp [h]
  refine ⟨s.ext, fun T h => s.own T (hm T h), s.rd, fun T h => s.old T (hm T h), List.pairwise_cons.2 ⟨fun U hU b hb hn => ?_, List.pairwise_cons.2 ⟨fun U hU => hp.1 U (by simp [hU]), hp2.2⟩⟩, fun T h => s.disR T (hm T h)⟩
  rcases List.mem_cons.1 hU with rfl | hU
  · exact hp.1 T2 (by simp) b hn hb
  · exact hp2.1 U hU b hb hn

def hintN : Sort.Hint → Nat
  | .unknown => 0
  | .increasing => 1
  | .decreasing => 2
theorem zero_int : zeroO Try.prog 3 = some (.int .i64 0) := by kernel_rfl

theorem choosePivot_c {S : List Nat} {w0 w : World} {L R : List Res} {K : VPost} {v : Value} {d : Array Bytes} {a b : Nat} (s : Sep S w0 w (rDs v d :: L) R) (hd : all32 d) (hab : a ≤ b) (hb : b ≤ d.size) (h8 : 8 ≤ b - a) (h50 : b - a < 50) (hsz : d.size ≤ 2 ^ 30)
    (hK : ∀ w', Sep S w0 w' (rDs v d :: L) R → K (.tuple #[.int .i64 (Sort.choosePivot dlt d a b).1, .int .i64 (hintN (Sort.choosePivot dlt d a b).2)]) w') :
    Calls Try.prog 117 #[v, .int .i64 a, .int .i64 b, cmpV] w (retK K) := by
  refine c117_calls _ _ _ _ w K ?_
  unfold c117
  refine nsub hab (by omega) ?_
  refine s.alloc zero_int rfl fun p w1 s _ => ?_
  have hcp : Sort.choosePivot dlt d a b = ((Sort.median dlt d (a + (b - a) / 4 * 1) (a + (b - a) / 4 * 2) (a + (b - a) / 4 * 3) 0).1,
      if (Sort.median dlt d (a + (b - a) / 4 * 1) (a + (b - a) / 4 * 2) (a + (b - a) / 4 * 3) 0).2 = 0 then .increasing else if (Sort.median dlt d (a + (b - a) / 4 * 1) (a + (b - a) / 4 * 2) (a + (b - a) / 4 * 3) 0).2 = 12 then .decreasing else .unknown) := by
    unfold Sort.choosePivot
    simp only [ge_iff_le, if_pos h8, if_neg (show ¬ 50 ≤ b - a by omega)]
  refine nquo (y := 4) (by decide) (by omega) ?_
  refine nmul (y := 1) (by omega) ?_
  refine nadd (by omega) ?_
  refine nquo (y := 4) (by decide) (by omega) ?_
  refine nmul (y := 2) (by omega) ?_
  refine nadd (by omega) ?_
  refine nquo (y := 4) (by decide) (by omega) ?_
  refine nmul (y := 3) (by omega) ?_
  refine nadd (by omega) ?_
  refine bindX_i fun J0 h0 => bindX_i fun J1 h1 => ?_
  refine ngeq (y := 8) ?_
  rw [decide_eq_true (by omega), condW_t]
  refine bindX_i fun J2 h2 => ?_
  refine ngeq (y := 50) ?_
  rw [decide_eq_false (by omega), condW_f]
  refine seq_n h2 ?_
  have s := s.swap
  refine fnW_of (by kernel_rfl) (median_c (n := 0) s hd (by omega) (by omega) (by omega) (by omega) fun w2 s => ?_)
  refine seq_n h1 ?_
  rw [hcp] at hK
  generalize Sort.median dlt d (a + (b - a) / 4 * 1) (a + (b - a) / 4 * 2) (a + (b - a) / 4 * 3) 0 = r at *
  refine s.load1 1 rfl (o := 0) rfl ?_
  refine neql (y := 0) (cond_d (fun hz => ?_) (fun hz => ?_))
  · have := hK w2 (s.drop 1)
    rw [if_pos hz] at this
    exact this
  · refine neql (y := 12) (cond_d (fun hz2 => ?_) (fun hz2 => ?_))
    · have := hK w2 (s.drop 1)
      rw [if_neg hz, if_pos hz2] at this
      exact this
    · have := hK w2 (s.drop 1)
      rw [if_neg hz, if_neg hz2] at this
      exact this
end Go.Proofs.Ytedebapgmfnflaa
