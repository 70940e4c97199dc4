/- Patterns broken (the sort's shuffle): the walk. Condition: 8 to 49 digests. -/
import Derived.Test.YtedebapgmfnflaaM12
namespace Go.Proofs.Ytedebapgmfnflaa
open Go
set_option maxRecDepth 100000

theorem und_xs : Try.prog.underlying 160 = some (.int .u64) := by kernel_rfl
theorem zero_xs : zeroO Try.prog 160 = some (.int .u64 0) := by kernel_rfl

theorem len_tab : ∀ k : Fin 64, (ByteArray.mk #[0, 1, 2, 2, 3, 3, 3, 3, 4, 4, 4, 4, 4, 4, 4, 4, 5, 5, 5, 5, 5, 5, 5, 5, 5, 5, 5, 5, 5, 5, 5, 5, 6, 6, 6, 6, 6, 6, 6, 6, 6, 6, 6, 6, 6, 6, 6, 6, 6, 6, 6, 6, 6, 6, 6, 6, 6, 6, 6, 6, 6, 6, 6, 6, 7, 7, 7, 7, 7, 7, 7, 7, 7, 7, 7, 7, 7, 7, 7, 7, 7, 7, 7, 7, 7, 7, 7, 7, 7, 7, 7, 7, 7, 7, 7, 7, 7, 7, 7, 7, 7, 7, 7, 7, 7, 7, 7, 7, 7, 7, 7, 7, 7, 7, 7, 7, 7, 7, 7, 7, 7, 7, 7, 7, 7, 7, 7, 7, 8, 8, 8, 8, 8, 8, 8, 8, 8, 8, 8, 8, 8, 8, 8, 8, 8, 8, 8, 8, 8, 8, 8, 8, 8, 8, 8, 8, 8, 8, 8, 8, 8, 8, 8, 8, 8, 8, 8, 8, 8, 8, 8, 8, 8, 8, 8, 8, 8, 8, 8, 8, 8, 8, 8, 8, 8, 8, 8, 8, 8, 8, 8, 8, 8, 8, 8, 8, 8, 8, 8, 8, 8, 8, 8, 8, 8, 8, 8, 8, 8, 8, 8, 8, 8, 8, 8, 8, 8, 8, 8, 8, 8, 8, 8, 8, 8, 8, 8, 8, 8, 8, 8, 8, 8, 8, 8, 8, 8, 8, 8, 8, 8, 8, 8, 8, 8, 8, 8, 8, 8, 8, 8, 8, 8, 8, 8, 8])[k.val]? = some (UInt8.ofNat (Sort.bitsLen k.val)) ∧ (UInt8.ofNat (Sort.bitsLen k.val)).toNat = Sort.bitsLen k.val ∧ Sort.bitsLen k.val ≤ 6 := by decide +kernel
theorem len64_c {w : World} {K : VPost} {n : Nat} (hn : n < 64) (hK : K (.int .i64 (Sort.bitsLen n)) w) : Calls Try.prog 123 #[.int .u64 n] w (retK K) := by
  refine c123_calls _ w K ?_
  unfold c123
  refine bindX_i fun J0 h0 => bindX_i fun J1 h1 => ?_
  refine ngeq (y := 4294967296) ?_
  rw [decide_eq_false (by omega), condW_f]
  refine seq_n h1 (bindX_i fun J4 h4 => ?_)
  refine ngeq (x := n) (y := 65536) ?_
  rw [decide_eq_false (by omega), condW_f]
  refine seq_n h4 (bindX_i fun J7 h7 => ?_)
  refine ngeq (x := n) (y := 256) ?_
  rw [decide_eq_false (by omega), condW_f]
  refine seq_n h7 ?_
  show convN Try.prog _ _ (.int .u64 n) w _
  rw [conv_byte und_u64 und_u8]
  obtain ⟨h1, h2, h3⟩ := len_tab ⟨n, hn⟩
  have hb : (UInt8.ofNat n).toNat = n := by rw [UInt8.toNat_ofNat']; omega
  refine ⟨by omega, UInt8.ofNat (Sort.bitsLen n), by rw [hb, Int.toNat_natCast]; exact h1, ?_⟩
  show convN Try.prog _ _ (bv (UInt8.ofNat (Sort.bitsLen n))) w _
  rw [conv_b64 (k := .u8) und_u8 und_int, h2]
  refine nadd (x := 0) (by omega) ?_
  rw [Nat.zero_add]
  exact hK
theorem nextPow_c {w : World} {K : VPost} {n : Nat} (hn : n < 64) (hK : K (.int .u64 ((2 ^ Sort.bitsLen n : Nat) : Int)) w) : Calls Try.prog 126 #[.int .i64 n] w (retK K) := by
  refine c126_calls _ w K ?_
  unfold c126
  obtain ⟨h1, h2, h3⟩ := len_tab ⟨n, hn⟩
  have h3 : Sort.bitsLen n ≤ 6 := h3
  rw [convN_i und_int und_uint, wrap_u64n, Nat.mod_eq_of_lt (by omega)]
  refine fnW_of (by kernel_rfl) ?_
  refine c110_calls _ w _ ?_
  unfold c110
  rw [condW_f]
  refine fnW_of (by kernel_rfl) (len64_c hn ?_)
  show binN Try.prog .shl _ true (.int .u64 1) (.int .i64 (Sort.bitsLen n)) w _
  rw [ishl (by omega)]
  have e1 : min ((Sort.bitsLen n : Int).toNat) IntKind.u64.bits = Sort.bitsLen n := by
    show min ((Sort.bitsLen n : Int).toNat) 64 = _
    omega
  have e2 : (2 : Int) ^ Sort.bitsLen n = ((2 ^ Sort.bitsLen n : Nat) : Int) := by rw [Int.natCast_pow]; rfl
  have hle : 2 ^ Sort.bitsLen n ≤ 2 ^ 6 := Nat.pow_le_pow_right (by decide) h3
  rw [e1, e2, Int.one_mul, wrap_u64n, Nat.mod_eq_of_lt (by omega)]
  exact hK

theorem xnext_c {S : List Nat} {w0 w : World} {L R : List Res} {K : VPost} {p : Nat} {r : UInt64} (s : Sep S w0 w (rB p [uq r] 160 :: L) R)
    (hK : ∀ w', Sep S w0 w' (rB p [uq (Sort.xorNext r)] 160 :: L) R → K (uq (Sort.xorNext r)) w') : Calls Try.prog 127 #[.pointer (some ⟨p, 0, none⟩)] w (retK K) := by
  refine c127_calls _ w K ?_
  unfold c127
  have s := s.drew
  refine nil_i ?_
  refine s.load1 0 rfl (o := 0) rfl ?_
  refine nil_i ?_
  refine s.load1 0 rfl (o := 0) rfl ?_
  rw [show (Value.int .u64 13) = .int .u64 ((13 : Nat) : Int) from rfl, u64_shl (by decide), u64_xor]
  refine nil_i ?_
  refine s.store1 0 rfl (o := 0) rfl (by simp) rfl fun w1 s _ => ?_
  have s : Sep S w0 w1 (rB p [uq (r ^^^ r <<< UInt64.ofNat 13)] 160 :: L) R := s
  have hx : Sort.xorNext r = (r ^^^ r <<< UInt64.ofNat 13) ^^^ (r ^^^ r <<< UInt64.ofNat 13) >>> UInt64.ofNat 7 ^^^ ((r ^^^ r <<< UInt64.ofNat 13) ^^^ (r ^^^ r <<< UInt64.ofNat 13) >>> UInt64.ofNat 7) <<< UInt64.ofNat 17 := rfl
  generalize r ^^^ r <<< UInt64.ofNat 13 = r1 at *
  have s := s.drew
  refine nil_i ?_
  refine s.load1 0 rfl (o := 0) rfl ?_
  refine nil_i ?_
  refine s.load1 0 rfl (o := 0) rfl ?_
  rw [show (Value.int .u64 7) = .int .u64 ((7 : Nat) : Int) from rfl, u64_shr (by decide), u64_xor]
  refine nil_i ?_
  refine s.store1 0 rfl (o := 0) rfl (by simp) rfl fun w2 s _ => ?_
  have s : Sep S w0 w2 (rB p [uq (r1 ^^^ r1 >>> UInt64.ofNat 7)] 160 :: L) R := s
  generalize r1 ^^^ r1 >>> UInt64.ofNat 7 = r2 at *
  have s := s.drew
  refine nil_i ?_
  refine s.load1 0 rfl (o := 0) rfl ?_
  refine nil_i ?_
  refine s.load1 0 rfl (o := 0) rfl ?_
  rw [show (Value.int .u64 17) = .int .u64 ((17 : Nat) : Int) from rfl, u64_shl (by decide), u64_xor]
  refine nil_i ?_
  refine s.store1 0 rfl (o := 0) rfl (by simp) rfl fun w3 s _ => ?_
  have s : Sep S w0 w3 (rB p [uq (r2 ^^^ r2 <<< UInt64.ofNat 17)] 160 :: L) R := s
  rw [← hx] at s
  refine nil_i ?_
  refine s.load1 0 rfl (o := 0) rfl ?_
  exact hK _ s

def bst (a len md idx : Nat) (st : UInt64 × Array Bytes) : Nat → UInt64 × Array Bytes
  | 0 => st
  | j + 1 => Sort.breakStep a len md (bst a len md idx st j) (idx + j)
theorem land_lt {x n : Nat} (h : 0 < n) : x &&& (n - 1) < n := Nat.lt_of_le_of_lt Nat.and_le_right (by omega)

set_option maxHeartbeats 2000000 in
theorem breakPatterns_c {S : List Nat} {w0 w : World} {L R : List Res} {K : VPost} {v : Value} {ds : Array Bytes} {a b : Nat} (s : Sep S w0 w (rDs v ds :: L) R) (hd : all32 ds) (hab : a ≤ b) (hb : b ≤ ds.size) (h8 : 8 ≤ b - a) (h50 : b - a < 50) (hsz : ds.size ≤ 2 ^ 29)
    (hK : ∀ u w' d, d = Sort.breakPatterns ds a b → d.size = ds.size → all32 d → Sep S w0 w' (rDs v d :: L) R → K u w') :
    Calls Try.prog 116 #[v, .int .i64 a, .int .i64 b, cmpV] w (retK K) := by
  refine c116_calls _ _ _ _ w K ?_
  unfold c116
  refine nsub hab (by omega) ?_
  refine ngeq (y := 8) ?_
  rw [decide_eq_true h8, condW_t]
  rw [convN_i und_int und_xs, wrap_u64n, Nat.mod_eq_of_lt (by omega)]
  refine s.alloc zero_xs rfl fun p w1 s _ => ?_
  have s : Sep S w0 w1 (rB p [.int .u64 0] 160 :: rDs v ds :: L) R := s
  refine s.store1 0 rfl (o := 0) rfl (by simp) rfl fun w2 s _ => ?_
  have hlen : Value.int .u64 ((b - a : Nat) : Int) = uq (UInt64.ofNat (b - a)) := by
    unfold uq
    rw [UInt64.toNat_ofNat', Nat.mod_eq_of_lt (by omega)]
  have s : Sep S w0 w2 (rB p [Value.int .u64 ((b - a : Nat) : Int)] 160 :: rDs v ds :: L) R := s
  rw [hlen] at s
  refine fnW_of (by kernel_rfl) (nextPow_c (n := b - a) (by omega) ?_)
  obtain ⟨q1, q2, q3⟩ := len_tab ⟨b - a, by omega⟩
  have q3 : Sort.bitsLen (b - a) ≤ 6 := q3
  have hmd : 2 ^ Sort.bitsLen (b - a) ≤ 2 ^ 6 := Nat.pow_le_pow_right (by decide) q3
  have hmd0 : 0 < 2 ^ Sort.bitsLen (b - a) := Nat.pow_pos (by decide)
  have hmd2 : (b - a) < 2 ^ Sort.bitsLen (b - a) ∧ 2 ^ Sort.bitsLen (b - a) ≤ 2 * (b - a) := by
    have H : ∀ k : Fin 50, 8 ≤ k.val → k.val < 2 ^ Sort.bitsLen k.val ∧ 2 ^ Sort.bitsLen k.val ≤ 2 * k.val := by decide +kernel
    exact H ⟨b - a, h50⟩ h8
  have hR : Sort.breakPatterns ds a b = (bst a (b - a) (2 ^ Sort.bitsLen (b - a)) (a + (b - a) / 4 * 2 - 1) (UInt64.ofNat (b - a), ds) 3).2 := by
    unfold Sort.breakPatterns
    simp only [ge_iff_le, if_pos h8, Nat.one_shiftLeft]
    rfl
  generalize 2 ^ Sort.bitsLen (b - a) = md at *
  refine nquo (y := 4) (by decide) (by omega) ?_
  refine nmul (y := 2) (by omega) ?_
  refine nadd (by omega) ?_
  refine nsub (y := 1) (by omega) (by omega) ?_
  refine bindX_i fun J19 h19 => bindX_i fun J20 h20 => ?_
  have hst : ∀ j, (bst a (b - a) md (a + (b - a) / 4 * 2 - 1) (UInt64.ofNat (b - a), ds) (j + 1)) = Sort.breakStep a (b - a) md (bst a (b - a) md (a + (b - a) / 4 * 2 - 1) (UInt64.ofNat (b - a), ds) j) (a + (b - a) / 4 * 2 - 1 + j) := fun _ => rfl
  have hst0 : (bst a (b - a) md (a + (b - a) / 4 * 2 - 1) (UInt64.ofNat (b - a), ds) 0) = (UInt64.ofNat (b - a), ds) := rfl
  generalize bst a (b - a) md (a + (b - a) / 4 * 2 - 1) (UInt64.ofNat (b - a), ds) = f at *
  refine loop_i (fun m fr wr => ∃ (j : Nat), m = 3 - j ∧ j ≤ 3 ∧ (f j).2.size = ds.size ∧ all32 (f j).2 ∧ fr 0 = v ∧ fr 1 = .int .i64 a ∧ fr 8 = .int .i64 (b - a : Nat) ∧ fr 9 = .pointer (some ⟨p, 0, none⟩) ∧ fr 10 = .int .u64 md ∧ fr 11 = .int .i64 (a + (b - a) / 4 * 2 - 1 + j : Nat) ∧
    Sep S w0 wr (rB p [uq (f j).1] 160 :: rDs v (f j).2 :: L) R) 3 ?_ ?_
  · refine ⟨0, rfl, by omega, by rw [hst0], by rw [hst0]; exact hd, rfl, rfl, rfl, rfl, rfl, rfl, ?_⟩
    rw [hst0]; exact s
  · rintro m fr wr JK ⟨j, rfl, hj, hds, hd, f0, f1, f8, f9, f10, f11, s⟩ hJK hXK
    rw [f1, f8, f9, f10, f11]
    refine nquo (y := 4) (by decide) (by omega) ?_
    refine nmul (y := 2) (by omega) ?_
    refine nadd (by omega) ?_
    refine nadd (y := 1) (by omega) ?_
    refine nleq (cond_d (fun hle => ?_) (fun hle => ?_))
    · refine bindX_i fun J34 h34 => bindX_i fun J39 h39 => ?_
      refine fnW_of (by kernel_rfl) (xnext_c s fun w3 s => ?_)
      have hs1 := hst j
      have hr1 : Sort.xorNext (f j).1 = (f (j + 1)).1 := by rw [hs1]; rfl
      have hsw : (f (j + 1)).2 = Sort.swp (f j).2 (a + (b - a) / 4 * 2 - 1 + j) (a + (if (b - a) ≤ ((f (j + 1)).1.toNat &&& (md - 1)) then ((f (j + 1)).1.toNat &&& (md - 1)) - (b - a) else ((f (j + 1)).1.toNat &&& (md - 1)))) := by rw [hs1]; rfl
      rw [hr1] at s ⊢
      generalize hr1e : (f (j + 1)).1 = r1 at *
      have e1 : binN Try.prog .sub 54 true (.int .u64 md) (.int .u64 1) w3 = fun K => K (uq (UInt64.ofNat (md - 1))) w3 := by
        funext K
        rw [binN_e, bin_sub]
        have : ((md : Int) - 1) = ((md - 1 : Nat) : Int) := by omega
        rw [this, wrap_u64n, Nat.mod_eq_of_lt (by omega)]
        unfold uq
        rw [UInt64.toNat_ofNat', Nat.mod_eq_of_lt (by omega)]
      rw [e1]
      simp only
      rw [u64_and]
      have hla := land_lt (x := r1.toNat) hmd0
      have ela : (r1 &&& UInt64.ofNat (md - 1)).toNat = r1.toNat &&& (md - 1) := by
        rw [UInt64.toNat_and, UInt64.toNat_ofNat', Nat.mod_eq_of_lt (by omega)]
      unfold uq
      rw [ela]
      generalize r1.toNat &&& (md - 1) = o at *
      rw [convN_i und_uint und_int, i64_fit (by omega)]
      refine bindX_i fun J48 h48 => ?_
      have fin : ∀ (fr : Fr) (w' : World) (o' : Nat), o' < b - a → (f (j + 1)).2 = Sort.swp (f j).2 (a + (b - a) / 4 * 2 - 1 + j) (a + o') → fr 0 = v → fr 1 = .int .i64 a → fr 8 = .int .i64 (b - a : Nat) → fr 9 = .pointer (some ⟨p, 0, none⟩) → fr 10 = .int .u64 md → fr 11 = .int .i64 (a + (b - a) / 4 * 2 - 1 + j : Nat) → fr 12 = .int .i64 o' →
          Sep S w0 w' (rB p [uq r1] 160 :: rDs v (f j).2 :: L) R → J48 .normal fr w' := by
        intro fr w' o' ho hsw f0 f1 f8 f9 f10 f11 f12 s
        refine seq_n h48 ?_
        rw [f0, f1, f11, f12]
        refine nadd (by omega) ?_
        refine nadd (by omega) ?_
        have s := s.swap
        refine s.drew.dswap hd (p := a + (b - a) / 4 * 2 - 1 + j) (q := a + o') (by omega) (by omega) fun t1 t2 t3 t4 t5 t6 w4 s => ?_
        have hd2 := swp_all hd (p := a + (b - a) / 4 * 2 - 1 + j) (q := a + o') (by omega) (by omega)
        have hs2 := swp_size (f j).2 (a + (b - a) / 4 * 2 - 1 + j) (a + o')
        rw [← hsw] at s hd2 hs2
        have s := s.swap
        refine seq_n h34 ?_
        show binN Try.prog .add _ true (fr 11) _ w4 _
        rw [f11]
        refine nadd (y := 1) (by omega) ?_
        rw [← hr1e] at s
        exact hJK (3 - (j + 1)) _ _ (by omega) ⟨j + 1, rfl, by omega, by omega, hd2, f0, f1, f8, f9, f10, rfl, s⟩
      refine ngeq (cond_d (fun hge => ?_) (fun hge => ?_))
      · rw [if_pos hge] at hsw
        refine nsub hge (by omega) ?_
        exact fin _ _ (o - (b - a)) (by omega) hsw f0 f1 f8 f9 f10 f11 rfl s
      · rw [if_neg hge] at hsw
        exact fin _ _ o (by omega) hsw f0 f1 f8 f9 f10 f11 rfl s
    · obtain rfl : j = 3 := by omega
      refine hXK _ _ _ (by simp) (h20 _ _ _ (blk_x (h19 _ _ _ ?_)))
      exact hK _ _ _ hR.symm hds hd (s.drop 0)
end Go.Proofs.Ytedebapgmfnflaa
