/- The document's constants, by roots: the walks. Conditions: none but what the arguments are. -/
import Derived.Test.YtedebapgmfnflaaS3
import Derived.Test.YtedebapgmfnflaaS4
import Derived.Test.YtedebapgmfnflaaH5
import Derived.Test.YtedebapgmfnflaaN1
import Derived.Test.YtedebapgmfnflaaCR
namespace Go.Proofs.Ytedebapgmfnflaa
open Go
set_option maxRecDepth 100000

/-- A place of a slice of one's own whose elements are of one cell. -/
theorem Sep.elAt {α : Type} {f : α → Value} (hf : ∀ x, (f x).cells = #[f x] ∧ (f x).oneCell' = true) (d : α) {S : List Nat} {w0 w : World} {L R : List Res} {v : Value} {e : TypeId} {l : List α} {n k : Nat} (s : Sep S w0 w L R) (i : Nat) (hL : L[i]? = some (rO v e 1 (l.map f) n)) (hk : k < n) (kk : IntKind) :
    ∃ b o, (∀ K : VPost, K (.pointer (some ⟨b, o, none⟩)) w → idxW (some (none, 1)) v (.int kk k) w K) ∧ (∀ (K : VPost), K (f (l.getD k d)) w → loadW (some (false, 1)) (.pointer (some ⟨b, o, none⟩)) w K) ∧
    (∀ (g : Bool) (y : α) (K : World → Prop), (∀ w', Sep S w0 w' (L.set i (rO v e 1 ((l.set k y).map f) n)) R → K w') → storeW (some (g, 1)) (.pointer (some ⟨b, o, none⟩)) (f y) w K) := by
  have ho : OwnAt w v e 1 (l.map f) n := s.at i hL
  have hl : l.length = n := by have := ho.rd.1; rw [List.length_map, Nat.mul_one] at this; exact this
  obtain ⟨b, o, hb, h1, h2, h3⟩ := ho.at1 hk kk
  refine ⟨b, o, h1, fun K hK => h2 _ K (by simp [List.getElem?_map, hl, hk, List.getD_eq_getElem?_getD]) hK, fun g y K hK => h3 g (f y) K (hf y).1 (hf y).2 fun w' e hw => hK w' ?_⟩
  rw [← List.map_set] at hw
  exact s.upd (T := rO v _ 1 (l.map f) n) i hL (T' := rO v _ 1 ((l.set k y).map f) n) hw (by show Ext (slB v) w w'; rw [hb]; exact e) (fun x hx => .inl hx)
theorem uq_f (x : UInt64) : (uq x).cells = #[uq x] ∧ (uq x).oneCell' = true := ⟨rfl, rfl⟩
theorem uv_f (x : UInt32) : (uv x).cells = #[uv x] ∧ (uv x).oneCell' = true := ⟨rfl, rfl⟩
/-- A place of a slice that is read, of one-cell elements. -/
theorem RdSl.elAt {α : Type} {f : α → Value} (d : α) {w : World} {v : Value} {l : List α} {m k : Nat} (h : RdSl w v 1 (l.map f) m) (hk : k < l.length) (kk : IntKind) :
    ∃ b o, (∀ K : VPost, K (.pointer (some ⟨b, o, none⟩)) w → idxW (some (none, 1)) v (.int kk k) w K) ∧ (∀ (K : VPost), K (f (l.getD k d)) w → loadW (some (false, 1)) (.pointer (some ⟨b, o, none⟩)) w K) := by
  obtain ⟨b, o, h1, h2⟩ := h.get1 (i := k) (by simpa using hk) kk
  refine ⟨b, o, h1, fun K hK => h2 K ?_⟩
  rw [List.getElem_map]
  rw [List.getD_eq_getElem?_getD, List.getElem?_eq_getElem hk] at hK
  exact hK

theorem ty_u64 : tyI Try.prog 136 = some (.int .u64 0, 1, 8) := by kernel_rfl
theorem und_u64s : Try.prog.underlying 133 = some (.slice 136) := by kernel_rfl
theorem und_u64 : Try.prog.underlying 136 = some (.int .u64) := by kernel_rfl
theorem ty_u32 : tyI Try.prog 69 = some (.int .u32 0, 1, 4) := by kernel_rfl
theorem und_u32s : Try.prog.underlying 114 = some (.slice 69) := by kernel_rfl

theorem timesJ_len (x : UInt64) (i : Nat) : ∀ (b : List UInt64) (j : Nat) (out : List UInt64) (c : UInt64), (timesJ x i b j out c).1.length = out.length := by
  intro b
  induction b with
  | nil => intro j out c; rfl
  | cons y r ih => intro j out c; simp [timesJ, ih]
theorem timesI_len (b : List UInt64) : ∀ (a : List UInt64) (i : Nat) (out : List UInt64), (timesI b a i out).length = out.length := by
  intro a
  induction a with
  | nil => intro i out; rfl
  | cons x r ih => intro i out; simp [timesI, ih, timesJ_len]
theorem times_length (a b : List UInt64) : (times a b).length = a.length + b.length := by simp [times, timesI_len]

set_option maxHeartbeats 1000000 in
theorem times_c {w : World} {K : VPost} {va vb : Value} {a b : List UInt64} (ha : RdSl w va 1 (uqs a) a.length) (hb : RdSl w vb 1 (uqs b) b.length) (hla : a.length ≤ 100) (hlb : b.length ≤ 100)
    (hK : ∀ v w', OwnAt w' v 136 1 (uqs (times a b)) (a.length + b.length) → Ext [] w w' → (∀ x ∈ slB v, w.heap.size ≤ x) → K v w') : Calls Try.prog 124 #[va, vb] w (retK K) := by
  refine c124_calls _ _ w K ?_
  unfold c124
  obtain ⟨pa, qa, ea⟩ := ha.len
  obtain ⟨pb, qb, eb⟩ := hb.len
  have la : ∀ (w : World) (K : VPost), lenW Try.prog (some true) #[133] 3 #[va] w K = K (.int .i64 a.length) w := fun w K => by rw [ea, len_s]
  have lb : ∀ (w : World) (K : VPost), lenW Try.prog (some true) #[133] 3 #[vb] w K = K (.int .i64 b.length) w := fun w K => by rw [eb, len_s]
  rw [la, lb]
  refine nadd (by omega) ?_
  obtain ⟨ui, hui, huz, husz, huby⟩ := tyI_spec ty_u64
  have s := ((Sep.nil w).addR (T := rR va 1 (uqs a) a.length) ha (by simp)).addR (T := rR vb 1 (uqs b) b.length) hb (by simp)
  refine makeSlice_i (z0 := .int .u64 0) (n := a.length + b.length) (c := a.length + b.length) und_u64s hui huz (by rw [husz]; rfl) (Nat.le_refl _) (by rw [huby]; omega) (by omega) fun bb w1 hbb e hk _ => ?_
  rw [husz, Nat.mul_one] at hk
  generalize hn : a.length + b.length = n at *
  have hz : List.replicate n (Value.int .u64 0) = uqs (List.replicate n 0) := by simp [uqs, uq]
  rw [hz] at hk
  have s := s.add (T := rO (.slice (some ⟨bb, 0, none⟩) n n) 136 1 (uqs (List.replicate n 0)) n) (.inr ⟨bb, 0, n, _, rfl, hk, by rw [uqs_length]; simp, by rw [List.drop_zero, List.take_of_length_le (by rw [uqs_length]; simp)], by rw [uqs_length]; simp, Nat.le_refl _⟩) e (by intro x hx; simp [rO, slB] at hx; omega)
  generalize (Value.slice (some ⟨bb, 0, none⟩) n n) = vo at *
  refine bindX_i fun J0 h0 => bindX_i fun J1 h1 => bindX_i fun J2 h2 => ?_
  refine loop_i (fun m fr wr => ∃ (i : Nat) (out : List UInt64), m = a.length - i ∧ i ≤ a.length ∧ timesI b (a.drop i) i out = times a b ∧ out.length = n ∧ fr 0 = va ∧ fr 1 = vb ∧ fr 5 = vo ∧ fr 6 = .int .i64 i ∧
    Sep [] w wr [rO vo 136 1 (uqs out) n] [rR vb 1 (uqs b) b.length, rR va 1 (uqs a) a.length]) a.length ?_ ?_
  · exact ⟨0, List.replicate n 0, rfl, by omega, by rw [List.drop_zero]; unfold times; rw [hn], by simp, rfl, rfl, rfl, rfl, s⟩
  · rintro m fr wr J ⟨i, out, rfl, hi, hti, hol, f0, f1, f5, f6, s⟩ hJ hX
    rw [f0, f6, la]
    refine nlss (cond_d (fun hlt => ?_) (fun hlt => ?_))
    · refine bindX_i fun J3 h3 => bindX_i fun J4 h4 => bindX_i fun J5 h5 => bindX_i fun J6 h6 => ?_
      rw [List.drop_eq_getElem_cons hlt] at hti
      unfold timesI at hti
      have hai : a.getD i 0 = a[i] := by rw [List.getD_eq_getElem?_getD, List.getElem?_eq_getElem hlt]; rfl
      refine loop_i (fun m fr wr => ∃ (j : Nat) (o : List UInt64) (c : UInt64), m = b.length - j ∧ j ≤ b.length ∧ timesJ a[i] i (b.drop j) j o c = timesJ a[i] i b 0 out 0 ∧ o.length = n ∧ fr 0 = va ∧ fr 1 = vb ∧ fr 5 = vo ∧ fr 6 = .int .i64 i ∧ fr 7 = uq c ∧ fr 8 = .int .i64 j ∧
        Sep [] w wr [rO vo 136 1 (uqs o) n] [rR vb 1 (uqs b) b.length, rR va 1 (uqs a) a.length]) b.length ?_ ?_
      · exact ⟨0, out, 0, rfl, by omega, by rw [List.drop_zero], hol, f0, f1, f5, f6, rfl, rfl, s⟩
      · rintro m fr wr I ⟨j, o, c, rfl, hj, htj, hol2, g0, g1, g5, g6, g7, g8, s⟩ hI hY
        rw [g1, g8, lb]
        refine nlss (cond_d (fun hlt2 => ?_) (fun hlt2 => ?_))
        · rw [g0, g5, g6, g7]
          have s := s.drew
          generalize wr.drew = wr at *
          rw [List.drop_eq_getElem_cons hlt2] at htj
          have htj : timesJ a[i] i (b.drop (j + 1)) (j + 1) (o.set (i + j) ((o.getD (i + j) 0 + a[i] * b[j] + c) &&& 0xffff)) ((o.getD (i + j) 0 + a[i] * b[j] + c) >>> UInt64.ofNat 16) = timesJ a[i] i b 0 out 0 := htj
          have hbj : b.getD j 0 = b[j] := by rw [List.getD_eq_getElem?_getD, List.getElem?_eq_getElem hlt2]; rfl
          refine nadd (by omega) ?_
          obtain ⟨b1, o1, i1, l1, s1⟩ := s.elAt uq_f 0 0 rfl (k := i + j) (by omega) .i64
          refine i1 _ ?_
          refine l1 _ ?_
          obtain ⟨b2, o2, i2, l2⟩ := RdSl.elAt (f := uq) 0 (s.rat 1 rfl) (k := i) hlt .i64
          refine i2 _ ?_
          refine l2 _ ?_
          obtain ⟨b3, o3, i3, l3⟩ := RdSl.elAt (f := uq) 0 (s.rat 0 rfl) (k := j) hlt2 .i64
          refine i3 _ ?_
          refine l3 _ ?_
          rw [hai, hbj, u64_mul, u64_add, u64_add]
          refine nadd (by omega) ?_
          rw [show (Value.int .u64 65535) = uq 0xffff from rfl, u64_and]
          refine i1 _ ?_
          refine s1 _ _ _ fun w5 s => ?_
          rw [show ((16 : Int)) = ((16 : Nat) : Int) from rfl, u64_shr (show 16 < 64 by decide)]
          refine nadd (y := 1) (by omega) ?_
          exact hI (b.length - (j + 1)) _ _ (by omega) ⟨j + 1, _, _, rfl, by omega, htj, by rw [List.length_set]; exact hol2, g0, g1, g5, g6, rfl, rfl, s⟩
        · obtain rfl : j = b.length := by omega
          rw [List.drop_length] at htj
          have htj : (o, c) = timesJ a[i] i b 0 out 0 := htj
          rw [← htj] at hti
          have rest : ∀ (fr : Fr), fr 0 = va → fr 1 = vb → fr 5 = vo → fr 6 = .int .i64 i → fr 7 = uq c → J5 .normal fr wr := by
            intro fr g0 g1 g5 g6 g7
            refine seq_n h5 ?_
            rw [g1, g5, g6, g7, lb]
            refine nadd (by omega) ?_
            obtain ⟨b1, o1, i1, l1, s1⟩ := s.elAt uq_f 0 0 rfl (k := i + b.length) (by omega) .i64
            refine i1 _ ?_
            refine l1 _ ?_
            rw [u64_add]
            refine i1 _ ?_
            refine s1 _ _ _ fun w5 s => ?_
            have fin : ∀ (fr : Fr), fr 0 = va → fr 1 = vb → fr 5 = vo → fr 6 = .int .i64 i → J3 .normal fr w5 := by
              intro fr g0 g1 g5 g6
              refine seq_n h3 ?_
              rw [g6]
              refine nadd (y := 1) (by omega) ?_
              exact hJ (a.length - (i + 1)) _ _ (by omega) ⟨i + 1, _, rfl, by omega, hti, by rw [List.length_set]; exact hol2, g0, g1, g5, rfl, s⟩
            exact fin _ g0 g1 g5 g6
          exact hY _ _ _ (by simp) (h6 _ _ _ (blk_x (rest _ g0 g1 g5 g6 g7)))
    · obtain rfl : i = a.length := by omega
      rw [List.drop_length] at hti
      have hti : out = times a b := hti
      have tail : ∀ fr : Fr, fr 5 = vo → J1 .normal fr wr := by
        intro fr f5
        refine seq_n h1 ?_
        rw [f5]
        rw [hti] at s
        exact hK vo wr (s.at 0 rfl) s.ext (s.fresh 0 rfl)
      exact hX _ _ _ (by simp) (h2 _ _ _ (blk_x (tail _ f5)))

theorem turn_c {w : World} {K : VPost} (x : UInt32) (r : Nat) (h0 : 0 < r) (h1 : r < 32) (hK : K (uv (rr x r)) w) : Calls Try.prog 101 #[uv x, .int .u64 r] w (retK K) := by
  refine c101_calls _ _ w K ?_
  unfold c101
  rw [u32_shr h1, binN_e, bin_sub, wrap_u64]
  have : ((32 : Int) - (r : Int)) % 18446744073709551616 = ((32 - r : Nat) : Int) := by omega
  rw [this, u32_shl (show 32 - r < 32 by omega), u32_or, UInt32.or_comm]
  exact hK

set_option maxHeartbeats 1000000 in
theorem square_c {w : World} {K : VPost} (p : UInt64) (hK : K (uv (squareF p 36 0).toUInt32) w) : Calls Try.prog 100 #[uq p] w (retK K) := by
  refine c100_calls _ w K ?_
  unfold c100
  refine bindX_i fun J0 h0 => bindX_i fun J1 h1 => bindX_i fun J2 h2 => ?_
  refine loop_i (fun m fr wr => ∃ (x : UInt64), m ≤ 36 ∧ squareF p m x = squareF p 36 0 ∧ fr 0 = uq p ∧ fr 3 = uq x ∧ fr 4 = .int .i64 ((m : Int) - 1) ∧ w = wr) 36 ?_ ?_
  · exact ⟨0, by omega, rfl, rfl, rfl, rfl, rfl⟩
  · rintro m fr wr J ⟨x, hm, hsq, f0, f3, f4, rfl⟩ hJ hX
    rw [f4, igeq]
    refine cond_d (fun hge => ?_) (fun hge => ?_)
    · obtain ⟨m, rfl⟩ : ∃ k, m = k + 1 := ⟨m - 1, by omega⟩
      have e1 : (((m + 1 : Nat) : Int) - 1) = (m : Int) := by omega
      rw [e1] at f4 ⊢
      refine bindX_i fun J3 h3 => bindX_i fun J4 h4 => ?_
      rw [f0, f3, convN_i und_int und_uint, wrap_u64, show ((m : Int)) % 18446744073709551616 = (m : Int) by omega]
      rw [show (Value.int .u64 1) = uq 1 from rfl, u64_shl (show m < 64 by omega)]
      have hsh : (1 : UInt64) <<< UInt64.ofNat m = UInt64.ofNat (1 <<< m) := by
        apply UInt64.toNat_inj.1
        rw [UInt64.toNat_shiftLeft, UInt64.toNat_ofNat', UInt64.toNat_ofNat']
        have : m % 2 ^ 64 % 64 = m := by omega
        rw [this]; rfl
      rw [hsh, u64_add]
      have hY : squareF p m (if sqC p (x + UInt64.ofNat (1 <<< m)) = true then x + UInt64.ofNat (1 <<< m) else x) = squareF p 36 0 := hsq
      generalize hy : x + UInt64.ofNat (1 <<< m) = y at *
      have fin : ∀ (fr : Fr) (z : UInt64), squareF p m z = squareF p 36 0 → fr 0 = uq p → fr 3 = uq z → fr 4 = .int .i64 (m : Int) → J3 .normal fr w := by
        intro fr z hz g0 g3 g4
        refine seq_n h3 ?_
        rw [g4]
        refine isub (by omega) ?_
        exact hJ m _ _ (by omega) ⟨z, by omega, hz, g0, g3, rfl, rfl⟩
      rw [show ((32 : Int)) = ((32 : Nat) : Int) from rfl, u64_shr (show 32 < 64 by decide), show (Value.int .u64 4294967295) = uq 4294967295 from rfl, u64_and, show (Value.int .u64 2) = uq 2 from rfl, u64_mul, u64_mul, u64_mul, u64_shr (show 32 < 64 by decide), u64_add, u64_mul, u64_shr (show 32 < 64 by decide), u64_add, u64_and, u64_shl (show 32 < 64 by decide), u64_mul, u64_and, u64_or, u64_lss]
      have htop : (y >>> UInt64.ofNat 32) * (y >>> UInt64.ofNat 32) + (2 * (y >>> UInt64.ofNat 32) * (y &&& 4294967295) + ((y &&& 4294967295) * (y &&& 4294967295)) >>> UInt64.ofNat 32) >>> UInt64.ofNat 32 = sqTop y := rfl
      have hrest : ((2 * (y >>> UInt64.ofNat 32) * (y &&& 4294967295) + ((y &&& 4294967295) * (y &&& 4294967295)) >>> UInt64.ofNat 32) &&& 4294967295) <<< UInt64.ofNat 32 ||| ((y &&& 4294967295) * (y &&& 4294967295)) &&& 4294967295 = sqRest y := rfl
      rw [htop, hrest]
      by_cases hlt : sqTop y < p
      · rw [decide_eq_true hlt]
        refine gs_tf ?_
        refine gs_tf ?_
        refine gs_tf ?_
        refine gs_tf ?_
        refine gstep_u.mpr ?_
        refine gstep_u.mpr ?_
        refine gs_tf ?_
        rw [pickW_t, condW_t]
        rw [if_pos (by simp [sqC, hlt])] at hY
        exact fin _ _ hY f0 rfl f4
      · rw [decide_eq_false hlt]
        refine gs_f ?_
        refine gs_f ?_
        refine gs_f ?_
        rw [u64_eql]
        refine gs_f ?_
        by_cases heq : sqTop y = p
        · rw [decide_eq_true heq]
          refine gs_t ?_
          refine gs_t ?_
          rw [show (Value.int .u64 0) = uq 0 from rfl, u64_eql]
          refine gs_f ?_
          rw [pickW_t, pickW_f]
          refine cond_d (fun hz => ?_) (fun hz => ?_)
          · rw [if_pos (by simp [sqC, heq, hz])] at hY
            exact fin _ _ hY f0 rfl f4
          · rw [if_neg (by simp [sqC, hlt, heq, hz])] at hY
            exact fin _ _ hY f0 f3 f4
        · rw [decide_eq_false heq]
          refine gs_ft ?_
          refine gs_ft ?_
          refine gs_f ?_
          rw [pickW_f, pickW_f, condW_f]
          rw [if_neg (by simp [sqC, hlt, heq])] at hY
          exact fin _ _ hY f0 f3 f4
    · obtain rfl : m = 0 := by omega
      have tail : ∀ (fr : Fr), fr 3 = uq x → J1 .normal fr w := by
        intro fr f3
        refine seq_n h1 ?_
        rw [f3, conv_u64u32 und_u64 und_u32]
        have : x = squareF p 36 0 := hsq
        rw [this]; exact hK
      exact hX _ _ _ (by simp) (h2 _ _ _ (blk_x (tail _ f3)))
end Go.Proofs.Ytedebapgmfnflaa
