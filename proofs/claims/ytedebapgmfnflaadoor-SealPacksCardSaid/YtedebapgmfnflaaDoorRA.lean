/- The document's SHA-256. Conditions: at most 2^36 bytes. -/
import Derived.Test.YtedebapgmfnflaaDoorS3
import Derived.Test.YtedebapgmfnflaaDoorSC
import Derived.Test.YtedebapgmfnflaaDoorCR
namespace Go.Proofs.YtedebapgmfnflaaDoor
open Go
set_option maxRecDepth 100000

/-- A place of a slice of one's own whose elements are of one cell. -/
theorem Sep.elAt {α : Type} {f : α → Value} (hf : ∀ x, (f x).cells = #[f x] ∧ (f x).oneCell' = true) (d : α) {S : List Nat} {w0 w : World} {L R : List Res} {v : Value} {e : TypeId} {l : List α} {n k : Nat} (s : Sep S w0 w L R) (i : Nat) (hL : L[i]? = some (rO v e 1 (l.map f) n)) (hk : k < n) (kk : IntKind) :
    ∃ b o, (∀ K : VPost, K (.pointer (some ⟨b, o, none⟩)) w → idxW (some (none, 1)) v (.int kk k) w K) ∧ (∀ (K : VPost), K (f (l.getD k d)) w → loadW (some (false, 1)) (.pointer (some ⟨b, o, none⟩)) w K) ∧
    (∀ (g : Bool) (y : α) (K : World → Prop), (∀ w', Sep S w0 w' (L.set i (rO v e 1 ((l.set k y).map f) n)) R → K w') → storeW (some (g, 1)) (.pointer (some ⟨b, o, none⟩)) (f y) w K) := by
  have ho : OwnAt w v e 1 (l.map f) n := s.at i hL
  have hl : l.length = n := by have := ho.rd.1; rw [List.length_map, Nat.mul_one] at this; exact this
  obtain ⟨b, o, hb, h1, h2, h3⟩ := ho.at1 hk kk
  refine ⟨b, o, h1, fun K hK => h2 _ K (by simp [hl, hk, List.getD_eq_getElem?_getD]) hK, fun g y K hK => h3 g (f y) K (hf y).1 (hf y).2 fun w' e hw => hK w' ?_⟩
  rw [← List.map_set] at hw
  exact s.upd (T := rO v _ 1 (l.map f) n) i hL (T' := rO v _ 1 ((l.set k y).map f) n) hw (by show Ext (slB v) w w'; rw [hb]; exact e) (fun x hx => .inl hx)
theorem uq_f (x : UInt64) : (uq x).cells = #[uq x] ∧ (uq x).oneCell' = true := ⟨rfl, rfl⟩
theorem uv_f (x : UInt32) : (uv x).cells = #[uv x] ∧ (uv x).oneCell' = true := ⟨rfl, rfl⟩
/-- A place of a slice that is read, of one-cell elements. -/
theorem RdSl.elAt {α : Type} {f : α → Value} (d : α) {w : World} {v : Value} {l : List α} {m k : Nat} (h : RdSl w v 1 (l.map f) m) (hk : k < l.length) (kk : IntKind) :
    ∃ b o, (∀ K : VPost, K (.pointer (some ⟨b, o, none⟩)) w → idxW (some (none, 1)) v (.int kk k) w K) ∧ (∀ (K : VPost), K (f (l.getD k d)) w → loadW (some (false, 1)) (.pointer (some ⟨b, o, none⟩)) w K) := by
  obtain ⟨b, o, h1, h2⟩ := h.get1 (i := k) (by simpa using hk) kk
  refine ⟨b, o, h1, fun K hK => h2 K ?_⟩
  rw [List.getElem_map]
  rw [List.getD_eq_getElem?_getD, List.getElem?_eq_getElem hk] at hK
  exact hK

theorem ty_u64 : tyI Tryd.prog 212 = some (.int .u64 0, 1, 8) := by kernel_rfl
theorem und_u64s : Tryd.prog.underlying 209 = some (.slice 212) := by kernel_rfl
theorem und_u64 : Tryd.prog.underlying 212 = some (.int .u64) := by kernel_rfl
theorem ty_u32 : tyI Tryd.prog 168 = some (.int .u32 0, 1, 4) := by kernel_rfl
theorem und_u32s : Tryd.prog.underlying 166 = some (.slice 168) := by kernel_rfl

theorem timesJ_len (x : UInt64) (i : Nat) : ∀ (b : List UInt64) (j : Nat) (out : List UInt64) (c : UInt64), (timesJ x i b j out c).1.length = out.length := by
  intro b
  induction b with
  | nil => intro j out c; rfl
  | cons y r ih => intro j out c; simp [timesJ, ih]
theorem timesI_len (b : List UInt64) : ∀ (a : List UInt64) (i : Nat) (out : List UInt64), (timesI b a i out).length = out.length := by
  intro a
  induction a with
  | nil => intro i out; rfl
  | cons x r ih => intro i out; simp [timesI, ih, timesJ_len]
theorem times_length (a b : List UInt64) : (times a b).length = a.length + b.length := by simp [times, timesI_len]

set_option maxHeartbeats 1000000 in
theorem times_c {w : World} {K : VPost} {va vb : Value} {a b : List UInt64} (ha : RdSl w va 1 (uqs a) a.length) (hb : RdSl w vb 1 (uqs b) b.length) (hla : a.length ≤ 100) (hlb : b.length ≤ 100)
    (hK : ∀ v w', OwnAt w' v 212 1 (uqs (times a b)) (a.length + b.length) → Ext [] w w' → (∀ x ∈ slB v, w.heap.size ≤ x) → K v w') : Calls Tryd.prog 223 #[va, vb] w (retK K) := by
  refine c223_calls _ _ w K ?_
  unfold c223
  obtain ⟨pa, qa, ea⟩ := ha.len
  obtain ⟨pb, qb, eb⟩ := hb.len
  have la : ∀ (w : World) (K : VPost), lenW Tryd.prog (some true) #[209] 3 #[va] w K = K (.int .i64 a.length) w := fun w K => by rw [ea, len_s]
  have lb : ∀ (w : World) (K : VPost), lenW Tryd.prog (some true) #[209] 3 #[vb] w K = K (.int .i64 b.length) w := fun w K => by rw [eb, len_s]
  rw [la, lb]
  refine nadd (by omega) ?_
  obtain ⟨ui, hui, huz, husz, huby⟩ := tyI_spec ty_u64
  have s := ((Sep.nil w).addR (T := rR va 1 (uqs a) a.length) ha (by simp)).addR (T := rR vb 1 (uqs b) b.length) hb (by simp)
  refine makeSlice_i (z0 := .int .u64 0) (n := a.length + b.length) (c := a.length + b.length) und_u64s hui huz (by rw [husz]; rfl) (Nat.le_refl _) (by rw [huby]; omega) (by omega) fun bb w1 hbb e hk _ => ?_
  rw [husz, Nat.mul_one] at hk
  generalize hn : a.length + b.length = n at *
  have hz : List.replicate n (Value.int .u64 0) = uqs (List.replicate n 0) := by simp [uqs, uq]
  rw [hz] at hk
  have s := s.add (T := rO (.slice (some ⟨bb, 0, none⟩) n n) 212 1 (uqs (List.replicate n 0)) n) (.inr ⟨bb, 0, n, _, rfl, hk, by rw [uqs_length]; simp, by rw [List.drop_zero, List.take_of_length_le (by rw [uqs_length]; simp)], by rw [uqs_length]; simp, Nat.le_refl _⟩) e (by intro x hx; simp [rO, slB] at hx; omega)
  generalize (Value.slice (some ⟨bb, 0, none⟩) n n) = vo at *
  refine bindX_i fun J0 h0 => bindX_i fun J1 h1 => bindX_i fun J2 h2 => ?_
  refine loop_i (fun m fr wr => ∃ (i : Nat) (out : List UInt64), m = a.length - i ∧ i ≤ a.length ∧ timesI b (a.drop i) i out = times a b ∧ out.length = n ∧ fr 0 = va ∧ fr 1 = vb ∧ fr 5 = vo ∧ fr 6 = .int .i64 i ∧
    Sep [] w wr [rO vo 212 1 (uqs out) n] [rR vb 1 (uqs b) b.length, rR va 1 (uqs a) a.length]) a.length ?_ ?_
  · exact ⟨0, List.replicate n 0, rfl, by omega, by rw [List.drop_zero]; unfold times; rw [hn], by simp, rfl, rfl, rfl, rfl, s⟩
  · rintro m fr wr J ⟨i, out, rfl, hi, hti, hol, f0, f1, f5, f6, s⟩ hJ hX
    rw [f0, f6, la]
    refine nlss (cond_d (fun hlt => ?_) (fun hlt => ?_))
    · refine bindX_i fun J3 h3 => bindX_i fun J4 h4 => bindX_i fun J5 h5 => bindX_i fun J6 h6 => ?_
      rw [List.drop_eq_getElem_cons hlt] at hti
      unfold timesI at hti
      have hai : a.getD i 0 = a[i] := by rw [List.getD_eq_getElem?_getD, List.getElem?_eq_getElem hlt]; rfl
      refine loop_i (fun m fr wr => ∃ (j : Nat) (o : List UInt64) (c : UInt64), m = b.length - j ∧ j ≤ b.length ∧ timesJ a[i] i (b.drop j) j o c = timesJ a[i] i b 0 out 0 ∧ o.length = n ∧ fr 0 = va ∧ fr 1 = vb ∧ fr 5 = vo ∧ fr 6 = .int .i64 i ∧ fr 7 = uq c ∧ fr 8 = .int .i64 j ∧
        Sep [] w wr [rO vo 212 1 (uqs o) n] [rR vb 1 (uqs b) b.length, rR va 1 (uqs a) a.length]) b.length ?_ ?_
      · exact ⟨0, out, 0, rfl, by omega, by rw [List.drop_zero], hol, f0, f1, f5, f6, rfl, rfl, s⟩
      · rintro m fr wr I ⟨j, o, c, rfl, hj, htj, hol2, g0, g1, g5, g6, g7, g8, s⟩ hI hY
        rw [g1, g8, lb]
        refine nlss (cond_d (fun hlt2 => ?_) (fun hlt2 => ?_))
        · rw [g0, g5, g6, g7]
          have s := s.drew
          generalize wr.drew = wr at *
          rw [List.drop_eq_getElem_cons hlt2] at htj
          have htj : timesJ a[i] i (b.drop (j + 1)) (j + 1) (o.set (i + j) ((o.getD (i + j) 0 + a[i] * b[j] + c) &&& 0xffff)) ((o.getD (i + j) 0 + a[i] * b[j] + c) >>> UInt64.ofNat 16) = timesJ a[i] i b 0 out 0 := htj
          have hbj : b.getD j 0 = b[j] := by rw [List.getD_eq_getElem?_getD, List.getElem?_eq_getElem hlt2]; rfl
          refine nadd (by omega) ?_
          obtain ⟨b1, o1, i1, l1, s1⟩ := s.elAt uq_f 0 0 rfl (k := i + j) (by omega) .i64
          refine i1 _ ?_
          refine l1 _ ?_
          obtain ⟨b2, o2, i2, l2⟩ := RdSl.elAt (f := uq) 0 (s.rat 1 rfl) (k := i) hlt .i64
          refine i2 _ ?_
          refine l2 _ ?_
          obtain ⟨b3, o3, i3, l3⟩ := RdSl.elAt (f := uq) 0 (s.rat 0 rfl) (k := j) hlt2 .i64
          refine i3 _ ?_
          refine l3 _ ?_
          rw [hai, hbj, u64_mul, u64_add, u64_add]
          refine nadd (by omega) ?_
          rw [show (Value.int .u64 65535) = uq 0xffff from rfl, u64_and]
          refine i1 _ ?_
          refine s1 _ _ _ fun w5 s => ?_
          rw [show ((16 : Int)) = ((16 : Nat) : Int) from rfl, u64_shr (show 16 < 64 by decide)]
          refine nadd (y := 1) (by omega) ?_
          exact hI (b.length - (j + 1)) _ _ (by omega) ⟨j + 1, _, _, rfl, by omega, htj, by rw [List.length_set]; exact hol2, g0, g1, g5, g6, rfl, rfl, s⟩
        · obtain rfl : j = b.length := by omega
          rw [List.drop_length] at htj
          have htj : (o, c) = timesJ a[i] i b 0 out 0 := htj
          rw [← htj] at hti
          have rest : ∀ (fr : Fr), fr 0 = va → fr 1 = vb → fr 5 = vo → fr 6 = .int .i64 i → fr 7 = uq c → J5 .normal fr wr := by
            intro fr g0 g1 g5 g6 g7
            refine seq_n h5 ?_
            rw [g1, g5, g6, g7, lb]
            refine nadd (by omega) ?_
            obtain ⟨b1, o1, i1, l1, s1⟩ := s.elAt uq_f 0 0 rfl (k := i + b.length) (by omega) .i64
            refine i1 _ ?_
            refine l1 _ ?_
            rw [u64_add]
            refine i1 _ ?_
            refine s1 _ _ _ fun w5 s => ?_
            have fin : ∀ (fr : Fr), fr 0 = va → fr 1 = vb → fr 5 = vo → fr 6 = .int .i64 i → J3 .normal fr w5 := by
              intro fr g0 g1 g5 g6
              refine seq_n h3 ?_
              rw [g6]
              refine nadd (y := 1) (by omega) ?_
              exact hJ (a.length - (i + 1)) _ _ (by omega) ⟨i + 1, _, rfl, by omega, hti, by rw [List.length_set]; exact hol2, g0, g1, g5, rfl, s⟩
            exact fin _ g0 g1 g5 g6
          exact hY _ _ _ (by simp) (h6 _ _ _ (blk_x (rest _ g0 g1 g5 g6 g7)))
    · obtain rfl : i = a.length := by omega
      rw [List.drop_length] at hti
      have hti : out = times a b := hti
      have tail : ∀ fr : Fr, fr 5 = vo → J1 .normal fr wr := by
        intro fr f5
        refine seq_n h1 ?_
        rw [f5]
        rw [hti] at s
        exact hK vo wr (s.at 0 rfl) s.ext (s.fresh 0 rfl)
      exact hX _ _ _ (by simp) (h2 _ _ _ (blk_x (tail _ f5)))

theorem turn_c {w : World} {K : VPost} (x : UInt32) (r : Nat) (h0 : 0 < r) (h1 : r < 32) (hK : K (uv (rr x r)) w) : Calls Tryd.prog 177 #[uv x, .int .u64 r] w (retK K) := by
  refine c177_calls _ _ w K ?_
  unfold c177
  rw [u32_shr h1, binN_e, bin_sub, wrap_u64]
  have : ((32 : Int) - (r : Int)) % 18446744073709551616 = ((32 - r : Nat) : Int) := by omega
  rw [this, u32_shl (show 32 - r < 32 by omega), u32_or, UInt32.or_comm]
  exact hK

set_option maxHeartbeats 1000000 in
theorem square_c {w : World} {K : VPost} (p : UInt64) (hK : K (uv (squareF p 36 0).toUInt32) w) : Calls Tryd.prog 176 #[uq p] w (retK K) := by
  refine c176_calls _ w K ?_
  unfold c176
  refine bindX_i fun J0 h0 => bindX_i fun J1 h1 => bindX_i fun J2 h2 => ?_
  refine loop_i (fun m fr wr => ∃ (x : UInt64), m ≤ 36 ∧ squareF p m x = squareF p 36 0 ∧ fr 0 = uq p ∧ fr 3 = uq x ∧ fr 4 = .int .i64 ((m : Int) - 1) ∧ w = wr) 36 ?_ ?_
  · exact ⟨0, by omega, rfl, rfl, rfl, rfl, rfl⟩
  · rintro m fr wr J ⟨x, hm, hsq, f0, f3, f4, rfl⟩ hJ hX
    rw [f4, igeq]
    refine cond_d (fun hge => ?_) (fun hge => ?_)
    · obtain ⟨m, rfl⟩ : ∃ k, m = k + 1 := ⟨m - 1, by omega⟩
      have e1 : (((m + 1 : Nat) : Int) - 1) = (m : Int) := by omega
      rw [e1] at f4 ⊢
      refine bindX_i fun J3 h3 => bindX_i fun J4 h4 => ?_
      rw [f0, f3, convN_i und_int und_uint, wrap_u64, show ((m : Int)) % 18446744073709551616 = (m : Int) by omega]
      rw [show (Value.int .u64 1) = uq 1 from rfl, u64_shl (show m < 64 by omega)]
      have hsh : (1 : UInt64) <<< UInt64.ofNat m = UInt64.ofNat (1 <<< m) := by
        apply UInt64.toNat_inj.1
        rw [UInt64.toNat_shiftLeft, UInt64.toNat_ofNat', UInt64.toNat_ofNat']
        have : m % 2 ^ 64 % 64 = m := by omega
        rw [this]; rfl
      rw [hsh, u64_add]
      have hY : squareF p m (if sqC p (x + UInt64.ofNat (1 <<< m)) = true then x + UInt64.ofNat (1 <<< m) else x) = squareF p 36 0 := hsq
      generalize hy : x + UInt64.ofNat (1 <<< m) = y at *
      have fin : ∀ (fr : Fr) (z : UInt64), squareF p m z = squareF p 36 0 → fr 0 = uq p → fr 3 = uq z → fr 4 = .int .i64 (m : Int) → J3 .normal fr w := by
        intro fr z hz g0 g3 g4
        refine seq_n h3 ?_
        rw [g4]
        refine isub (by omega) ?_
        exact hJ m _ _ (by omega) ⟨z, by omega, hz, g0, g3, rfl, rfl⟩
      rw [show ((32 : Int)) = ((32 : Nat) : Int) from rfl, u64_shr (show 32 < 64 by decide), show (Value.int .u64 4294967295) = uq 4294967295 from rfl, u64_and, show (Value.int .u64 2) = uq 2 from rfl, u64_mul, u64_mul, u64_mul, u64_shr (show 32 < 64 by decide), u64_add, u64_mul, u64_shr (show 32 < 64 by decide), u64_add, u64_and, u64_shl (show 32 < 64 by decide), u64_mul, u64_and, u64_or, u64_lss]
      have htop : (y >>> UInt64.ofNat 32) * (y >>> UInt64.ofNat 32) + (2 * (y >>> UInt64.ofNat 32) * (y &&& 4294967295) + ((y &&& 4294967295) * (y &&& 4294967295)) >>> UInt64.ofNat 32) >>> UInt64.ofNat 32 = sqTop y := rfl
      have hrest : ((2 * (y >>> UInt64.ofNat 32) * (y &&& 4294967295) + ((y &&& 4294967295) * (y &&& 4294967295)) >>> UInt64.ofNat 32) &&& 4294967295) <<< UInt64.ofNat 32 ||| ((y &&& 4294967295) * (y &&& 4294967295)) &&& 4294967295 = sqRest y := rfl
      rw [htop, hrest]
      by_cases hlt : sqTop y < p
      · rw [decide_eq_true hlt]
        refine gs_tf ?_
        refine gs_tf ?_
        refine gs_tf ?_
        refine gs_tf ?_
        refine gstep_u.mpr ?_
        refine gstep_u.mpr ?_
        refine gs_tf ?_
        rw [pickW_t, condW_t]
        rw [if_pos (by simp [sqC, hlt])] at hY
        exact fin _ _ hY f0 rfl f4
      · rw [decide_eq_false hlt]
        refine gs_f ?_
        refine gs_f ?_
        refine gs_f ?_
        rw [u64_eql]
        refine gs_f ?_
        by_cases heq : sqTop y = p
        · rw [decide_eq_true heq]
          refine gs_t ?_
          refine gs_t ?_
          rw [show (Value.int .u64 0) = uq 0 from rfl, u64_eql]
          refine gs_f ?_
          rw [pickW_t, pickW_f]
          refine cond_d (fun hz => ?_) (fun hz => ?_)
          · rw [if_pos (by simp [sqC, heq, hz])] at hY
            exact fin _ _ hY f0 rfl f4
          · rw [if_neg (by simp [sqC, heq, hz])] at hY
            exact fin _ _ hY f0 f3 f4
        · rw [decide_eq_false heq]
          refine gs_ft ?_
          refine gs_ft ?_
          refine gs_f ?_
          rw [pickW_f, pickW_f, condW_f]
          rw [if_neg (by simp [sqC, hlt, heq])] at hY
          exact fin _ _ hY f0 f3 f4
    · obtain rfl : m = 0 := by omega
      have tail : ∀ (fr : Fr), fr 3 = uq x → J1 .normal fr w := by
        intro fr f3
        refine seq_n h1 ?_
        rw [f3, conv_u64u32 und_u64 und_u32]
        have : x = squareF p 36 0 := hsq
        rw [this]; exact hK
      exact hX _ _ _ (by simp) (h2 _ _ _ (blk_x (tail _ f3)))

theorem uqs_flat (l : List UInt64) : flatV (uqs l) = uqs l := by
  induction l with
  | nil => rfl
  | cons x r ih =>
    have e : flatV (uqs (x :: r)) = (uq x).cells.toList ++ flatV (uqs r) := by simp [flatV, uqs]
    rw [e, ih]; rfl
/-- Literal words. -/
theorem Sep.litQ {S : List Nat} {w0 w : World} {L R : List Res} {K : VPost} (s : Sep S w0 w L R) (l : List UInt64) {parts : List (Nat × Value)} (hp : parts = enumV 0 (uqs l)) (hl : l.length ≤ 1000)
    (h : ∀ v' w', Sep S w0 w' (rO v' 212 1 (uqs l) l.length :: L) R → slB v' = [w.heap.size] → Ext [] w w' → K v' w') : insW Tryd.prog (Instr.buildSlice 209 l.length parts.toArray) w K := by
  obtain ⟨ui, hui, huz, husz, huby⟩ := tyI_spec ty_u64
  have hlen : (uqs l).length = l.length := uqs_length l
  have hc : ∀ v ∈ uqs l, v.cells.size = ui.size := by
    intro v hv
    obtain ⟨b, _, rfl⟩ := List.mem_map.1 hv
    rw [husz]; rfl
  have := s.lit (K := K) (vs := uqs l) und_u64s hui huz hp hc (by rw [hlen, husz]; omega) (fun t w' s' ht e => by
    rw [hlen, husz, uqs_flat] at s'
    exact h t w' s' ht e)
  rw [hlen] at this
  exact this
/-- A word more. -/
theorem Sep.addQ {S : List Nat} {w0 w : World} {L R : List Res} {K : Value → VPost} {v : Value} {l : List UInt64} {n : Nat} (s : Sep S w0 w L R) (i : Nat) (hL : L[i]? = some (rO v 212 1 (uqs l) n)) (b : UInt64) (hn : n ≤ 2 ^ 30)
    (h : ∀ t v' w', Sep S w0 w' (L.set i (rO v' 212 1 (uqs (l ++ [b])) (n + 1))) R → K t v' w') :
    insW Tryd.prog (Instr.buildSlice 209 1 #[(0, uq b)]) w fun t w' => insW Tryd.prog (Builtin.append_ #[209, 209] 209 #[v, t]) w' (K t) := by
  obtain ⟨ui, hui, huz, husz, huby⟩ := tyI_spec ty_u64
  refine s.litQ [b] rfl (by simp) fun t w1 s1 ht _ => ?_
  refine s1.appendO (v := v) (n := n) (m := 1) (ys := uqs [b]) (xs := uqs l) (i + 1) (by rw [husz]; simpa using hL) und_u64s und_u64s hui huz (by rw [husz]; rfl) (by rw [huby]; decide) (by rw [husz]; exact OwnAt.rd (s1.at 0 rfl)) (uqs_one _) (by rw [huby]; omega) fun v' w2 s2 => ?_
  rw [husz, ← uqs_append] at s2
  exact h t v' w2 (s2.drop 0)

def dig3 (y : UInt64) : List UInt64 := [y &&& 0xffff, y >>> 16 &&& 0xffff, y >>> 32]
theorem belowF_eq (y p : UInt64) : belowF y p = cmpF (times (times (dig3 y) (dig3 y)) (dig3 y) ++ List.replicate 7 0) ((List.replicate 16 0).set 6 p) 16 := rfl

set_option maxHeartbeats 1000000 in
theorem below_c {w : World} {K : VPost} (y p : UInt64) (hK : ∀ w', Ext [] w w' → K (.bool (belowF y p)) w') : Calls Tryd.prog 202 #[uq y, uq p] w (retK K) := by
  refine c202_calls _ _ w K ?_
  unfold c202
  rw [show (Value.int .u64 65535) = uq 0xffff from rfl, u64_and, show ((16 : Int)) = ((16 : Nat) : Int) from rfl, u64_shr (show 16 < 64 by decide), u64_and, show ((32 : Int)) = ((32 : Nat) : Int) from rfl, u64_shr (show 32 < 64 by decide)]
  refine (Sep.nil w).litQ (dig3 y) rfl (by simp [dig3]) fun vd w1 s _ _ => ?_
  have hd3 : (dig3 y).length = 3 := rfl
  refine fnW_of (by kernel_rfl) (times_c (a := dig3 y) (b := dig3 y) (OwnAt.rd (s.at 0 rfl)) (OwnAt.rd (s.at 0 rfl)) (by rw [hd3]; decide) (by rw [hd3]; decide) fun v2 w2 hv2 e hf2 => ?_)
  have ht2 := times_length (dig3 y) (dig3 y)
  have s := s.add (T := rO v2 212 1 (uqs (times (dig3 y) (dig3 y))) (times (dig3 y) (dig3 y)).length) (by rw [ht2]; exact hv2) e hf2
  refine fnW_of (by kernel_rfl) (times_c (a := times (dig3 y) (dig3 y)) (b := dig3 y) (OwnAt.rd (s.at 0 rfl)) (OwnAt.rd (s.at 1 rfl)) (by rw [ht2, hd3]; decide) (by rw [hd3]; decide) fun v3 w3 hv3 e hf3 => ?_)
  have ht3 := times_length (times (dig3 y) (dig3 y)) (dig3 y)
  rw [ht2, hd3] at ht3
  have s := s.add (T := rO v3 212 1 (uqs (times (times (dig3 y) (dig3 y)) (dig3 y))) 9) (by rw [ht2, hd3] at hv3; exact hv3) e hf3
  generalize hS : times (times (dig3 y) (dig3 y)) (dig3 y) = S9 at *
  obtain ⟨pa, pc, hpa⟩ := (OwnAt.rd (s.at 0 rfl)).len
  rw [hpa, len_s, ← hpa]
  refine nadd (x := 9) (y := 7) (by decide) ?_
  obtain ⟨ui, hui, huz, husz, huby⟩ := tyI_spec ty_u64
  refine makeSlice_i (z0 := .int .u64 0) (n := 16) (c := 16) und_u64s hui huz (by rw [husz]; rfl) (Nat.le_refl _) (by rw [huby]; decide) (by decide) fun bb w4 hbb e hk _ => ?_
  rw [husz] at hk
  have hz : List.replicate (16 * 1) (Value.int .u64 0) = uqs (List.replicate 16 0) := rfl
  rw [hz] at hk
  have s := s.add (T := rO (.slice (some ⟨bb, 0, none⟩) 16 16) 212 1 (uqs (List.replicate 16 0)) 16) (.inr ⟨bb, 0, 16, _, rfl, hk, by rw [uqs_length]; rfl, by rw [List.drop_zero, List.take_of_length_le (by rw [uqs_length]; decide)], by rw [uqs_length]; decide, Nat.le_refl _⟩) e (by intro x hx; simp [rO, slB] at hx; omega)
  generalize (Value.slice (some ⟨bb, 0, none⟩) 16 16) = vw at *
  obtain ⟨b1, o1, i1, _, s1⟩ := s.elAt uq_f 0 0 rfl (k := 6) (by decide) .i64
  refine i1 _ ?_
  refine s1 _ _ _ fun w5 s => ?_
  generalize hW : (List.replicate 16 (0 : UInt64)).set 6 p = W16 at *
  have hWl : W16.length = 16 := by rw [← hW]; simp
  have s := ((s.drop 2).drop 2)
  have s : Sep [] w w5 [rO vw 212 1 (uqs W16) 16, rO v3 212 1 (uqs S9) 9] [] := s
  refine bindX_i fun J0 h0 => bindX_i fun J1 h1 => bindX_i fun J2 h2 => ?_
  have tail : ∀ (fr : Fr) (wr : World) (v6 : Value) (S16 : List UInt64), S16.length = 16 → S16 = S9 ++ List.replicate 7 0 → fr 6 = v6 → fr 7 = vw → Sep [] w wr [rO vw 212 1 (uqs W16) 16, rO v6 212 1 (uqs S16) 16] [] → J1 .normal fr wr := by
    intro fr wr v6 S16 hl16 hS16 f6 f7 s
    refine seq_n h1 ?_
    refine bindX_i fun J3 h3 => ?_
    obtain ⟨qa, qc, hqa⟩ := (OwnAt.rd (s.at 0 rfl)).len
    have hlenW : ∀ (w : World) (K : VPost), lenW Tryd.prog (some true) #[209] 3 #[vw] w K = K (.int .i64 (16 : Nat)) w := fun w K => by rw [hqa, len_s]
    rw [f7, hlenW]
    refine nsub (x := 16) (y := 1) (by decide) (by decide) ?_
    refine bindX_i fun J4 h4 => ?_
    have hbel : belowF y p = cmpF S16 W16 16 := by rw [belowF_eq, hS, hW, hS16]
    refine loop_i (fun m fr wr => m ≤ 16 ∧ cmpF S16 W16 m = belowF y p ∧ fr 6 = v6 ∧ fr 7 = vw ∧ fr 8 = .int .i64 ((m : Int) - 1) ∧
      Sep [] w wr [rO vw 212 1 (uqs W16) 16, rO v6 212 1 (uqs S16) 16] []) 16 ?_ ?_
    · exact ⟨by omega, hbel.symm, f6, f7, rfl, s⟩
    · rintro m fr wr J ⟨hm, hcm, g6, g7, g8, s⟩ hJ hX
      rw [g8, igeq]
      refine cond_d (fun hge => ?_) (fun hge => ?_)
      · obtain ⟨m, rfl⟩ : ∃ k, m = k + 1 := ⟨m - 1, by omega⟩
        have e1 : (((m + 1 : Nat) : Int) - 1) = (m : Int) := by omega
        rw [e1, g6, g7]
        have hcm : (if getU S16 m = getU W16 m then cmpF S16 W16 m else decide (getU S16 m < getU W16 m)) = belowF y p := hcm
        have s := s.drew
        generalize wr.drew = wr at *
        obtain ⟨b2, o2, i2, l2, _⟩ := s.elAt uq_f 0 1 rfl (k := m) (by omega) .i64
        obtain ⟨b3, o3, i3, l3, _⟩ := s.elAt uq_f 0 0 rfl (k := m) (by omega) .i64
        refine i2 _ ?_
        refine l2 _ ?_
        refine i3 _ ?_
        refine l3 _ ?_
        rw [u64_neq]
        have hgs : S16.getD m 0 = getU S16 m := rfl
        have hgw : W16.getD m 0 = getU W16 m := rfl
        rw [hgs, hgw]
        refine cond_b (fun hne => ?_) (fun heq => ?_)
        · have hne : ¬ getU S16 m = getU W16 m := by simpa using hne
          rw [if_neg hne] at hcm
          have s := s.drew
          generalize wr.drew = wr at *
          obtain ⟨b2, o2, i2, l2, _⟩ := s.elAt uq_f 0 1 rfl (k := m) (by omega) .i64
          obtain ⟨b3, o3, i3, l3, _⟩ := s.elAt uq_f 0 0 rfl (k := m) (by omega) .i64
          refine i2 _ ?_
          refine l2 _ ?_
          refine i3 _ ?_
          refine l3 _ ?_
          rw [u64_lss, hgs, hgw, hcm]
          refine hX _ _ _ (by simp) (h4 _ _ _ (h3 _ _ _ (h0 _ _ _ ?_)))
          exact hK _ s.ext
        · have heq : getU S16 m = getU W16 m := by simpa using heq
          rw [if_pos heq] at hcm
          refine isub (by omega) ?_
          exact hJ m _ _ (by omega) ⟨by omega, hcm, g6, g7, rfl, s⟩
      · obtain rfl : m = 0 := by omega
        have hcm : true = belowF y p := hcm
        have fin : ∀ fr : Fr, J3 .normal fr wr := by
          intro fr
          refine seq_n h3 ?_
          rw [hcm]
          exact hK _ s.ext
        exact hX _ _ _ (by simp) (h4 _ _ _ (blk_x (fin _)))
  refine loop_i (fun m fr wr => ∃ (i : Nat) (v6 : Value), m = 7 - i ∧ i ≤ 7 ∧ fr 6 = v6 ∧ fr 7 = vw ∧ Sep [] w wr [rO vw 212 1 (uqs W16) 16, rO v6 212 1 (uqs (S9 ++ List.replicate i 0)) (9 + i)] []) 7 ?_ ?_
  · exact ⟨0, v3, rfl, by omega, rfl, rfl, by rw [List.replicate_zero, List.append_nil]; exact s⟩
  · rintro m fr wr J ⟨i, v6, rfl, hi, f6, f7, s⟩ hJ hX
    obtain ⟨qa, qc, hqa⟩ := (OwnAt.rd (s.at 0 rfl)).len
    obtain ⟨ra, rc, hra⟩ := (OwnAt.rd (s.at 1 rfl)).len
    have hlenW : ∀ (w : World) (K : VPost), lenW Tryd.prog (some true) #[209] 3 #[vw] w K = K (.int .i64 (16 : Nat)) w := fun w K => by rw [hqa, len_s]
    have hlenS : ∀ (w : World) (K : VPost), lenW Tryd.prog (some true) #[209] 3 #[v6] w K = K (.int .i64 ((9 + i : Nat) : Int)) w := fun w K => by rw [hra, len_s]
    rw [f6, f7, hlenS, hlenW]
    refine nlss (cond_d (fun hlt => ?_) (fun hlt => ?_))
    · refine s.addQ (K := _) 1 rfl 0 (by omega) fun _ v' w6 s => ?_
      have e : S9 ++ List.replicate i 0 ++ [0] = S9 ++ List.replicate (i + 1) 0 := by rw [List.append_assoc, ← List.replicate_succ']
      rw [e] at s
      exact hJ (7 - (i + 1)) _ _ (by omega) ⟨i + 1, v', rfl, by omega, rfl, f7, s⟩
    · obtain rfl : i = 7 := by omega
      exact hX _ _ _ (by simp) (h2 _ _ _ (blk_x (tail _ _ v6 _ (by rw [List.length_append, ht3]; rfl) rfl f6 f7 s)))

theorem cube_c {w : World} {K : VPost} (p : UInt64) (hK : ∀ w', Ext [] w w' → K (uv (cube32 p)) w') : Calls Tryd.prog 175 #[uq p] w (retK K) := by
  refine c175_calls _ w K ?_
  unfold c175
  refine bindX_i fun J0 h0 => bindX_i fun J1 h1 => bindX_i fun J2 h2 => ?_
  refine loop_i (fun m fr wr => ∃ (x : UInt64), m ≤ 35 ∧ cubeF p m x = cubeF p 35 0 ∧ fr 0 = uq p ∧ fr 3 = uq x ∧ fr 4 = .int .i64 ((m : Int) - 1) ∧ Ext [] w wr) 35 ?_ ?_
  · exact ⟨0, by omega, rfl, rfl, rfl, rfl, Ext.refl _ _⟩
  · rintro m fr wr J ⟨x, hm, hsq, f0, f3, f4, ex⟩ hJ hX
    rw [f4, igeq]
    refine cond_d (fun hge => ?_) (fun hge => ?_)
    · obtain ⟨m, rfl⟩ : ∃ k, m = k + 1 := ⟨m - 1, by omega⟩
      have e1 : (((m + 1 : Nat) : Int) - 1) = (m : Int) := by omega
      rw [e1] at f4 ⊢
      refine bindX_i fun J3 h3 => bindX_i fun J4 h4 => ?_
      rw [f0, f3, convN_i und_int und_uint, wrap_u64, show ((m : Int)) % 18446744073709551616 = (m : Int) by omega]
      rw [show (Value.int .u64 1) = uq 1 from rfl, u64_shl (show m < 64 by omega)]
      have hsh : (1 : UInt64) <<< UInt64.ofNat m = UInt64.ofNat (1 <<< m) := by
        apply UInt64.toNat_inj.1
        rw [UInt64.toNat_shiftLeft, UInt64.toNat_ofNat', UInt64.toNat_ofNat']
        have : m % 2 ^ 64 % 64 = m := by omega
        rw [this]; rfl
      rw [hsh, u64_add]
      have hY : cubeF p m (if belowF (x + UInt64.ofNat (1 <<< m)) p then x + UInt64.ofNat (1 <<< m) else x) = cubeF p 35 0 := hsq
      generalize hy : x + UInt64.ofNat (1 <<< m) = y at *
      refine fnW_of (by kernel_rfl) (below_c y p fun w2 e => ?_)
      have fin : ∀ (fr : Fr) (z : UInt64), cubeF p m z = cubeF p 35 0 → fr 0 = uq p → fr 3 = uq z → fr 4 = .int .i64 (m : Int) → J3 .normal fr w2 := by
        intro fr z hz g0 g3 g4
        refine seq_n h3 ?_
        rw [g4]
        refine isub (by omega) ?_
        exact hJ m _ _ (by omega) ⟨z, by omega, hz, g0, g3, rfl, ex.new e⟩
      generalize belowF y p = bf at hY ⊢
      refine cond_b (fun hb => ?_) (fun hb => ?_)
      · rw [if_pos hb] at hY
        exact fin _ _ hY f0 rfl f4
      · rw [if_neg (by rw [hb]; simp)] at hY
        exact fin _ _ hY f0 f3 f4
    · obtain rfl : m = 0 := by omega
      have tail : ∀ (fr : Fr), fr 3 = uq x → J1 .normal fr wr := by
        intro fr f3
        refine seq_n h1 ?_
        rw [f3, conv_u64u32 und_u64 und_u32]
        have : x = cubeF p 35 0 := hsq
        rw [this]; exact hK _ ex
      exact hX _ _ _ (by simp) (h2 _ _ _ (blk_x (tail _ f3)))

set_option maxHeartbeats 1000000 in
theorem primes_c {w : World} {K : VPost} (n : Nat) (hn : n ≤ 1000) (r : List UInt64) (hr : prs 400 n 2 [] = some r) (hK : ∀ v w', OwnAt w' v 212 1 (uqs r) r.length → Ext [] w w' → (∀ x ∈ slB v, w.heap.size ≤ x) → K v w') :
    Calls Tryd.prog 174 #[.int .i64 n] w (retK K) := by
  refine c174_calls _ w K ?_
  unfold c174
  refine (Sep.nil w).litQ [] rfl (by simp) fun v0 w1 s _ _ => ?_
  refine bindX_i fun J0 h0 => bindX_i fun J1 h1 => bindX_i fun J2 h2 => ?_
  refine loop_i (fun m fr wr => ∃ (p : UInt64) (out : List UInt64) (v : Value), prs m n p out = some r ∧ out.length ≤ n ∧ fr 0 = .int .i64 n ∧ fr 3 = v ∧ fr 4 = uq p ∧ Sep [] w wr [rO v 212 1 (uqs out) out.length] []) 400 ?_ ?_
  · exact ⟨2, [], v0, hr, by simp, rfl, rfl, rfl, s⟩
  · rintro m fr wr J ⟨p, out, v, hp, ho, f0, f3, f4, s⟩ hJ hX
    cases m with
    | zero => cases hp
    | succ m =>
      have hp : (if out.length < n then (inn 100 p 2 true).bind fun b => prs m n (p + 1) (if b = true then out ++ [p] else out) else some out) = some r := hp
      obtain ⟨qa, qc, hqa⟩ := (OwnAt.rd (s.at 0 rfl)).len
      have hlen : ∀ (w : World) (K : VPost), lenW Tryd.prog (some true) #[209] 3 #[v] w K = K (.int .i64 out.length) w := fun w K => by rw [hqa, len_s]
      rw [f0, f3, hlen]
      refine nlss (cond_d (fun hlt => ?_) (fun hlt => ?_))
      · rw [if_pos hlt, Option.bind_eq_some_iff] at hp
        obtain ⟨bp, hbp, hp⟩ := hp
        refine bindX_i fun J3 h3 => bindX_i fun J4 h4 => bindX_i fun J5 h5 => bindX_i fun J6 h6 => ?_
        have fin : ∀ (fr : Fr) (wr : World) (o2 : List UInt64) (v2 : Value), prs m n (p + 1) o2 = some r → o2.length ≤ n → fr 0 = .int .i64 n → fr 3 = v2 → fr 4 = uq p → Sep [] w wr [rO v2 212 1 (uqs o2) o2.length] [] → J3 .normal fr wr := by
          intro fr wr o2 v2 hp2 ho2 g0 g3 g4 s
          refine seq_n h3 ?_
          rw [g4, show (Value.int .u64 1) = uq 1 from rfl, u64_add]
          exact hJ m _ _ (by omega) ⟨p + 1, o2, v2, hp2, ho2, g0, g3, rfl, s⟩
        refine loop_i (fun q fr wr2 => ∃ (d : UInt64) (b : Bool), inn q p d b = some bp ∧ fr 0 = .int .i64 n ∧ fr 3 = v ∧ fr 4 = uq p ∧ fr 5 = .bool b ∧ fr 6 = uq d ∧ wr2 = wr) 100 ?_ ?_
        · exact ⟨2, true, hbp, f0, f3, f4, rfl, rfl, rfl⟩
        · rintro q fr wr2 I ⟨d, b, hin, g0, g3, g4, g5, g6, hwr⟩ hI hY
          subst hwr
          cases q with
          | zero => cases hin
          | succ q =>
            have hin : (if d * d ≤ p then (if d = 0 then none else inn q p (d + 1) (if p % d = 0 then false else b)) else some b) = some bp := hin
            rw [g4, g6, u64_mul, u64_leq]
            refine cond_d (fun hle => ?_) (fun hle => ?_)
            · rw [if_pos hle] at hin
              by_cases hd0 : d = 0
              · rw [if_pos hd0] at hin; cases hin
              rw [if_neg hd0] at hin
              refine bindX_i fun J7 h7 => bindX_i fun J8 h8 => ?_
              have fin2 : ∀ (fr : Fr) (b2 : Bool), inn q p (d + 1) b2 = some bp → fr 0 = .int .i64 n → fr 3 = v → fr 4 = uq p → fr 5 = .bool b2 → fr 6 = uq d → J7 .normal fr wr2 := by
                intro fr b2 hb2 g0 g3 g4 g5 g6
                refine seq_n h7 ?_
                rw [g6, show (Value.int .u64 1) = uq 1 from rfl, u64_add]
                exact hI q _ _ (by omega) ⟨d + 1, b2, hb2, g0, g3, g4, g5, rfl, rfl⟩
              rw [u64_rem hd0, show (Value.int .u64 0) = uq 0 from rfl, u64_eql]
              refine cond_d (fun hz => ?_) (fun hz => ?_)
              · rw [if_pos hz] at hin
                exact fin2 _ _ hin g0 g3 g4 rfl g6
              · rw [if_neg hz] at hin
                exact fin2 _ _ hin g0 g3 g4 g5 g6
            · rw [if_neg hle] at hin
              have hin : b = bp := Option.some.inj hin
              have rest : ∀ (fr : Fr), fr 0 = .int .i64 n → fr 3 = v → fr 4 = uq p → fr 5 = .bool bp → J5 .normal fr wr2 := by
                intro fr g0 g3 g4 g5
                refine seq_n h5 ?_
                rw [g3, g4, g5]
                refine cond_b (fun hb => ?_) (fun hb => ?_)
                · rw [if_pos hb] at hp
                  refine s.addQ (K := _) 0 rfl p (by omega) fun _ v' w6 s => ?_
                  exact fin _ _ _ v' hp (by rw [List.length_append]; simp; omega) g0 rfl g4 (by rw [List.length_append]; exact s)
                · rw [if_neg (by rw [hb]; simp)] at hp
                  exact fin _ _ _ v hp ho g0 g3 g4 s
              exact hY _ _ _ (by simp) (h6 _ _ _ (blk_x (rest _ g0 g3 g4 (by rw [← hin]; exact g5))))
      · rw [if_neg hlt] at hp
        have hp : out = r := Option.some.inj hp
        have tail : ∀ fr : Fr, fr 3 = v → J1 .normal fr wr := by
          intro fr f3
          refine seq_n h1 ?_
          rw [f3]
          subst hp
          exact hK v wr (s.at 0 rfl) s.ext (s.fresh 0 rfl)
        exact hX _ _ _ (by simp) (h2 _ _ _ (blk_x (tail _ f3)))

theorem uc_flat (l : List UInt32) : flatV (uc l) = uc l := by
  induction l with
  | nil => rfl
  | cons x r ih =>
    have e : flatV (uc (x :: r)) = (uv x).cells.toList ++ flatV (uc r) := by simp [flatV, uc]
    rw [e, ih]; rfl
theorem Sep.litV {S : List Nat} {w0 w : World} {L R : List Res} {K : VPost} (s : Sep S w0 w L R) (l : List UInt32) {parts : List (Nat × Value)} (hp : parts = enumV 0 (uc l)) (hl : l.length ≤ 1000)
    (h : ∀ v' w', Sep S w0 w' (rO v' 168 1 (uc l) l.length :: L) R → slB v' = [w.heap.size] → Ext [] w w' → K v' w') : insW Tryd.prog (Instr.buildSlice 166 l.length parts.toArray) w K := by
  obtain ⟨ui, hui, huz, husz, huby⟩ := tyI_spec ty_u32
  have hlen : (uc l).length = l.length := uc_length l
  have hc : ∀ v ∈ uc l, v.cells.size = ui.size := by
    intro v hv
    obtain ⟨b, _, rfl⟩ := List.mem_map.1 hv
    rw [husz]; rfl
  have := s.lit (K := K) (vs := uc l) und_u32s hui huz hp hc (by rw [hlen, husz]; omega) (fun t w' s' ht e => by
    rw [hlen, husz, uc_flat] at s'
    exact h t w' s' ht e)
  rw [hlen] at this
  exact this
theorem Sep.addV {S : List Nat} {w0 w : World} {L R : List Res} {K : Value → VPost} {v : Value} {l : List UInt32} {n : Nat} (s : Sep S w0 w L R) (i : Nat) (hL : L[i]? = some (rO v 168 1 (uc l) n)) (b : UInt32) (hn : n ≤ 2 ^ 30)
    (h : ∀ t v' w', Sep S w0 w' (L.set i (rO v' 168 1 (uc (l ++ [b])) (n + 1))) R → K t v' w') :
    insW Tryd.prog (Instr.buildSlice 166 1 #[(0, uv b)]) w fun t w' => insW Tryd.prog (Builtin.append_ #[166, 166] 166 #[v, t]) w' (K t) := by
  obtain ⟨ui, hui, huz, husz, huby⟩ := tyI_spec ty_u32
  refine s.litV [b] rfl (by simp) fun t w1 s1 ht _ => ?_
  refine s1.appendO (v := v) (n := n) (m := 1) (ys := uc [b]) (xs := uc l) (i + 1) (by rw [husz]; simpa using hL) und_u32s und_u32s hui huz (by rw [husz]; rfl) (by rw [huby]; decide) (by rw [husz]; exact OwnAt.rd (s1.at 0 rfl)) (uc_one _) (by rw [huby]; omega) fun v' w2 s2 => ?_
  rw [husz, ← uc_append] at s2
  exact h t v' w2 (s2.drop 0)
theorem build0_w8 {w : World} {K : VPost} (h : K (.agg (uc (List.replicate 8 0)).toArray) w) : insW Tryd.prog (Instr.build 169 #[]) w K :=
  build_w8 (parts := []) (l := List.replicate 8 0) (by kernel_rfl) h
theorem build0_dig {w : World} {K : VPost} (h : K (.agg (bc (List.replicate 32 0)).toArray) w) : insW Tryd.prog (Instr.build 77 #[]) w K := by
  obtain ⟨ti, hi, hz, hs, hb⟩ := tyI_spec (by kernel_rfl : tyI Tryd.prog 77 = some (.agg (Array.replicate 32 (.int .u8 0)), 32, 32))
  obtain ⟨ui, hui, huz, husz, huby⟩ := tyI_spec ty_u8
  refine buildA_i (parts := []) (by kernel_rfl : Tryd.prog.underlying 77 = some (.array 32 5)) hi hz hui ?_ h
  rw [← cells_dig]; rfl

theorem rconstants_c {w : World} {K : VPost} (hK : ∀ v w', OwnAt w' v 168 1 (uc shaK) 64 → Ext [] w w' → (∀ x ∈ slB v, w.heap.size ≤ x) → K v w') : Calls Tryd.prog 132 #[] w (retK K) := by
  refine c132_calls w K ?_
  unfold c132
  refine fnW_of (by kernel_rfl) (primes_c 64 (by decide) _ prs64 fun vp w1 hvp e hf => ?_)
  have s := (Sep.nil w).add (T := rO vp 212 1 (uqs primes64) primes64.length) hvp e hf
  refine s.litV [] rfl (by simp) fun v0 w2 s _ _ => ?_
  refine bindX_i fun J0 h0 => bindX_i fun J1 h1 => bindX_i fun J2 h2 => ?_
  have hpl : primes64.length = 64 := rfl
  refine loop_i (fun m fr wr => ∃ (i : Nat) (v : Value), m = 64 - i ∧ i ≤ 64 ∧ fr 1 = vp ∧ fr 2 = v ∧ fr 3 = .int .i64 i ∧ Sep [] w wr [rO v 168 1 (uc ((primes64.take i).map cube32)) i, rO vp 212 1 (uqs primes64) primes64.length] []) 64 ?_ ?_
  · exact ⟨0, v0, rfl, by omega, rfl, rfl, rfl, s⟩
  · rintro m fr wr J ⟨i, v, rfl, hi, f1, f2, f3, s⟩ hJ hX
    rw [f3]
    refine nlss (y := 64) (cond_d (fun hlt => ?_) (fun hlt => ?_))
    · rw [f1, f2]
      obtain ⟨b1, o1, i1, l1, _⟩ := s.elAt uq_f 0 1 rfl (k := i) (by omega) .i64
      refine i1 _ ?_
      refine l1 _ ?_
      refine fnW_of (by kernel_rfl) (cube_c _ fun w3 e => ?_)
      have s := s.ext0 e
      refine s.addV (K := _) 0 rfl _ (by omega) fun _ v' w4 s => ?_
      have hlt' : i < primes64.length := by omega
      have e2 : (primes64.take i).map cube32 ++ [cube32 (primes64.getD i 0)] = (primes64.take (i + 1)).map cube32 := by
        rw [List.take_succ_eq_append_getElem hlt', List.map_append, List.getD_eq_getElem?_getD, List.getElem?_eq_getElem hlt']; rfl
      rw [e2] at s
      refine nadd (y := 1) (by omega) ?_
      exact hJ (64 - (i + 1)) _ _ (by omega) ⟨i + 1, v', rfl, by omega, f1, rfl, rfl, s⟩
    · obtain rfl : i = 64 := by omega
      have e2 : (primes64.take 64).map cube32 = shaK := by rw [List.take_of_length_le (by rw [hpl]; exact Nat.le_refl _)]; exact cubes
      rw [e2] at s
      have tail : ∀ fr : Fr, fr 2 = v → J1 .normal fr wr := by
        intro fr f2
        refine seq_n h1 ?_
        rw [f2]
        exact hK v wr (s.at 0 rfl) s.ext (s.fresh 0 rfl)
      exact hX _ _ _ (by simp) (h2 _ _ _ (blk_x (tail _ f2)))

theorem rfirst_c {w : World} {K : VPost} (hK : ∀ w', Ext [] w w' → K (.agg (uc shaH).toArray) w') : Calls Tryd.prog 133 #[] w (retK K) := by
  refine c133_calls w K ?_
  unfold c133
  refine (Sep.nil w).alloc zero_w8 cells_w8 fun b0 w1 s _ => ?_
  refine fnW_of (by kernel_rfl) (primes_c 8 (by decide) _ prs8 fun vp w2 hvp e hf => ?_)
  have hpl : (primes64.take 8).length = 8 := rfl
  generalize hP : primes64.take 8 = P8 at *
  have s := s.add (T := rO vp 212 1 (uqs P8) P8.length) hvp e hf
  refine build0_w8 ?_
  refine s.alloc zero_w8 cells_w8 fun b2 w3 s _ => ?_
  refine s.storeAll 0 rfl rfl rfl (uc_one _) fun w4 s _ => ?_
  have s : Sep [] w w4 [rB b2 (uc (List.replicate 8 0)) 169, rO vp 212 1 (uqs P8) P8.length, rB b0 (uc (List.replicate 8 0)) 169] [] := s
  have hM : P8.map (fun p => (squareF p 36 0).toUInt32) = shaH := by rw [← hP]; exact square8
  refine bindX_i fun J0 h0 => bindX_i fun J1 h1 => bindX_i fun J2 h2 => ?_
  refine loop_i (fun m fr wr => ∃ (i : Nat), m = 8 - i ∧ i ≤ 8 ∧ fr 0 = .pointer (some ⟨b0, 0, none⟩) ∧ fr 1 = vp ∧ fr 2 = .pointer (some ⟨b2, 0, none⟩) ∧ fr 3 = .int .i64 i ∧
    Sep [] w wr [rB b2 (uc (shaH.take i ++ List.replicate (8 - i) 0)) 169, rO vp 212 1 (uqs P8) P8.length, rB b0 (uc (List.replicate 8 0)) 169] []) 8 ?_ ?_
  · exact ⟨0, rfl, by omega, rfl, rfl, rfl, rfl, s⟩
  · rintro m fr wr J ⟨i, rfl, hi, f0, f1, f2, f3, s⟩ hJ hX
    rw [f3]
    refine nlss (y := 8) (cond_d (fun hlt => ?_) (fun hlt => ?_))
    · rw [f1, f2]
      obtain ⟨b1, o1, i1, l1, _⟩ := s.elAt uq_f 0 1 rfl (k := i) (by omega) .i64
      refine i1 _ ?_
      refine l1 _ ?_
      refine fnW_of (by kernel_rfl) (square_c _ ?_)
      have hl : (shaH.take i).length = i := by rw [List.length_take]; show min i 8 = i; omega
      refine idxA1 hlt ?_
      refine s.stw 0 rfl (by rw [List.length_append, hl, List.length_replicate]; omega) fun w5 s => ?_
      have hlt' : i < P8.length := by omega
      have hlt8 : i < shaH.length := hlt
      have e : (shaH.take i ++ List.replicate (8 - i) 0).set i ((squareF (P8.getD i 0) 36 0).toUInt32) = shaH.take (i + 1) ++ List.replicate (8 - (i + 1)) 0 := by
        rw [show 8 - i = (8 - (i + 1)) + 1 by omega, List.replicate_succ, set_mid _ _ _ _ i hl, List.take_succ_eq_append_getElem hlt8, List.append_assoc]
        congr 2
        rw [List.getD_eq_getElem?_getD, List.getElem?_eq_getElem hlt']
        have h9 : shaH[i]? = (P8.map (fun p => (squareF p 36 0).toUInt32))[i]? := by rw [hM]
        rw [List.getElem?_eq_getElem hlt8, List.getElem?_map, List.getElem?_eq_getElem hlt'] at h9
        exact (Option.some.inj h9).symm
      rw [e] at s
      refine nadd (y := 1) (by omega) ?_
      exact hJ (8 - (i + 1)) _ _ (by omega) ⟨i + 1, rfl, by omega, f0, f1, f2, rfl, s⟩
    · obtain rfl : i = 8 := by omega
      have tail : ∀ fr : Fr, fr 0 = .pointer (some ⟨b0, 0, none⟩) → fr 2 = .pointer (some ⟨b2, 0, none⟩) → J1 .normal fr wr := by
        intro fr f0 f2
        refine seq_n h1 ?_
        rw [f0, f2]
        have s : Sep [] w wr [rB b2 (uc shaH) 169, rO vp 212 1 (uqs P8) P8.length, rB b0 (uc (List.replicate 8 0)) 169] [] := s
        refine s.loadAll 0 rfl rfl ?_
        refine s.storeAll 2 rfl rfl rfl (uc_one _) fun w6 s _ => ?_
        refine s.loadAll 2 rfl rfl ?_
        exact hK _ s.ext
      exact hX _ _ _ (by simp) (h2 _ _ _ (blk_x (tail _ f0 f2)))

theorem ofL_list (st : List UInt32) (h : st.length = 8) : (St.ofL st).list = st := by
  match st, h with
  | [a, b, c, d, e, f, g, h], _ => rfl
theorem zip_take (st l z : List UInt32) (hz : z = List.zipWith (· + ·) st l) (hs : st.length = 8) (hl : l.length = 8) (i : Nat) (hi : i < 8) :
    (z.take i ++ List.replicate (8 - i) 0).set i (st.getD i 0 + l.getD i 0) = z.take (i + 1) ++ List.replicate (8 - (i + 1)) 0 := by
  have hzl : z.length = 8 := by rw [hz]; simp [hs, hl]
  have hil : (z.take i).length = i := by rw [List.length_take]; omega
  have h1 : i < st.length := by omega
  have h2 : i < l.length := by omega
  have hx : z[i]'(by omega) = st.getD i 0 + l.getD i 0 := by subst hz; simp [List.getD_eq_getElem?_getD, h1, h2]
  rw [show 8 - i = (8 - (i + 1)) + 1 by omega, List.replicate_succ, set_mid _ _ _ _ i hil, List.take_succ_eq_append_getElem (by omega), List.append_assoc, hx]
  rfl

set_option maxHeartbeats 2000000 in
theorem taken_c {w : World} {K : VPost} {st : List UInt32} {blk : Bytes} {vk : Value} (hst : st.length = 8) (hb : blk.length = 64) (hk : RdSl w vk 1 (uc shaK) 64) (hK : ∀ w', Ext [] w w' → K (.agg (uc (compress st blk)).toArray) w') :
    Calls Tryd.prog 134 #[.agg (uc st).toArray, .agg (bc blk).toArray, vk] w (retK K) := by
  refine c134_calls _ _ _ w K ?_
  unfold c134
  have hus : (uc st).length = 8 := by rw [uc_length]; exact hst
  have hub : (bc blk).length = 64 := by rw [bc_length]; exact hb
  have hkl : shaK.length = 64 := rfl
  have hsl := sched_length blk 64
  refine (Sep.zero1 (U := rR vk 1 (uc shaK) 64) hk).box fun b3 w1 s _ => s.box fun b4 w2 s _ => s.alloc zero_w8 cells_w8 fun b6 w3 s _ => ?_
  obtain ⟨ui, hui, huz, husz, huby⟩ := tyI_spec ty_u32
  refine makeSlice_i (z0 := .int .u32 0) (n := 64) (c := 64) und_u32s hui huz (by rw [husz]; rfl) (Nat.le_refl _) (by rw [huby]; decide) (by decide) fun bb w4 hbb e hk' _ => ?_
  rw [husz] at hk'
  have hz : List.replicate (64 * 1) (Value.int .u32 0) = uc (List.replicate 64 0) := rfl
  rw [hz] at hk'
  have s := s.add (T := rO (.slice (some ⟨bb, 0, none⟩) 64 64) 168 1 (uc (List.replicate 64 0)) 64) (.inr ⟨bb, 0, 64, _, rfl, hk', by rw [uc_length]; rfl, by rw [List.drop_zero, List.take_of_length_le (by rw [uc_length]; decide)], by rw [uc_length]; decide, Nat.le_refl _⟩) e (by intro x hx; simp [rO, slB] at hx; omega)
  generalize (Value.slice (some ⟨bb, 0, none⟩) 64 64) = vw at *
  have s : Sep [] w w4 [rO vw 168 1 (uc (List.replicate 64 0)) 64, rB b6 (uc (List.replicate 8 0)) 169, rB b4 (bc blk) 36, rB b3 (uc st) 169] [rR vk 1 (uc shaK) 64] := s
  refine bindX_i fun J0 h0 => bindX_i fun J1 h1 => bindX_i fun J2 h2 => ?_
  -- the rounds, and what follows
  have rounds : ∀ (fr : Fr) (wr : World), fr 2 = vk → fr 3 = .pointer (some ⟨b3, 0, none⟩) → fr 6 = .pointer (some ⟨b6, 0, none⟩) → fr 7 = vw →
      Sep [] w wr [rO vw 168 1 (uc (sched blk 64)) 64, rB b6 (uc (List.replicate 8 0)) 169, rB b4 (bc blk) 36, rB b3 (uc st) 169] [rR vk 1 (uc shaK) 64] → J1 .normal fr wr := by
    intro fr wr f2 f3 f6 f7 s
    refine seq_n h1 ?_
    rw [f3]
    refine s.loadAll 3 rfl hus ?_
    refine s.alloc zero_w8 cells_w8 fun b13 w5 s _ => ?_
    refine s.storeAll 0 rfl hus rfl (uc_one _) fun w6 s _ => ?_
    have s : Sep [] w w6 [rB b13 (uc st) 169, rO vw 168 1 (uc (sched blk 64)) 64, rB b6 (uc (List.replicate 8 0)) 169, rB b4 (bc blk) 36, rB b3 (uc st) 169] [rR vk 1 (uc shaK) 64] := s
    refine bindX_i fun J3 h3 => bindX_i fun J4 h4 => ?_
    have ending : ∀ (fr : Fr) (wr : World) (q : St), q = rnds (sched blk 64) 64 (St.ofL st) → fr 3 = .pointer (some ⟨b3, 0, none⟩) → fr 6 = .pointer (some ⟨b6, 0, none⟩) → fr 13 = .pointer (some ⟨b13, 0, none⟩) →
        Sep [] w wr [rB b13 (uc q.list) 169, rO vw 168 1 (uc (sched blk 64)) 64, rB b6 (uc (List.replicate 8 0)) 169, rB b4 (bc blk) 36, rB b3 (uc st) 169] [rR vk 1 (uc shaK) 64] → J3 .normal fr wr := by
      intro fr wr q hq f3 f6 f13 s
      refine seq_n h3 ?_
      refine build0_w8 ?_
      refine s.alloc zero_w8 cells_w8 fun b21 w7 s _ => ?_
      refine s.storeAll 0 rfl rfl rfl (uc_one _) fun w8 s _ => ?_
      have s : Sep [] w w8 [rB b21 (uc (List.replicate 8 0)) 169, rB b13 (uc q.list) 169, rO vw 168 1 (uc (sched blk 64)) 64, rB b6 (uc (List.replicate 8 0)) 169, rB b4 (bc blk) 36, rB b3 (uc st) 169] [rR vk 1 (uc shaK) 64] := s
      have hql : q.list.length = 8 := rfl
      have hzl : (List.zipWith (· + ·) st q.list).length = 8 := by simp [hst, hql]
      have hcz : compress st blk = List.zipWith (· + ·) st q.list := by rw [hq]; rfl
      refine bindX_i fun J5 h5 => bindX_i fun J6 h6 => ?_
      refine loop_i (fun m fr wr => ∃ (i : Nat), m = 8 - i ∧ i ≤ 8 ∧ fr 3 = .pointer (some ⟨b3, 0, none⟩) ∧ fr 6 = .pointer (some ⟨b6, 0, none⟩) ∧ fr 13 = .pointer (some ⟨b13, 0, none⟩) ∧ fr 21 = .pointer (some ⟨b21, 0, none⟩) ∧ fr 22 = .int .i64 i ∧
        Sep [] w wr [rB b21 (uc ((compress st blk).take i ++ List.replicate (8 - i) 0)) 169, rB b13 (uc q.list) 169, rO vw 168 1 (uc (sched blk 64)) 64, rB b6 (uc (List.replicate 8 0)) 169, rB b4 (bc blk) 36, rB b3 (uc st) 169] [rR vk 1 (uc shaK) 64]) 8 ?_ ?_
      · exact ⟨0, rfl, by omega, f3, f6, f13, rfl, rfl, s⟩
      · rintro m fr wr J ⟨i, rfl, hi, g3, g6, g13, g21, g22, s⟩ hJ hX
        rw [g22]
        refine nlss (y := 8) (cond_d (fun hlt => ?_) (fun hlt => ?_))
        · rw [g3, g13, g21]
          have s := s.drew
          generalize wr.drew = wr at *
          refine idxA1 hlt ?_
          refine s.ldw 5 rfl (by omega) ?_
          refine idxA1 hlt ?_
          refine s.ldw 1 rfl (by omega) ?_
          rw [u32_add]
          have hcl : (compress st blk).length = 8 := compress_length _ _ hst
          have hl : ((compress st blk).take i).length = i := by rw [List.length_take]; omega
          refine idxA1 hlt ?_
          refine s.stw 0 rfl (by rw [List.length_append, hl, List.length_replicate]; omega) fun w9 s => ?_
          rw [zip_take _ _ _ hcz hst hql i hlt] at s
          refine nadd (y := 1) (by omega) ?_
          exact hJ (8 - (i + 1)) _ _ (by omega) ⟨i + 1, rfl, by omega, g3, g6, g13, g21, rfl, s⟩
        · obtain rfl : i = 8 := by omega
          have hcl : (compress st blk).length = 8 := compress_length _ _ hst
          have e : (compress st blk).take 8 ++ List.replicate (8 - 8) 0 = compress st blk := by simp [List.take_of_length_le, hcl]
          rw [e] at s
          have fin : ∀ fr : Fr, fr 6 = .pointer (some ⟨b6, 0, none⟩) → fr 21 = .pointer (some ⟨b21, 0, none⟩) → J5 .normal fr wr := by
            intro fr g6 g21
            refine seq_n h5 ?_
            rw [g6, g21]
            have hcu : (uc (compress st blk)).length = 8 := by rw [uc_length]; exact hcl
            refine s.loadAll 0 rfl hcu ?_
            refine s.storeAll 3 rfl hcu rfl (uc_one _) fun w10 s _ => ?_
            refine s.loadAll 3 rfl hcu ?_
            exact hK _ s.ext
          exact hX _ _ _ (by simp) (h6 _ _ _ (blk_x (fin _ g6 g21)))
    refine loop_i (fun m fr wr => ∃ (t : Nat) (q : St), m = 64 - t ∧ t ≤ 64 ∧ q = rnds (sched blk 64) t (St.ofL st) ∧ fr 2 = vk ∧ fr 3 = .pointer (some ⟨b3, 0, none⟩) ∧ fr 6 = .pointer (some ⟨b6, 0, none⟩) ∧ fr 7 = vw ∧ fr 13 = .pointer (some ⟨b13, 0, none⟩) ∧ fr 14 = .int .i64 t ∧
      Sep [] w wr [rB b13 (uc q.list) 169, rO vw 168 1 (uc (sched blk 64)) 64, rB b6 (uc (List.replicate 8 0)) 169, rB b4 (bc blk) 36, rB b3 (uc st) 169] [rR vk 1 (uc shaK) 64]) 64 ?_ ?_
    · refine ⟨0, St.ofL st, rfl, by omega, rfl, f2, f3, f6, f7, rfl, rfl, ?_⟩
      rw [ofL_list st hst]; exact s
    · rintro m fr wr J ⟨t, q, rfl, ht, hq, g2, g3, g6, g7, g13, g14, s⟩ hJ hX
      rw [g14]
      refine nlss (y := 64) (cond_d (fun hlt => ?_) (fun hlt => ?_))
      · rw [g2, g7, g13]
        have hql : q.list.length = 8 := rfl
        refine idxA1 (i := 0) (by decide) ?_
        refine s.ldw 0 rfl (by omega) ?_
        refine idxA1 (i := 4) (by decide) ?_
        refine s.ldw 0 rfl (by omega) ?_
        refine idxA1 (i := 5) (by decide) ?_
        refine s.ldw 0 rfl (by omega) ?_
        rw [u32_and, u32_not]
        refine idxA1 (i := 6) (by decide) ?_
        refine s.ldw 0 rfl (by omega) ?_
        rw [u32_and, u32_or]
        refine idxA1 (i := 1) (by decide) ?_
        refine s.ldw 0 rfl (by omega) ?_
        rw [u32_and]
        refine idxA1 (i := 2) (by decide) ?_
        refine s.ldw 0 rfl (by omega) ?_
        rw [u32_and, u32_or]
        refine idxA1 (i := 1) (by decide) ?_
        refine s.ldw 0 rfl (by omega) ?_
        refine idxA1 (i := 2) (by decide) ?_
        refine s.ldw 0 rfl (by omega) ?_
        rw [u32_and, u32_or]
        have s := s.drew
        generalize wr.drew = wr at *
        obtain ⟨kb, ko, kix, kld⟩ := RdSl.elAt (f := uv) 0 (s.rat 0 rfl) (k := t) (by omega) .i64
        obtain ⟨wb, wo, wix, wld, _⟩ := s.elAt uv_f 0 1 rfl (k := t) (by omega) .i64
        refine idxA1 (i := 7) (by decide) ?_
        refine s.ldw 0 rfl (by omega) ?_
        refine kix _ ?_
        refine kld _ ?_
        refine wix _ ?_
        refine wld _ ?_
        refine fnW_of (by kernel_rfl) (turn_c _ 6 (by decide) (by decide) ?_)
        refine ⟨s.ldw 0 rfl (by omega) ⟨rfl, rfl⟩, kld _ ⟨rfl, rfl⟩, wld _ ⟨rfl, rfl⟩, ?_⟩
        refine fnW_of (by kernel_rfl) (turn_c _ 11 (by decide) (by decide) ?_)
        refine ⟨s.ldw 0 rfl (by omega) ⟨rfl, rfl⟩, kld _ ⟨rfl, rfl⟩, wld _ ⟨rfl, rfl⟩, ?_⟩
        rw [u32_xor]
        refine fnW_of (by kernel_rfl) (turn_c _ 25 (by decide) (by decide) ?_)
        refine ⟨s.ldw 0 rfl (by omega) ⟨rfl, rfl⟩, kld _ ⟨rfl, rfl⟩, wld _ ⟨rfl, rfl⟩, ?_⟩
        rw [u32_xor, u32_add, u32_add, u32_add, u32_add]
        refine fnW_of (by kernel_rfl) (turn_c _ 2 (by decide) (by decide) ?_)
        refine fnW_of (by kernel_rfl) (turn_c _ 13 (by decide) (by decide) ?_)
        rw [u32_xor]
        refine fnW_of (by kernel_rfl) (turn_c _ 22 (by decide) (by decide) ?_)
        rw [u32_xor, u32_add, u32_add]
        refine idxA1 (i := 0) (by decide) ?_
        refine s.ldw 0 rfl (by omega) ?_
        refine idxA1 (i := 1) (by decide) ?_
        refine s.ldw 0 rfl (by omega) ?_
        refine idxA1 (i := 2) (by decide) ?_
        refine s.ldw 0 rfl (by omega) ?_
        refine idxA1 (i := 3) (by decide) ?_
        refine s.ldw 0 rfl (by omega) ?_
        rw [u32_add]
        refine idxA1 (i := 4) (by decide) ?_
        refine s.ldw 0 rfl (by omega) ?_
        refine idxA1 (i := 5) (by decide) ?_
        refine s.ldw 0 rfl (by omega) ?_
        refine idxA1 (i := 6) (by decide) ?_
        have hch := ch_or (q.list.getD 4 0) (q.list.getD 5 0) (q.list.getD 6 0)
        have hmaj := maj_or (q.list.getD 0 0) (q.list.getD 1 0) (q.list.getD 2 0)
        rw [hch, hmaj]
        generalize hx0 : uv (q.list.getD 7 0 + (rr (q.list.getD 4 0) 6 ^^^ rr (q.list.getD 4 0) 11 ^^^ rr (q.list.getD 4 0) 25) + (q.list.getD 4 0 &&& q.list.getD 5 0 ^^^ ~~~q.list.getD 4 0 &&& q.list.getD 6 0) + shaK.getD t 0 + (sched blk 64).getD t 0 + ((rr (q.list.getD 0 0) 2 ^^^ rr (q.list.getD 0 0) 13 ^^^ rr (q.list.getD 0 0) 22) + (q.list.getD 0 0 &&& q.list.getD 1 0 ^^^ q.list.getD 0 0 &&& q.list.getD 2 0 ^^^ q.list.getD 1 0 &&& q.list.getD 2 0))) = x0
        generalize hx4 : uv (q.list.getD 3 0 + (q.list.getD 7 0 + (rr (q.list.getD 4 0) 6 ^^^ rr (q.list.getD 4 0) 11 ^^^ rr (q.list.getD 4 0) 25) + (q.list.getD 4 0 &&& q.list.getD 5 0 ^^^ ~~~q.list.getD 4 0 &&& q.list.getD 6 0) + shaK.getD t 0 + (sched blk 64).getD t 0)) = x4
        generalize hx1 : uv (q.list.getD 0 0) = x1
        generalize hx2 : uv (q.list.getD 1 0) = x2
        generalize hx3 : uv (q.list.getD 2 0) = x3
        generalize hx5 : uv (q.list.getD 4 0) = x5
        generalize hx6 : uv (q.list.getD 5 0) = x6
        refine s.ldw 0 rfl (by omega) ?_
        generalize hx7 : uv (q.list.getD 6 0) = x7
        refine build_w8 (l := (rnd q (shaK.getD t 0) ((sched blk 64).getD t 0)).list) (by rw [← hx0, ← hx1, ← hx2, ← hx3, ← hx4, ← hx5, ← hx6, ← hx7]; exact fill_w8 _ _ _ _ _ _ _ _) ?_
        refine s.storeAll 0 rfl rfl rfl (uc_one _) fun w9 s _ => ?_
        refine nadd (y := 1) (by omega) ?_
        exact hJ (64 - (t + 1)) _ _ (by omega) ⟨t + 1, rnd q (shaK.getD t 0) ((sched blk 64).getD t 0), rfl, by omega, by rw [hq]; rfl, g2, g3, g6, g7, g13, rfl, s⟩
      · obtain rfl : t = 64 := by omega
        exact hX _ _ _ (by simp) (h4 _ _ _ (blk_x (ending _ _ q hq g3 g6 g13 s)))
  refine loop_i (fun m fr wr => ∃ (t : Nat), m = 64 - t ∧ t ≤ 64 ∧ fr 2 = vk ∧ fr 3 = .pointer (some ⟨b3, 0, none⟩) ∧ fr 4 = .pointer (some ⟨b4, 0, none⟩) ∧ fr 6 = .pointer (some ⟨b6, 0, none⟩) ∧ fr 7 = vw ∧ fr 8 = .int .i64 t ∧
    Sep [] w wr [rO vw 168 1 (uc (sched blk t ++ List.replicate (64 - t) 0)) 64, rB b6 (uc (List.replicate 8 0)) 169, rB b4 (bc blk) 36, rB b3 (uc st) 169] [rR vk 1 (uc shaK) 64]) 64 ?_ ?_
  · exact ⟨0, rfl, by omega, rfl, rfl, rfl, rfl, rfl, rfl, s⟩
  · rintro m fr wr J ⟨t, rfl, ht, f2, f3, f4, f6, f7, f8, s⟩ hJ hX
    rw [f8]
    refine nlss (y := 64) (cond_d (fun hlt => ?_) (fun hlt => ?_))
    · refine bindX_i fun J3 h3 => bindX_i fun J4 h4 => ?_
      have hslt := sched_length blk t
      have hset : ∀ x : UInt32, (sched blk t ++ List.replicate (64 - t) 0).set t x = sched blk t ++ x :: List.replicate (63 - t) 0 := by
        intro x
        rw [show 64 - t = (63 - t) + 1 by omega, List.replicate_succ, set_mid _ _ _ _ t hslt]
      have hg : ∀ k, k < t → (sched blk t ++ List.replicate (64 - t) 0).getD k 0 = (sched blk t).getD k 0 := by
        intro k hk
        rw [List.getD_eq_getElem?_getD, List.getElem?_append_left (by omega), List.getD_eq_getElem?_getD]
      have fin : ∀ (fr : Fr) (wr : World), fr 2 = vk → fr 3 = .pointer (some ⟨b3, 0, none⟩) → fr 4 = .pointer (some ⟨b4, 0, none⟩) → fr 6 = .pointer (some ⟨b6, 0, none⟩) → fr 7 = vw → fr 8 = .int .i64 t →
          Sep [] w wr [rO vw 168 1 (uc (sched blk t ++ wAt blk (sched blk t) t :: List.replicate (63 - t) 0)) 64, rB b6 (uc (List.replicate 8 0)) 169, rB b4 (bc blk) 36, rB b3 (uc st) 169] [rR vk 1 (uc shaK) 64] → J3 .normal fr wr := by
        intro fr wr f2 f3 f4 f6 f7 f8 s
        refine seq_n h3 ?_
        rw [f8]
        refine nadd (y := 1) (by omega) ?_
        have e : sched blk t ++ wAt blk (sched blk t) t :: List.replicate (63 - t) 0 = sched blk (t + 1) ++ List.replicate (64 - (t + 1)) 0 := by
          rw [show 64 - (t + 1) = 63 - t by omega]; simp [sched]
        rw [e] at s
        exact hJ (64 - (t + 1)) _ _ (by omega) ⟨t + 1, rfl, by omega, f2, f3, f4, f6, f7, rfl, s⟩
      refine nlss (y := 16) (cond_d (fun h16 => ?_) (fun h16 => ?_))
      · rw [f4, f7]
        have s := s.drew
        generalize wr.drew = wr at *
        have ldb : ∀ (k : Nat) (K : VPost), k < 64 → K (bv (blk.getD k 0)) wr → loadW (some (false, 1)) (.pointer (some ⟨b4, k, none⟩)) wr K := fun k K hk h => s.load1 2 rfl (bc_get (by omega)) h
        refine nmul (x := 4) (by omega) ?_
        refine idxA1 (by omega) ?_
        refine ldb _ _ (by omega) ?_
        rw [conv_u8w und_u8 und_u32, show ((24 : Int)) = ((24 : Nat) : Int) from rfl, u32_shl (show 24 < 32 by decide)]
        refine nmul (x := 4) (by omega) ?_
        refine nadd (y := 1) (by omega) ?_
        refine idxA1 (by omega) ?_
        refine ldb _ _ (by omega) ?_
        rw [conv_u8w und_u8 und_u32, show ((16 : Int)) = ((16 : Nat) : Int) from rfl, u32_shl (show 16 < 32 by decide), u32_or]
        refine nmul (x := 4) (by omega) ?_
        refine nadd (y := 2) (by omega) ?_
        refine idxA1 (by omega) ?_
        refine ldb _ _ (by omega) ?_
        rw [conv_u8w und_u8 und_u32, show ((8 : Int)) = ((8 : Nat) : Int) from rfl, u32_shl (show 8 < 32 by decide), u32_or]
        refine nmul (x := 4) (by omega) ?_
        refine nadd (y := 3) (by omega) ?_
        refine idxA1 (by omega) ?_
        refine ldb _ _ (by omega) ?_
        rw [conv_u8w und_u8 und_u32, u32_or]
        obtain ⟨wb, wo, wix, _, wst⟩ := s.elAt uv_f 0 0 rfl (k := t) hlt .i64
        refine wix _ ?_
        refine wst _ _ _ fun w5 s => ?_
        rw [hset] at s
        refine fin _ _ f2 f3 f4 f6 f7 f8 ?_
        have e : wAt blk (sched blk t) t = u8w (blk.getD (4 * t) 0) <<< UInt32.ofNat 24 ||| u8w (blk.getD (4 * t + 1) 0) <<< UInt32.ofNat 16 ||| u8w (blk.getD (4 * t + 2) 0) <<< UInt32.ofNat 8 ||| u8w (blk.getD (4 * t + 3) 0) := by
          unfold wAt
          rw [if_pos h16]
          exact word_or _ _ _ _
        rw [e]; exact s
      · rw [f7]
        obtain ⟨a1, a2, aix, ald, _⟩ := s.elAt uv_f 0 0 rfl (k := t - 15) (by omega) .i64
        obtain ⟨c1, c2, cix, cld, _⟩ := s.elAt uv_f 0 0 rfl (k := t - 2) (by omega) .i64
        refine nsub (y := 15) (by omega) (by omega) ?_
        refine aix _ ?_
        refine ald _ ?_
        refine nsub (y := 2) (by omega) (by omega) ?_
        refine cix _ ?_
        refine cld _ ?_
        rw [hg _ (by omega), hg _ (by omega)]
        refine fnW_of (by kernel_rfl) (turn_c _ 7 (by decide) (by decide) ?_)
        refine fnW_of (by kernel_rfl) (turn_c _ 18 (by decide) (by decide) ?_)
        rw [u32_xor, show ((3 : Int)) = ((3 : Nat) : Int) from rfl, u32_shr (show 3 < 32 by decide), u32_xor]
        refine fnW_of (by kernel_rfl) (turn_c _ 17 (by decide) (by decide) ?_)
        refine fnW_of (by kernel_rfl) (turn_c _ 19 (by decide) (by decide) ?_)
        rw [u32_xor, show ((10 : Int)) = ((10 : Nat) : Int) from rfl, u32_shr (show 10 < 32 by decide), u32_xor]
        have s := s.drew
        generalize wr.drew = wr at *
        obtain ⟨a1, a2, aix, ald, _⟩ := s.elAt uv_f 0 0 rfl (k := t - 16) (by omega) .i64
        obtain ⟨c1, c2, cix, cld, _⟩ := s.elAt uv_f 0 0 rfl (k := t - 7) (by omega) .i64
        refine nsub (y := 16) (by omega) (by omega) ?_
        refine aix _ ?_
        refine ald _ ?_
        rw [u32_add]
        refine nsub (y := 7) (by omega) (by omega) ?_
        refine cix _ ?_
        refine cld _ ?_
        rw [u32_add, u32_add, hg _ (by omega), hg _ (by omega)]
        obtain ⟨wb, wo, wix, _, wst⟩ := s.elAt uv_f 0 0 rfl (k := t) hlt .i64
        refine wix _ ?_
        refine wst _ _ _ fun w5 s => ?_
        rw [hset] at s
        refine fin _ _ f2 f3 f4 f6 f7 f8 ?_
        have e : wAt blk (sched blk t) t = wNext (sched blk t) t := by unfold wAt; rw [if_neg h16]
        rw [e]; exact s
    · obtain rfl : t = 64 := by omega
      have e : sched blk 64 ++ List.replicate (64 - 64) 0 = sched blk 64 := by simp
      rw [e] at s
      exact hX _ _ _ (by simp) (h2 _ _ _ (blk_x (rounds _ _ f2 f3 f6 f7 s)))

theorem rpad_c {w : World} {K : VPost} (n : Int) (hno : ¬ (0 ≤ n ∧ n ≤ 1125899906842624) → K (.slice none 0 0) w)
    (hK : 0 ≤ n ∧ n ≤ 1125899906842624 → ∀ v w', OwnAt w' v 5 1 (bc (padM n.toNat)) (padM n.toNat).length → Ext [] w w' → (∀ b ∈ slB v, w.heap.size ≤ b) → K v w') :
    Calls Tryd.prog 131 #[.int .i64 n] w (retK K) := by
  refine c131_calls _ w K ?_
  unfold c131
  rw [ilss]
  by_cases h0 : n < 0
  · rw [decide_eq_true h0]
    refine gs_tf ?_
    refine gs_tf ?_
    rw [pickW_t, condW_t]
    exact hno (by omega)
  · rw [decide_eq_false h0]
    refine gs_f ?_
    refine gs_f ?_
    rw [igtr, pickW_f]
    refine cond_d (fun h1 => hno (by omega)) (fun h1 => ?_)
    replace hK := hK (by omega)
    obtain ⟨n, rfl⟩ : ∃ k : Nat, n = k := ⟨n.toNat, by omega⟩
    simp only [Int.toNat_natCast] at hK
    have hzl : zeros n < 64 := Nat.mod_lt _ (by decide)
    have hz : zeros n = (119 - n % 64) % 64 := rfl
    refine (Sep.nil w).litB [128] rfl (by decide) fun v0 w1 s _ _ => ?_
    refine bindX_i fun J0 h0 => bindX_i fun J1 h1 => bindX_i fun J2 h2 => ?_
    have tail : ∀ (fr : Fr) (wr : World) (v : Value), fr 0 = .int .i64 n → fr 3 = v → Sep [] w wr [rO v 5 1 (bc (128 :: List.replicate (zeros n) 0)) (1 + zeros n)] [] → J1 .normal fr wr := by
      intro fr wr v f0 f3 s
      refine seq_n h1 ?_
      rw [f0]
      refine nmul (x := n) (y := 8) (by omega) ?_
      refine bindX_i fun J3 h3 => bindX_i fun J4 h4 => ?_
      refine loop_i (fun m fr wr => ∃ (j : Nat) (v : Value), m = 8 - j ∧ j ≤ 8 ∧ fr 3 = v ∧ fr 4 = .int .i64 (n * 8 : Nat) ∧ fr 5 = .int .i64 (7 - (j : Int)) ∧
        Sep [] w wr [rO v 5 1 (bc (128 :: List.replicate (zeros n) 0 ++ (be8 (n * 8)).take j)) (1 + zeros n + j)] []) 8 ?_ ?_
      · exact ⟨0, v, rfl, by omega, f3, rfl, rfl, by rw [List.take_zero, List.append_nil]; exact s⟩
      · rintro m fr wr J ⟨j, v, rfl, hj, g3, g4, g5, s⟩ hJ hX
        rw [g5, igeq]
        refine cond_d (fun hge => ?_) (fun hge => ?_)
        · have hj8 : j < 8 := by omega
          rw [g3, g4]
          have e7 : (7 - (j : Int)) = ((7 - j : Nat) : Int) := by omega
          rw [e7]
          refine nmul (x := 8) (by omega) ?_
          rw [convN_i und_int und_uint, wrap_u64n, Nat.mod_eq_of_lt (by omega)]
          refine nshr (by show 8 * (7 - j) ≤ 64; omega) ?_
          rw [conv_byte und_int und_u8, show 8 * (7 - j) = 56 - 8 * j by omega]
          refine s.addByte (K := _) 0 rfl _ (by omega) fun _ v' w3 s => ?_
          have s : Sep [] w w3 [rO v' 5 1 (bc (128 :: List.replicate (zeros n) 0 ++ (be8 (n * 8)).take j ++ [UInt8.ofNat ((n * 8) >>> (56 - 8 * j))])) (1 + zeros n + j + 1)] [] := s
          rw [List.append_assoc, ← be8_step _ _ hj8] at s
          refine isub (by omega) ?_
          exact hJ (8 - (j + 1)) _ _ (by omega) ⟨j + 1, v', rfl, by omega, rfl, g4, by show Value.int .i64 _ = _; congr 1; omega, s⟩
        · obtain rfl : j = 8 := by omega
          have fin : ∀ fr : Fr, fr 3 = v → J3 .normal fr wr := by
            intro fr g3
            refine seq_n h3 ?_
            rw [g3]
            have e : 128 :: List.replicate (zeros n) 0 ++ (be8 (n * 8)).take 8 = padM n := rfl
            have hl : 1 + zeros n + 8 = (padM n).length := by rw [padM_length]; omega
            rw [e, hl] at s
            exact hK v wr (s.at 0 rfl) s.ext (s.fresh 0 rfl)
          exact hX _ _ _ (by simp) (h4 _ _ _ (blk_x (fin _ g3)))
    refine loop_i (fun m fr wr => ∃ (j : Nat) (v : Value), m = zeros n - j ∧ j ≤ zeros n ∧ fr 0 = .int .i64 n ∧ fr 3 = v ∧ Sep [] w wr [rO v 5 1 (bc (128 :: List.replicate j 0)) (1 + j)] []) (zeros n) ?_ ?_
    · exact ⟨0, v0, rfl, by omega, rfl, rfl, s⟩
    · rintro m fr wr J ⟨j, v, rfl, hj, f0, f3, s⟩ hJ hX
      obtain ⟨qa, qc, hqa⟩ := (OwnAt.rd (s.at 0 rfl)).len
      have hlen : ∀ (w : World) (K : VPost), lenW Tryd.prog (some true) #[22] 3 #[v] w K = K (.int .i64 ((1 + j : Nat) : Int)) w := fun w K => by rw [hqa, len_s]
      rw [f0, f3, hlen]
      refine nadd (by omega) ?_
      refine nrem (y := 64) (by decide) ?_
      refine nneq (y := 56) (cond_d (fun hne => ?_) (fun hne => ?_))
      · have hlt : j < zeros n := by omega
        refine s.addByte (K := _) 0 rfl 0 (by omega) fun _ v' w3 s => ?_
        have e : 128 :: List.replicate j 0 ++ [0] = 128 :: List.replicate (j + 1) (0 : UInt8) := by rw [List.cons_append, ← List.replicate_succ']
        have s : Sep [] w w3 [rO v' 5 1 (bc (128 :: List.replicate j 0 ++ [0])) (1 + j + 1)] [] := s
        rw [e] at s
        exact hJ (zeros n - (j + 1)) _ _ (by omega) ⟨j + 1, v', rfl, by omega, f0, rfl, s⟩
      · have hj : j = zeros n := by omega
        subst hj
        exact hX _ _ _ (by simp) (h2 _ _ _ (blk_x (tail _ _ v f0 f3 s)))

set_option maxHeartbeats 2000000 in
theorem rsum_c {w : World} {K : VPost} {x : Value} {b : Bytes} (hx : RdSl w x 1 (bc b) b.length) (hn : b.length ≤ 2 ^ 36) (hK : ∀ w', Ext [] w w' → K (.agg (bc (digest b)).toArray) w') :
    Calls Tryd.prog 73 #[x] w (retK K) := by
  refine c73_calls _ w K ?_
  unfold c73
  refine (Sep.zero1 (U := rR x 1 (bc b) b.length) hx).alloc zero_dig cells_dig fun b2 w1 s _ => ?_
  refine s.litB [] rfl (by decide) fun v0 w2 s _ _ => ?_
  obtain ⟨ui, hui, huz, husz, huby⟩ := tyI_spec ty_u8
  refine s.appendO (v := v0) (n := 0) (m := b.length) (ys := bc b) (xs := bc []) 0 (by rw [husz]; rfl) und_u8s und_u8s hui huz (by rw [husz]; rfl) (by rw [huby]; decide) (by rw [husz]; exact s.rat 0 rfl) (bc_one _) (by rw [huby]; omega) fun v1 w3 s => ?_
  rw [husz, ← bc_append, List.nil_append, Nat.zero_add] at s
  have s : Sep [] w w3 [rO v1 5 1 (bc b) b.length, rB b2 (bc (List.replicate 32 0)) 77] [rR x 1 (bc b) b.length] := s
  obtain ⟨xa, xc, hxa⟩ := hx.len
  rw [hxa, len_s, ← hxa]
  refine fnW_of (by kernel_rfl) (rpad_c _ (fun hh => absurd ⟨by omega, by omega⟩ hh) fun _ vp w4 hvp e hf => ?_)
  rw [Int.toNat_natCast] at hvp
  have s := s.add (T := rO vp 5 1 (bc (padM b.length)) (padM b.length).length) hvp e hf
  have hpl : (padM b.length).length ≤ 73 := by rw [padM_length]; have : zeros b.length < 64 := Nat.mod_lt _ (by decide); omega
  have hpm := pad_mod b.length
  refine s.appendO (v := v1) (n := b.length) (m := (padM b.length).length) (ys := bc (padM b.length)) (xs := bc b) 1 (by rw [husz]; rfl) und_u8s und_u8s hui huz (by rw [husz]; rfl) (by rw [huby]; decide) (by rw [husz]; exact OwnAt.rd (s.at 0 rfl)) (bc_one _) (by rw [huby]; omega) fun v2 w5 s => ?_
  rw [husz, ← bc_append, ← List.length_append] at s
  have s := s.drop 0
  have s : Sep [] w w5 [rO v2 5 1 (bc (b ++ padM b.length)) (b ++ padM b.length).length, rB b2 (bc (List.replicate 32 0)) 77] [rR x 1 (bc b) b.length] := s
  have hdg : digest b = outM (absorb ((b ++ padM b.length).length / 64) shaH (b ++ padM b.length)) := rfl
  have hall : (b ++ padM b.length).length % 64 = 0 ∧ (b ++ padM b.length).length ≤ 2 ^ 37 := by rw [List.length_append]; omega
  generalize b ++ padM b.length = all at *
  refine fnW_of (by kernel_rfl) (rconstants_c fun vk w6 hvk e hf => ?_)
  have s := s.add (T := rO vk 168 1 (uc shaK) 64) hvk e hf
  refine fnW_of (by kernel_rfl) (rfirst_c fun w7 e => ?_)
  have s := s.ext0 e
  refine s.alloc zero_w8 cells_w8 fun b5 w8 s _ => ?_
  refine s.storeAll 0 rfl rfl rfl (uc_one _) fun w9 s _ => ?_
  have s : Sep [] w w9 [rB b5 (uc shaH) 169, rO vk 168 1 (uc shaK) 64, rO v2 5 1 (bc all) all.length, rB b2 (bc (List.replicate 32 0)) 77] [rR x 1 (bc b) b.length] := s
  refine bindX_i fun J0 h0 => bindX_i fun J1 h1 => bindX_i fun J2 h2 => ?_
  -- the digest's bytes
  have tail : ∀ (fr : Fr) (wr : World), fr 2 = .pointer (some ⟨b2, 0, none⟩) → fr 5 = .pointer (some ⟨b5, 0, none⟩) →
      Sep [] w wr [rB b5 (uc (absorb (all.length / 64) shaH all)) 169, rO vk 168 1 (uc shaK) 64, rO v2 5 1 (bc all) all.length, rB b2 (bc (List.replicate 32 0)) 77] [rR x 1 (bc b) b.length] → J1 .normal fr wr := by
    intro fr wr f2 f5 s
    refine seq_n h1 ?_
    have h8 : (absorb (all.length / 64) shaH all).length = 8 := absorb_length _ _ _ rfl
    generalize absorb (all.length / 64) shaH all = st at *
    refine build0_dig ?_
    refine s.alloc zero_dig cells_dig fun b9 w10 s _ => ?_
    refine s.storeAll 0 rfl rfl rfl (bc_one _) fun w11 s _ => ?_
    have s : Sep [] w w11 [rB b9 (bc (List.replicate 32 0)) 77, rB b5 (uc st) 169, rO vk 168 1 (uc shaK) 64, rO v2 5 1 (bc all) all.length, rB b2 (bc (List.replicate 32 0)) 77] [rR x 1 (bc b) b.length] := s
    refine bindX_i fun J3 h3 => bindX_i fun J4 h4 => ?_
    refine loop_i (fun m fr wr => ∃ i : Nat, m = 32 - i ∧ i ≤ 32 ∧ fr 2 = .pointer (some ⟨b2, 0, none⟩) ∧ fr 5 = .pointer (some ⟨b5, 0, none⟩) ∧ fr 9 = .pointer (some ⟨b9, 0, none⟩) ∧ fr 10 = .int .i64 i ∧
      Sep [] w wr [rB b9 (bc ((outM st).take i ++ List.replicate (32 - i) 0)) 77, rB b5 (uc st) 169, rO vk 168 1 (uc shaK) 64, rO v2 5 1 (bc all) all.length, rB b2 (bc (List.replicate 32 0)) 77] [rR x 1 (bc b) b.length]) 32 ?_ ?_
    · exact ⟨0, rfl, by omega, f2, f5, rfl, rfl, s⟩
    · rintro m fr wr J ⟨i, rfl, hi, g2, g5, g9, g10, s⟩ hJ hX
      rw [g10]
      refine nlss (y := 32) (cond_d (fun hlt => ?_) (fun hlt => ?_))
      · rw [g5, g9]
        refine nquo (y := 4) (by decide) (by omega) ?_
        refine idxA1 (i := i / 4) (by omega) ?_
        refine s.ldw 1 rfl (by omega) ?_
        refine nrem (y := 4) (by decide) ?_
        refine nmul (x := 8) (by omega) ?_
        refine nsub (x := 24) (by omega) (by decide) ?_
        rw [convN_i und_int und_uint, wrap_u64n, Nat.mod_eq_of_lt (by omega)]
        unfold uv
        refine nshr (by show 24 - 8 * (i % 4) ≤ 32; omega) ?_
        rw [conv_byte und_u32 und_u8]
        refine idxA1 hlt ?_
        refine s.store1 0 rfl rfl (by rw [bc_length, List.length_append, List.length_take, List.length_replicate, outM_length]; omega) rfl fun w6 s _ => ?_
        rw [bc_set, outM_step _ _ hlt] at s
        refine nadd (y := 1) (by omega) ?_
        exact hJ (32 - (i + 1)) _ _ (by omega) ⟨i + 1, rfl, by omega, g2, g5, g9, rfl, s⟩
      · obtain rfl : i = 32 := by omega
        have e : (outM st).take 32 ++ List.replicate (32 - 32) 0 = digest b := by rw [hdg]; simp [outM_length, List.take_of_length_le]
        rw [e] at s
        have fin : ∀ fr : Fr, fr 2 = .pointer (some ⟨b2, 0, none⟩) → fr 9 = .pointer (some ⟨b9, 0, none⟩) → J3 .normal fr wr := by
          intro fr g2 g9
          refine seq_n h3 ?_
          rw [g2, g9]
          have hl : (bc (digest b)).length = 32 := by rw [bc_length, digest_length]
          refine s.loadAll 0 rfl hl ?_
          refine s.storeAll 4 rfl hl rfl (bc_one _) fun w7 s _ => ?_
          refine s.loadAll 4 rfl hl ?_
          exact hK _ s.ext
        exact hX _ _ _ (by simp) (h4 _ _ _ (blk_x (fin _ g2 g9)))
  refine loop_i (fun m fr wr => ∃ k : Nat, m = all.length / 64 - k ∧ k ≤ all.length / 64 ∧ fr 2 = .pointer (some ⟨b2, 0, none⟩) ∧ fr 3 = v2 ∧ fr 4 = vk ∧ fr 5 = .pointer (some ⟨b5, 0, none⟩) ∧ fr 6 = .int .i64 (64 * k : Nat) ∧
    Sep [] w wr [rB b5 (uc (absorb k shaH all)) 169, rO vk 168 1 (uc shaK) 64, rO v2 5 1 (bc all) all.length, rB b2 (bc (List.replicate 32 0)) 77] [rR x 1 (bc b) b.length]) (all.length / 64) ?_ ?_
  · exact ⟨0, rfl, by omega, rfl, rfl, rfl, rfl, rfl, s⟩
  · rintro m fr wr J ⟨k, rfl, hk, f2, f3, f4, f5, f6, s⟩ hJ hX
    obtain ⟨qa, qc, hqa⟩ := (OwnAt.rd (s.at 2 rfl)).len
    have hlen : ∀ (w : World) (K : VPost), lenW Tryd.prog (some true) #[22] 3 #[v2] w K = K (.int .i64 all.length) w := fun w K => by rw [hqa, len_s]
    rw [f3, f6]
    refine nadd (y := 64) (by omega) ?_
    rw [hlen]
    refine nleq (cond_d (fun hle => ?_) (fun hle => ?_))
    · refine bindX_i fun J3 h3 => bindX_i fun J4 h4 => ?_
      have ha8 : (absorb k shaH all).length = 8 := absorb_length _ _ _ rfl
      refine build0_b64 ?_
      refine s.alloc zero_b64 cells_b64 fun b7 w10 s _ => ?_
      refine s.storeAll 0 rfl (by rw [bc_length]; simp) (by rw [bc_length]; simp) (bc_one _) fun w11 s _ => ?_
      have s : Sep [] w w11 [rB b7 (bc (List.replicate 64 0)) 36, rB b5 (uc (absorb k shaH all)) 169, rO vk 168 1 (uc shaK) 64, rO v2 5 1 (bc all) all.length, rB b2 (bc (List.replicate 32 0)) 77] [rR x 1 (bc b) b.length] := s
      have hbl : ((all.drop (64 * k)).take 64).length = 64 := by rw [List.length_take, List.length_drop]; omega
      refine bindX_i fun J5 h5 => bindX_i fun J6 h6 => ?_
      refine loop_i (fun m fr wr => ∃ i : Nat, m = 64 - i ∧ i ≤ 64 ∧ fr 2 = .pointer (some ⟨b2, 0, none⟩) ∧ fr 3 = v2 ∧ fr 4 = vk ∧ fr 5 = .pointer (some ⟨b5, 0, none⟩) ∧ fr 6 = .int .i64 (64 * k : Nat) ∧ fr 7 = .pointer (some ⟨b7, 0, none⟩) ∧ fr 8 = .int .i64 i ∧
        Sep [] w wr [rB b7 (bc (((all.drop (64 * k)).take 64).take i ++ List.replicate (64 - i) 0)) 36, rB b5 (uc (absorb k shaH all)) 169, rO vk 168 1 (uc shaK) 64, rO v2 5 1 (bc all) all.length, rB b2 (bc (List.replicate 32 0)) 77] [rR x 1 (bc b) b.length]) 64 ?_ ?_
      · exact ⟨0, rfl, by omega, f2, f3, f4, f5, f6, rfl, rfl, s⟩
      · rintro m fr wr I ⟨i, rfl, hi, g2, g3, g4, g5, g6, g7, g8, s⟩ hI hY
        rw [g8]
        refine nlss (y := 64) (cond_d (fun hlt => ?_) (fun hlt => ?_))
        · rw [g3, g6, g7]
          refine nadd (by omega) ?_
          obtain ⟨b1, o1, i1, l1, _⟩ := s.byteAt 3 rfl (k := 64 * k + i) (by omega) .i64
          refine i1 _ ?_
          refine l1 _ ?_
          refine idxA1 hlt ?_
          have hil : (((all.drop (64 * k)).take 64).take i).length = i := by rw [List.length_take]; omega
          refine s.store1 0 rfl rfl (by rw [bc_length, List.length_append, hil, List.length_replicate]; omega) rfl fun w12 s _ => ?_
          have e : (((all.drop (64 * k)).take 64).take i ++ List.replicate (64 - i) 0).set i (all.getD (64 * k + i) 0) = ((all.drop (64 * k)).take 64).take (i + 1) ++ List.replicate (64 - (i + 1)) 0 := by
            have hi64 : i < ((all.drop (64 * k)).take 64).length := by rw [hbl]; exact hlt
            rw [show 64 - i = (64 - (i + 1)) + 1 by omega, List.replicate_succ, set_mid _ _ _ _ i hil, List.take_succ_eq_append_getElem hi64, List.append_assoc]
            congr 2
            rw [List.getElem_take, List.getElem_drop, List.getD_eq_getElem?_getD, List.getElem?_eq_getElem (by omega)]
            rfl
          rw [bc_set, e] at s
          refine nadd (y := 1) (by omega) ?_
          exact hI (64 - (i + 1)) _ _ (by omega) ⟨i + 1, rfl, by omega, g2, g3, g4, g5, g6, g7, rfl, s⟩
        · obtain rfl : i = 64 := by omega
          have e : ((all.drop (64 * k)).take 64).take 64 ++ List.replicate (64 - 64) 0 = (all.drop (64 * k)).take 64 := by simp [List.take_of_length_le, hbl]
          rw [e] at s
          have rest : ∀ fr : Fr, fr 2 = .pointer (some ⟨b2, 0, none⟩) → fr 3 = v2 → fr 4 = vk → fr 5 = .pointer (some ⟨b5, 0, none⟩) → fr 6 = .int .i64 (64 * k : Nat) → fr 7 = .pointer (some ⟨b7, 0, none⟩) → J5 .normal fr wr := by
            intro fr g2 g3 g4 g5 g6 g7
            refine seq_n h5 ?_
            rw [g4, g5, g7]
            refine s.loadAll 1 rfl (by rw [uc_length, ha8]) ?_
            refine s.loadAll 0 rfl (by rw [bc_length, hbl]) ?_
            refine fnW_of (by kernel_rfl) (taken_c ha8 hbl (OwnAt.rd (s.at 2 rfl)) fun w12 e => ?_)
            have s := s.ext0 e
            rw [← absorb_snoc k _ _ (by omega)]
            have hn8 : (absorb (k + 1) shaH all).length = 8 := absorb_length _ _ _ rfl
            refine s.storeAll 1 rfl (by rw [uc_length, hn8]) (by rw [uc_length, ha8]) (uc_one _) fun w13 s _ => ?_
            have s := s.drop 0
            have s : Sep [] w w13 [rB b5 (uc (absorb (k + 1) shaH all)) 169, rO vk 168 1 (uc shaK) 64, rO v2 5 1 (bc all) all.length, rB b2 (bc (List.replicate 32 0)) 77] [rR x 1 (bc b) b.length] := s
            have fin : ∀ fr : Fr, fr 2 = .pointer (some ⟨b2, 0, none⟩) → fr 3 = v2 → fr 4 = vk → fr 5 = .pointer (some ⟨b5, 0, none⟩) → fr 6 = .int .i64 (64 * k : Nat) → J3 .normal fr w13 := by
              intro fr g2 g3 g4 g5 g6
              refine seq_n h3 ?_
              rw [g6]
              refine nadd (y := 64) (by omega) ?_
              exact hJ (all.length / 64 - (k + 1)) _ _ (by omega) ⟨k + 1, rfl, by omega, g2, g3, g4, g5, rfl, s⟩
            exact fin _ g2 g3 g4 g5 g6
          exact hY _ _ _ (by simp) (h6 _ _ _ (blk_x (rest _ g2 g3 g4 g5 g6 g7)))
    · have hkk : k = all.length / 64 := by omega
      subst hkk
      exact hX _ _ _ (by simp) (h2 _ _ _ (blk_x (tail _ _ f2 f5 s)))
end Go.Proofs.YtedebapgmfnflaaDoor
