/- The document's constants, by roots: what is below, cubes, primes, the constants: the walks. -/
import Derived.Test.YtedebapgmfnflaaR1
namespace Go.Proofs.Ytedebapgmfnflaa
open Go
set_option maxRecDepth 100000

theorem uqs_flat (l : List UInt64) : flatV (uqs l) = uqs l := by
  induction l with
  | nil => rfl
  | cons x r ih =>
    have e : flatV (uqs (x :: r)) = (uq x).cells.toList ++ flatV (uqs r) := by simp [flatV, uqs]
    rw [e, ih]; rfl
/-- Literal words. -/
theorem Sep.litQ {S : List Nat} {w0 w : World} {L R : List Res} {K : VPost} (s : Sep S w0 w L R) (l : List UInt64) {parts : List (Nat × Value)} (hp : parts = enumV 0 (uqs l)) (hl : l.length ≤ 1000)
    (h : ∀ v' w', Sep S w0 w' (rO v' 136 1 (uqs l) l.length :: L) R → slB v' = [w.heap.size] → Ext [] w w' → K v' w') : insW Try.prog (Instr.buildSlice 133 l.length parts.toArray) w K := by
  obtain ⟨ui, hui, huz, husz, huby⟩ := tyI_spec ty_u64
  have hlen : (uqs l).length = l.length := uqs_length l
  have hc : ∀ v ∈ uqs l, v.cells.size = ui.size := by
    intro v hv
    obtain ⟨b, _, rfl⟩ := List.mem_map.1 hv
    rw [husz]; rfl
  have := s.lit (K := K) (vs := uqs l) und_u64s hui huz hp hc (by rw [hlen, husz]; omega) (fun t w' s' ht e => by
    rw [hlen, husz, uqs_flat] at s'
    exact h t w' s' ht e)
  rw [hlen] at this
  exact this
/-- A word more. -/
theorem Sep.addQ {S : List Nat} {w0 w : World} {L R : List Res} {K : Value → VPost} {v : Value} {l : List UInt64} {n : Nat} (s : Sep S w0 w L R) (i : Nat) (hL : L[i]? = some (rO v 136 1 (uqs l) n)) (b : UInt64) (hn : n ≤ 2 ^ 30)
    (h : ∀ t v' w', Sep S w0 w' (L.set i (rO v' 136 1 (uqs (l ++ [b])) (n + 1))) R → K t v' w') :
    insW Try.prog (Instr.buildSlice 133 1 #[(0, uq b)]) w fun t w' => insW Try.prog (Builtin.append_ #[133, 133] 133 #[v, t]) w' (K t) := by
  obtain ⟨ui, hui, huz, husz, huby⟩ := tyI_spec ty_u64
  refine s.litQ [b] rfl (by simp) fun t w1 s1 ht _ => ?_
  refine s1.appendO (v := v) (n := n) (m := 1) (ys := uqs [b]) (xs := uqs l) (i + 1) (by rw [husz]; simpa using hL) und_u64s und_u64s hui huz (by rw [husz]; rfl) (by rw [huby]; decide) (by rw [husz]; exact OwnAt.rd (s1.at 0 rfl)) (uqs_one _) (by rw [huby]; omega) fun v' w2 s2 => ?_
  rw [husz, ← uqs_append] at s2
  exact h t v' w2 (s2.drop 0)

def dig3 (y : UInt64) : List UInt64 := [y &&& 0xffff, y >>> 16 &&& 0xffff, y >>> 32]
theorem belowF_eq (y p : UInt64) : belowF y p = cmpF (times (times (dig3 y) (dig3 y)) (dig3 y) ++ List.replicate 7 0) ((List.replicate 16 0).set 6 p) 16 := rfl

set_option maxHeartbeats 1000000 in
theorem below_c {w : World} {K : VPost} (y p : UInt64) (hK : ∀ w', Ext [] w w' → K (.bool (belowF y p)) w') : Calls Try.prog 111 #[uq y, uq p] w (retK K) := by
  refine c111_calls _ _ w K ?_
  unfold c111
  rw [show (Value.int .u64 65535) = uq 0xffff from rfl, u64_and, show ((16 : Int)) = ((16 : Nat) : Int) from rfl, u64_shr (show 16 < 64 by decide), u64_and, show ((32 : Int)) = ((32 : Nat) : Int) from rfl, u64_shr (show 32 < 64 by decide)]
  refine (Sep.nil w).litQ (dig3 y) rfl (by simp [dig3]) fun vd w1 s _ _ => ?_
  have hd3 : (dig3 y).length = 3 := rfl
  refine fnW_of (by kernel_rfl) (times_c (a := dig3 y) (b := dig3 y) (OwnAt.rd (s.at 0 rfl)) (OwnAt.rd (s.at 0 rfl)) (by rw [hd3]; decide) (by rw [hd3]; decide) fun v2 w2 hv2 e hf2 => ?_)
  have ht2 := times_length (dig3 y) (dig3 y)
  have s := s.add (T := rO v2 136 1 (uqs (times (dig3 y) (dig3 y))) (times (dig3 y) (dig3 y)).length) (by rw [ht2]; exact hv2) e hf2
  refine fnW_of (by kernel_rfl) (times_c (a := times (dig3 y) (dig3 y)) (b := dig3 y) (OwnAt.rd (s.at 0 rfl)) (OwnAt.rd (s.at 1 rfl)) (by rw [ht2, hd3]; decide) (by rw [hd3]; decide) fun v3 w3 hv3 e hf3 => ?_)
  have ht3 := times_length (times (dig3 y) (dig3 y)) (dig3 y)
  rw [ht2, hd3] at ht3
  have s := s.add (T := rO v3 136 1 (uqs (times (times (dig3 y) (dig3 y)) (dig3 y))) 9) (by rw [ht2, hd3] at hv3; exact hv3) e hf3
  generalize hS : times (times (dig3 y) (dig3 y)) (dig3 y) = S9 at *
  obtain ⟨pa, pc, hpa⟩ := (OwnAt.rd (s.at 0 rfl)).len
  rw [hpa, len_s, ← hpa]
  refine nadd (x := 9) (y := 7) (by decide) ?_
  obtain ⟨ui, hui, huz, husz, huby⟩ := tyI_spec ty_u64
  refine makeSlice_i (z0 := .int .u64 0) (n := 16) (c := 16) und_u64s hui huz (by rw [husz]; rfl) (Nat.le_refl _) (by rw [huby]; decide) (by decide) fun bb w4 hbb e hk _ => ?_
  rw [husz] at hk
  have hz : List.replicate (16 * 1) (Value.int .u64 0) = uqs (List.replicate 16 0) := rfl
  rw [hz] at hk
  have s := s.add (T := rO (.slice (some ⟨bb, 0, none⟩) 16 16) 136 1 (uqs (List.replicate 16 0)) 16) (.inr ⟨bb, 0, 16, _, rfl, hk, by rw [uqs_length]; rfl, by rw [List.drop_zero, List.take_of_length_le (by rw [uqs_length]; decide)], by rw [uqs_length]; decide, Nat.le_refl _⟩) e (by intro x hx; simp [rO, slB] at hx; omega)
  generalize (Value.slice (some ⟨bb, 0, none⟩) 16 16) = vw at *
  obtain ⟨b1, o1, i1, _, s1⟩ := s.elAt uq_f 0 0 rfl (k := 6) (by decide) .i64
  refine i1 _ ?_
  refine s1 _ _ _ fun w5 s => ?_
  generalize hW : (List.replicate 16 (0 : UInt64)).set 6 p = W16 at *
  have hWl : W16.length = 16 := by rw [← hW]; simp
  have s := ((s.drop 2).drop 2)
  have s : Sep [] w w5 [rO vw 136 1 (uqs W16) 16, rO v3 136 1 (uqs S9) 9] [] := s
  refine bindX_i fun J0 h0 => bindX_i fun J1 h1 => bindX_i fun J2 h2 => ?_
  have tail : ∀ (fr : Fr) (wr : World) (v6 : Value) (S16 : List UInt64), S16.length = 16 → S16 = S9 ++ List.replicate 7 0 → fr 6 = v6 → fr 7 = vw → Sep [] w wr [rO vw 136 1 (uqs W16) 16, rO v6 136 1 (uqs S16) 16] [] → J1 .normal fr wr := by
    intro fr wr v6 S16 hl16 hS16 f6 f7 s
    refine seq_n h1 ?_
    refine bindX_i fun J3 h3 => ?_
    obtain ⟨qa, qc, hqa⟩ := (OwnAt.rd (s.at 0 rfl)).len
    have hlenW : ∀ (w : World) (K : VPost), lenW Try.prog (some true) #[133] 3 #[vw] w K = K (.int .i64 (16 : Nat)) w := fun w K => by rw [hqa, len_s]
    rw [f7, hlenW]
    refine nsub (x := 16) (y := 1) (by decide) (by decide) ?_
    refine bindX_i fun J4 h4 => ?_
    have hbel : belowF y p = cmpF S16 W16 16 := by rw [belowF_eq, hS, hW, hS16]
    refine loop_i (fun m fr wr => m ≤ 16 ∧ cmpF S16 W16 m = belowF y p ∧ fr 6 = v6 ∧ fr 7 = vw ∧ fr 8 = .int .i64 ((m : Int) - 1) ∧
      Sep [] w wr [rO vw 136 1 (uqs W16) 16, rO v6 136 1 (uqs S16) 16] []) 16 ?_ ?_
    · exact ⟨by omega, hbel.symm, f6, f7, rfl, s⟩
    · rintro m fr wr J ⟨hm, hcm, g6, g7, g8, s⟩ hJ hX
      rw [g8, igeq]
      refine cond_d (fun hge => ?_) (fun hge => ?_)
      · obtain ⟨m, rfl⟩ : ∃ k, m = k + 1 := ⟨m - 1, by omega⟩
        have e1 : (((m + 1 : Nat) : Int) - 1) = (m : Int) := by omega
        rw [e1, g6, g7]
        have hcm : (if getU S16 m = getU W16 m then cmpF S16 W16 m else decide (getU S16 m < getU W16 m)) = belowF y p := hcm
        have s := s.drew
        generalize wr.drew = wr at *
        obtain ⟨b2, o2, i2, l2, _⟩ := s.elAt uq_f 0 1 rfl (k := m) (by omega) .i64
        obtain ⟨b3, o3, i3, l3, _⟩ := s.elAt uq_f 0 0 rfl (k := m) (by omega) .i64
        refine i2 _ ?_
        refine l2 _ ?_
        refine i3 _ ?_
        refine l3 _ ?_
        rw [u64_neq]
        have hgs : S16.getD m 0 = getU S16 m := rfl
        have hgw : W16.getD m 0 = getU W16 m := rfl
        rw [hgs, hgw]
        refine cond_b (fun hne => ?_) (fun heq => ?_)
        · have hne : ¬ getU S16 m = getU W16 m := by simpa using hne
          rw [if_neg hne] at hcm
          have s := s.drew
          generalize wr.drew = wr at *
          obtain ⟨b2, o2, i2, l2, _⟩ := s.elAt uq_f 0 1 rfl (k := m) (by omega) .i64
          obtain ⟨b3, o3, i3, l3, _⟩ := s.elAt uq_f 0 0 rfl (k := m) (by omega) .i64
          refine i2 _ ?_
          refine l2 _ ?_
          refine i3 _ ?_
          refine l3 _ ?_
          rw [u64_lss, hgs, hgw, hcm]
          refine hX _ _ _ (by simp) (h4 _ _ _ (h3 _ _ _ (h0 _ _ _ ?_)))
          exact hK _ s.ext
        · have heq : getU S16 m = getU W16 m := by simpa using heq
          rw [if_pos heq] at hcm
          refine isub (by omega) ?_
          exact hJ m _ _ (by omega) ⟨by omega, hcm, g6, g7, rfl, s⟩
      · obtain rfl : m = 0 := by omega
        have hcm : true = belowF y p := hcm
        have fin : ∀ fr : Fr, J3 .normal fr wr := by
          intro fr
          refine seq_n h3 ?_
          rw [hcm]
          exact hK _ s.ext
        exact hX _ _ _ (by simp) (h4 _ _ _ (blk_x (fin _)))
  refine loop_i (fun m fr wr => ∃ (i : Nat) (v6 : Value), m = 7 - i ∧ i ≤ 7 ∧ fr 6 = v6 ∧ fr 7 = vw ∧ Sep [] w wr [rO vw 136 1 (uqs W16) 16, rO v6 136 1 (uqs (S9 ++ List.replicate i 0)) (9 + i)] []) 7 ?_ ?_
  · exact ⟨0, v3, rfl, by omega, rfl, rfl, by rw [List.replicate_zero, List.append_nil]; exact s⟩
  · rintro m fr wr J ⟨i, v6, rfl, hi, f6, f7, s⟩ hJ hX
    obtain ⟨qa, qc, hqa⟩ := (OwnAt.rd (s.at 0 rfl)).len
    obtain ⟨ra, rc, hra⟩ := (OwnAt.rd (s.at 1 rfl)).len
    have hlenW : ∀ (w : World) (K : VPost), lenW Try.prog (some true) #[133] 3 #[vw] w K = K (.int .i64 (16 : Nat)) w := fun w K => by rw [hqa, len_s]
    have hlenS : ∀ (w : World) (K : VPost), lenW Try.prog (some true) #[133] 3 #[v6] w K = K (.int .i64 ((9 + i : Nat) : Int)) w := fun w K => by rw [hra, len_s]
    rw [f6, f7, hlenS, hlenW]
    refine nlss (cond_d (fun hlt => ?_) (fun hlt => ?_))
    · refine s.addQ (K := _) 1 rfl 0 (by omega) fun _ v' w6 s => ?_
      have e : S9 ++ List.replicate i 0 ++ [0] = S9 ++ List.replicate (i + 1) 0 := by rw [List.append_assoc, ← List.replicate_succ']
      rw [e] at s
      exact hJ (7 - (i + 1)) _ _ (by omega) ⟨i + 1, v', rfl, by omega, rfl, f7, s⟩
    · obtain rfl : i = 7 := by omega
      exact hX _ _ _ (by simp) (h2 _ _ _ (blk_x (tail _ _ v6 _ (by rw [List.length_append, ht3]; rfl) rfl f6 f7 s)))

theorem cube_c {w : World} {K : VPost} (p : UInt64) (hK : ∀ w', Ext [] w w' → K (uv (cube32 p)) w') : Calls Try.prog 99 #[uq p] w (retK K) := by
  refine c99_calls _ w K ?_
  unfold c99
  refine bindX_i fun J0 h0 => bindX_i fun J1 h1 => bindX_i fun J2 h2 => ?_
  refine loop_i (fun m fr wr => ∃ (x : UInt64), m ≤ 35 ∧ cubeF p m x = cubeF p 35 0 ∧ fr 0 = uq p ∧ fr 3 = uq x ∧ fr 4 = .int .i64 ((m : Int) - 1) ∧ Ext [] w wr) 35 ?_ ?_
  · exact ⟨0, by omega, rfl, rfl, rfl, rfl, Ext.refl _ _⟩
  · rintro m fr wr J ⟨x, hm, hsq, f0, f3, f4, ex⟩ hJ hX
    rw [f4, igeq]
    refine cond_d (fun hge => ?_) (fun hge => ?_)
    · obtain ⟨m, rfl⟩ : ∃ k, m = k + 1 := ⟨m - 1, by omega⟩
      have e1 : (((m + 1 : Nat) : Int) - 1) = (m : Int) := by omega
      rw [e1] at f4 ⊢
      refine bindX_i fun J3 h3 => bindX_i fun J4 h4 => ?_
      rw [f0, f3, convN_i und_int und_uint, wrap_u64, show ((m : Int)) % 18446744073709551616 = (m : Int) by omega]
      rw [show (Value.int .u64 1) = uq 1 from rfl, u64_shl (show m < 64 by omega)]
      have hsh : (1 : UInt64) <<< UInt64.ofNat m = UInt64.ofNat (1 <<< m) := by
        apply UInt64.toNat_inj.1
        rw [UInt64.toNat_shiftLeft, UInt64.toNat_ofNat', UInt64.toNat_ofNat']
        have : m % 2 ^ 64 % 64 = m := by omega
        rw [this]; rfl
      rw [hsh, u64_add]
      have hY : cubeF p m (if belowF (x + UInt64.ofNat (1 <<< m)) p then x + UInt64.ofNat (1 <<< m) else x) = cubeF p 35 0 := hsq
      generalize hy : x + UInt64.ofNat (1 <<< m) = y at *
      refine fnW_of (by kernel_rfl) (below_c y p fun w2 e => ?_)
      have fin : ∀ (fr : Fr) (z : UInt64), cubeF p m z = cubeF p 35 0 → fr 0 = uq p → fr 3 = uq z → fr 4 = .int .i64 (m : Int) → J3 .normal fr w2 := by
        intro fr z hz g0 g3 g4
        refine seq_n h3 ?_
        rw [g4]
        refine isub (by omega) ?_
        exact hJ m _ _ (by omega) ⟨z, by omega, hz, g0, g3, rfl, ex.new e⟩
      generalize belowF y p = bf at hY ⊢
      refine cond_b (fun hb => ?_) (fun hb => ?_)
      · rw [if_pos hb] at hY
        exact fin _ _ hY f0 rfl f4
      · rw [if_neg (by rw [hb]; simp)] at hY
        exact fin _ _ hY f0 f3 f4
    · obtain rfl : m = 0 := by omega
      have tail : ∀ (fr : Fr), fr 3 = uq x → J1 .normal fr wr := by
        intro fr f3
        refine seq_n h1 ?_
        rw [f3, conv_u64u32 und_u64 und_u32]
        have : x = cubeF p 35 0 := hsq
        rw [this]; exact hK _ ex
      exact hX _ _ _ (by simp) (h2 _ _ _ (blk_x (tail _ f3)))

set_option maxHeartbeats 1000000 in
theorem primes_c {w : World} {K : VPost} (n : Nat) (hn : n ≤ 1000) (r : List UInt64) (hr : prs 400 n 2 [] = some r) (hK : ∀ v w', OwnAt w' v 136 1 (uqs r) r.length → Ext [] w w' → (∀ x ∈ slB v, w.heap.size ≤ x) → K v w') :
    Calls Try.prog 98 #[.int .i64 n] w (retK K) := by
  refine c98_calls _ w K ?_
  unfold c98
  refine (Sep.nil w).litQ [] rfl (by simp) fun v0 w1 s _ _ => ?_
  refine bindX_i fun J0 h0 => bindX_i fun J1 h1 => bindX_i fun J2 h2 => ?_
  refine loop_i (fun m fr wr => ∃ (p : UInt64) (out : List UInt64) (v : Value), prs m n p out = some r ∧ out.length ≤ n ∧ fr 0 = .int .i64 n ∧ fr 3 = v ∧ fr 4 = uq p ∧ Sep [] w wr [rO v 136 1 (uqs out) out.length] []) 400 ?_ ?_
  · exact ⟨2, [], v0, hr, by simp, rfl, rfl, rfl, s⟩
  · rintro m fr wr J ⟨p, out, v, hp, ho, f0, f3, f4, s⟩ hJ hX
    cases m with
    | zero => cases hp
    | succ m =>
      have hp : (if out.length < n then (inn 100 p 2 true).bind fun b => prs m n (p + 1) (if b = true then out ++ [p] else out) else some out) = some r := hp
      obtain ⟨qa, qc, hqa⟩ := (OwnAt.rd (s.at 0 rfl)).len
      have hlen : ∀ (w : World) (K : VPost), lenW Try.prog (some true) #[133] 3 #[v] w K = K (.int .i64 out.length) w := fun w K => by rw [hqa, len_s]
      rw [f0, f3, hlen]
      refine nlss (cond_d (fun hlt => ?_) (fun hlt => ?_))
      · rw [if_pos hlt, Option.bind_eq_some_iff] at hp
        obtain ⟨bp, hbp, hp⟩ := hp
        refine bindX_i fun J3 h3 => bindX_i fun J4 h4 => bindX_i fun J5 h5 => bindX_i fun J6 h6 => ?_
        have fin : ∀ (fr : Fr) (wr : World) (o2 : List UInt64) (v2 : Value), prs m n (p + 1) o2 = some r → o2.length ≤ n → fr 0 = .int .i64 n → fr 3 = v2 → fr 4 = uq p → Sep [] w wr [rO v2 136 1 (uqs o2) o2.length] [] → J3 .normal fr wr := by
          intro fr wr o2 v2 hp2 ho2 g0 g3 g4 s
          refine seq_n h3 ?_
          rw [g4, show (Value.int .u64 1) = uq 1 from rfl, u64_add]
          exact hJ m _ _ (by omega) ⟨p + 1, o2, v2, hp2, ho2, g0, g3, rfl, s⟩
        refine loop_i (fun q fr wr2 => ∃ (d : UInt64) (b : Bool), inn q p d b = some bp ∧ fr 0 = .int .i64 n ∧ fr 3 = v ∧ fr 4 = uq p ∧ fr 5 = .bool b ∧ fr 6 = uq d ∧ wr2 = wr) 100 ?_ ?_
        · exact ⟨2, true, hbp, f0, f3, f4, rfl, rfl, rfl⟩
        · rintro q fr wr2 I ⟨d, b, hin, g0, g3, g4, g5, g6, hwr⟩ hI hY
          subst hwr
          cases q with
          | zero => cases hin
          | succ q =>
            have hin : (if d * d ≤ p then (if d = 0 then none else inn q p (d + 1) (if p % d = 0 then false else b)) else some b) = some bp := hin
            rw [g4, g6, u64_mul, u64_leq]
            refine cond_d (fun hle => ?_) (fun hle => ?_)
            · rw [if_pos hle] at hin
              by_cases hd0 : d = 0
              · rw [if_pos hd0] at hin; cases hin
              rw [if_neg hd0] at hin
              refine bindX_i fun J7 h7 => bindX_i fun J8 h8 => ?_
              have fin2 : ∀ (fr : Fr) (b2 : Bool), inn q p (d + 1) b2 = some bp → fr 0 = .int .i64 n → fr 3 = v → fr 4 = uq p → fr 5 = .bool b2 → fr 6 = uq d → J7 .normal fr wr2 := by
                intro fr b2 hb2 g0 g3 g4 g5 g6
                refine seq_n h7 ?_
                rw [g6, show (Value.int .u64 1) = uq 1 from rfl, u64_add]
                exact hI q _ _ (by omega) ⟨d + 1, b2, hb2, g0, g3, g4, g5, rfl, rfl⟩
              rw [u64_rem hd0, show (Value.int .u64 0) = uq 0 from rfl, u64_eql]
              refine cond_d (fun hz => ?_) (fun hz => ?_)
              · rw [if_pos hz] at hin
                exact fin2 _ _ hin g0 g3 g4 rfl g6
              · rw [if_neg hz] at hin
                exact fin2 _ _ hin g0 g3 g4 g5 g6
            · rw [if_neg hle] at hin
              have hin : b = bp := Option.some.inj hin
              have rest : ∀ (fr : Fr), fr 0 = .int .i64 n → fr 3 = v → fr 4 = uq p → fr 5 = .bool bp → J5 .normal fr wr2 := by
                intro fr g0 g3 g4 g5
                refine seq_n h5 ?_
                rw [g3, g4, g5]
                refine cond_b (fun hb => ?_) (fun hb => ?_)
                · rw [if_pos hb] at hp
                  refine s.addQ (K := _) 0 rfl p (by omega) fun _ v' w6 s => ?_
                  exact fin _ _ _ v' hp (by rw [List.length_append]; simp; omega) g0 rfl g4 (by rw [List.length_append]; exact s)
                · rw [if_neg (by rw [hb]; simp)] at hp
                  exact fin _ _ _ v hp ho g0 g3 g4 s
              exact hY _ _ _ (by simp) (h6 _ _ _ (blk_x (rest _ g0 g3 g4 (by rw [← hin]; exact g5))))
      · rw [if_neg hlt] at hp
        have hp : out = r := Option.some.inj hp
        have tail : ∀ fr : Fr, fr 3 = v → J1 .normal fr wr := by
          intro fr f3
          refine seq_n h1 ?_
          rw [f3]
          subst hp
          exact hK v wr (s.at 0 rfl) s.ext (s.fresh 0 rfl)
        exact hX _ _ _ (by simp) (h2 _ _ _ (blk_x (tail _ f3)))
end Go.Proofs.Ytedebapgmfnflaa
