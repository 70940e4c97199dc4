/- A sector: its walk. Condition: its bytes are at most 46, its numbers are not below 0. -/
import Derived.Test.YtedebapgmfnflaaDoorV2
namespace Go.Proofs.YtedebapgmfnflaaDoor
open Go
set_option maxRecDepth 100000

theorem zero_blk : zeroO Tryd.prog 37 = some (.agg (Array.replicate 64 (.int .u8 0))) := by kernel_rfl
theorem cellsK : (Value.agg (Array.replicate 64 (.int .u8 0))).cells.toList = bc (List.replicate 64 0) := rfl

theorem Sep.copyB {S : List Nat} {w0 w : World} {L R : List Res} {K : VPost} {b o n c : Nat} {l y : Bytes} {t : TypeId} {x : Value} (s : Sep S w0 w L R) (i : Nat) (hL : L[i]? = some (rB b (bc l) t)) (hx : RdSl w x 1 (bc y) y.length) (hle : o + n ≤ l.length) (hyn : y.length ≤ n)
    (h : ∀ w', Sep S w0 w' (L.set i (rB b (bc (bspl l o y)) t)) R → K (.int .i64 y.length) w') : insW Tryd.prog (Builtin.copy_ #[22, 22] 3 #[.slice (some ⟨b, o, none⟩) n c, x]) w K := by
  obtain ⟨ui, hui, huz, husz, huby⟩ := tyI_spec ty_u8
  have hb : Blk w b (bc l) t := s.at i hL
  refine copy_i (m := y.length) und_u8s hui hb (by rw [husz]; exact hx) (bc_one _) (by rw [husz, bc_length]; omega) fun w' e hb' _ => ?_
  rw [husz, Nat.mul_one, Nat.min_eq_left hyn, List.take_of_length_le (by rw [bc_length]; exact Nat.le_refl _), ← bc_spl] at hb'
  rw [Nat.min_eq_left hyn]
  exact h w' (s.upd (T := rB b (bc l) t) i hL (T' := rB b (bc (bspl l o y)) t) hb' e (fun x hx => .inl hx))

theorem sector_fill (g n : Nat) {d : Bytes} (h : d.length ≤ 46) : bspl (bspl (List.replicate 64 0) 0 (mkB g n ++ beP 2 d.length ++ d)) 56 (mkB g n) = secB g n d := by
  have hl : (mkB g n ++ beP 2 d.length ++ d).length = 10 + d.length := by simp only [List.length_append, mkB_length, beP_length]
  have e1 : bspl (List.replicate 64 0) 0 (mkB g n ++ beP 2 d.length ++ d) = (mkB g n ++ beP 2 d.length ++ d) ++ List.replicate (54 - d.length) 0 := by
    unfold bspl
    rw [List.take_zero, List.nil_append, hl, List.drop_replicate]
    congr 2
    omega
  have e2 : List.replicate (54 - d.length) (0 : UInt8) = List.replicate (46 - d.length) 0 ++ List.replicate 8 0 := by
    rw [List.replicate_append_replicate]
    congr 1
    omega
  have hl2 : ((mkB g n ++ beP 2 d.length ++ d) ++ List.replicate (46 - d.length) 0).length = 56 := by rw [List.length_append, hl, List.length_replicate]; omega
  rw [e1, e2, ← List.append_assoc]
  unfold bspl
  rw [List.take_left' hl2, mkB_length, List.drop_of_length_le (by rw [List.length_append, hl2]; simp), List.append_nil]
  simp [secB]

theorem sector_c {w : World} {K : VPost} {x : Value} {g n : Nat} {d : Bytes} (hg : g < 9223372036854775808) (hn : n < 9223372036854775808) (h : RdSl w x 1 (bc d) d.length) (hcap : capOk x) (hd : d.length ≤ 46)
    (hK : ∀ w', Ext [] w w' → K (.agg (bc (secB g n d)).toArray) w') : Calls Tryd.prog 72 #[.int .i64 g, .int .i64 n, x] w (retK K) := by
  refine c72_calls _ _ _ w K ?_
  unfold c72
  refine (Sep.zero1 (U := rR x 1 (bc d) d.length) h).alloc zero_blk cellsK fun b6 w1 s _ => ?_
  refine s.alloc zero_blk cellsK fun b7 w2 s _ => ?_
  refine s.putB (k := 4) hg (by decide) fun v1 w3 s => ?_
  refine s.putB (k := 4) hn (by decide) fun v2 w4 s => ?_
  refine s.apB 1 rfl (OwnAt.rd (s.at 0 rfl)) (by rw [beP_length, beP_length]; decide) fun v3 w5 s => ?_
  have s := s.drop 0
  have s : Sep [] w w5 [rDb v3 (mkB g n), rB b7 (bc (List.replicate 64 0)) 37, rB b6 (bc (List.replicate 64 0)) 37] [rR x 1 (bc d) d.length] := s
  have s := s.drew
  generalize w5.drew = w5 at *
  refine slArr0 ?_
  rw [h.lenw]
  refine s.putB (k := 2) (by omega) (by decide) fun v4 w6 s => ?_
  obtain ⟨a3, c3, e3⟩ := (OwnAt.rd (s.at 1 rfl)).len
  obtain ⟨a4, c4, e4⟩ := (OwnAt.rd (s.at 0 rfl)).len
  obtain ⟨ax, cx, ex⟩ := h.len
  obtain ⟨ti, hti, htz, hts, htb⟩ := tyI_spec ty_row
  refine s.lit (vs := [v3, v4, x]) und_rows hti htz rfl (by intro y hy; simp only [List.mem_cons, List.not_mem_nil, or_false] at hy; rcases hy with rfl | rfl | rfl <;> rw [hts] <;> simp only [e3, e4, ex] <;> rfl) (by rw [hts]; simp) fun v5 w7 s _ _ => ?_
  have hfl : flatV [v3, v4, x] = [v3, v4, x] := by rw [e3, e4, ex]; rfl
  rw [hts, hfl] at s
  have hrow : RowsR w7 v5 [v3, v4, x] [mkB g n, beP 2 d.length, d] := ⟨OwnAt.rd (s.at 0 rfl), ⟨OwnAt.rd (s.at 2 rfl), OwnAt.cap (s.at 2 rfl)⟩, ⟨OwnAt.rd (s.at 1 rfl), OwnAt.cap (s.at 1 rfl)⟩, ⟨s.rat 0 rfl, hcap⟩, trivial⟩
  have hlen : ([mkB g n, beP 2 d.length, d] : List Bytes).flatten.length = 10 + d.length := by simp [mkB_length, beP_length]; omega
  refine fnW_of (by kernel_rfl) (concat_c hrow (by rw [hlen]; omega) (by simp) fun v8 w8 hv8 e8 hf8 => ?_)
  have s := s.add (T := rDb v8 ([mkB g n, beP 2 d.length, d] : List Bytes).flatten) hv8 e8 hf8
  have hfl2 : ([mkB g n, beP 2 d.length, d] : List Bytes).flatten = mkB g n ++ beP 2 d.length ++ d := by simp
  rw [hfl2] at s hlen
  have s : Sep [] w w8 [rDb v8 (mkB g n ++ beP 2 d.length ++ d), rO v5 22 1 [v3, v4, x] 3, rDb v4 (beP 2 d.length), rDb v3 (mkB g n), rB b7 (bc (List.replicate 64 0)) 37, rB b6 (bc (List.replicate 64 0)) 37] [rR x 1 (bc d) d.length] := s
  refine s.copyB (o := 0) (n := 64) 4 rfl (OwnAt.rd (s.at 0 rfl)) (by simp) (by omega) fun w9 s => ?_
  have s : Sep [] w w9 [rDb v8 (mkB g n ++ beP 2 d.length ++ d), rO v5 22 1 [v3, v4, x] 3, rDb v4 (beP 2 d.length), rDb v3 (mkB g n), rB b7 (bc (bspl (List.replicate 64 0) 0 (mkB g n ++ beP 2 d.length ++ d))) 37, rB b6 (bc (List.replicate 64 0)) 37] [rR x 1 (bc d) d.length] := s
  refine slA_from (l := 56) (by decide) ?_
  rw [if_neg (by decide : ¬ 64 = 56)]
  have hl1 : (bspl (List.replicate 64 0) 0 (mkB g n ++ beP 2 d.length ++ d)).length = 64 := by rw [bspl_length (by rw [List.length_replicate]; omega), List.length_replicate]
  refine s.copyB (o := 56) (n := 8) 4 rfl (OwnAt.rd (s.at 3 rfl)) (by omega) (by rw [mkB_length]; exact Nat.le_refl _) fun w10 s => ?_
  rw [sector_fill g n hd] at s
  have s : Sep [] w w10 [rDb v8 (mkB g n ++ beP 2 d.length ++ d), rO v5 22 1 [v3, v4, x] 3, rDb v4 (beP 2 d.length), rDb v3 (mkB g n), rB b7 (bc (secB g n d)) 37, rB b6 (bc (List.replicate 64 0)) 37] [rR x 1 (bc d) d.length] := s
  have hsl : (bc (secB g n d)).length = 64 := by rw [bc_length, secB_length g n hd]
  refine s.loadAll 4 rfl hsl ?_
  refine s.storeAll 5 rfl hsl (by rw [bc_length]; rfl) (bc_one _) fun w11 s _ => ?_
  have s : Sep [] w w11 [rDb v8 (mkB g n ++ beP 2 d.length ++ d), rO v5 22 1 [v3, v4, x] 3, rDb v4 (beP 2 d.length), rDb v3 (mkB g n), rB b7 (bc (secB g n d)) 37, rB b6 (bc (secB g n d)) 37] [rR x 1 (bc d) d.length] := s
  refine s.loadAll 5 rfl hsl ?_
  exact hK w11 s.ext
end Go.Proofs.YtedebapgmfnflaaDoor
