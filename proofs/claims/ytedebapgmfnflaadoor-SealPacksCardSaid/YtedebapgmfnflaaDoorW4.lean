/- The law of records one behind the other: its walk. -/
import Derived.Test.YtedebapgmfnflaaDoorW1
namespace Go.Proofs.YtedebapgmfnflaaDoor
open Go
set_option maxRecDepth 100000

/-- Sectors put behind sectors of one's own. -/
theorem Sep.apKs {S : List Nat} {w0 w : World} {L R : List Res} {K : VPost} {v x : Value} {ls ms : List Bytes} (s : Sep S w0 w L R) (i : Nat) (hL : L[i]? = some (rK v ls)) (hx : RdSl w x 64 (bc ms.flatten) ms.length) (hn : ls.length + ms.length ≤ 10000000)
    (h : ∀ v' w', Sep S w0 w' (L.set i (rK v' (ls ++ ms))) R → K v' w') : insW Tryd.prog (Builtin.append_ #[23, 23] 23 #[v, x]) w K := by
  obtain ⟨ti, hti, htz, hts, htb⟩ := tyI_spec ty_blk
  refine s.appendO (v := v) (n := ls.length) (m := ms.length) (ys := bc ms.flatten) (xs := bc ls.flatten) i (by rw [hts]; exact hL) und_blks und_blks hti htz (by rw [hts]; rfl) (by rw [htb]; decide) (by rw [hts]; exact hx) (bc_one _) (by rw [htb]; omega) fun v' w' s => ?_
  have e2 : ls.flatten ++ ms.flatten = (ls ++ ms).flatten := by simp
  rw [hts, ← bc_append, ← List.length_append, e2] at s
  exact h v' w' s

theorem need_le (n : Nat) : needN n ≤ 45 := by unfold needN; split <;> omega
theorem rowsB_le (g : Nat) : ∀ (n : Nat) (rs : List Bytes), (rowsB g n rs).length ≤ 45 * rs.length
  | _, [] => by simp [rowsB]
  | n, r :: rs => by
    have h1 := need_le r.length
    have h2 := rowsB_le g (n + needN r.length) rs
    have h3 := packB_length g n r
    rw [rowsB, List.length_append, List.length_cons]
    omega
theorem rowsB_next (g n : Nat) (ls : List Bytes) {i : Nat} (hi : i < ls.length) : rowsB g n (ls.take (i + 1)) = rowsB g n (ls.take i) ++ packB g (n + (rowsB g n (ls.take i)).length) ls[i] := by
  rw [List.take_succ_eq_append_getElem hi, rowsB_snoc]
theorem rowsB_at (g n : Nat) (ls : List Bytes) {i : Nat} (hi : i < ls.length) : ∃ more, (∀ b ∈ more, b.length = 64) ∧ (rowsB g n ls).drop (rowsB g n (ls.take i)).length = packB g (n + (rowsB g n (ls.take i)).length) ls[i] ++ more := by
  have h1 := rowsB_take g n ls i
  rw [List.drop_eq_getElem_cons hi, rowsB] at h1
  refine ⟨rowsB g (n + (rowsB g n (ls.take i)).length + needN ls[i].length) (ls.drop (i + 1)), rowsB_64 _ _ _, ?_⟩
  rw [h1, List.drop_left]

set_option maxHeartbeats 2000000 in
theorem rowsLaw_walk {w : World} {K : VPost} {v : Value} {hs : List Value} {ls : List Bytes} {g n : Int} (hv : RowsR w v hs ls) (hls : ls.length ≤ 2 ^ 44) (hb : ∀ l ∈ ls, l.length ≤ 140737488351232) (hK : ∀ w', Ext [] w w' → K (.bool true) w') :
    Calls Tryd.prog 7 #[v, .int .i64 g, .int .i64 n] w (retK K) := by
  refine c7_calls _ _ _ w K ?_
  unfold c7
  refine fnW_of (by kernel_rfl) (alive4_c fun w1 e1 => ?_)
  have s := (Sep.zero1 (U := rW v hs ls) hv).ext0 e1
  refine not_ti ?_
  refine cndF ?_
  refine fnW_of (by kernel_rfl) (rows_c (s.rat 0 rfl) hls hb 3000 (by decide) fun q hq => ?_)
  rw [igtr]
  by_cases hq1 : (3000 : Int) < q
  · rw [decide_eq_true hq1]
    iterate 2 ((repeat with_reducible refine gs_tf ?_); refine pick_ti ?_)
    exact cndT (hK _ s.ext)
  rw [decide_eq_false hq1]
  have hm := hq (by omega)
  have heach := each_le hm
  refine gs_f ?_
  refine gs_f ?_
  rw [ilss]
  refine pick_fi ?_
  by_cases hn0 : n < 0
  · rw [decide_eq_true hn0]
    iterate 1 ((repeat with_reducible refine gs_tf ?_); refine pick_ti ?_)
    exact cndT (hK _ s.ext)
  rw [decide_eq_false hn0]
  refine gs_f ?_
  refine gs_f ?_
  rw [igtr]
  refine pick_fi ?_
  refine cond_d (fun _ => hK _ s.ext) (fun hn1 => ?_)
  obtain ⟨n, rfl⟩ : ∃ k : Nat, n = k := ⟨n.toNat, by omega⟩
  refine s.litKs (ls := []) (by simp) (by decide) rfl fun v0 w2 s => ?_
  have hvl : ∀ (w : World) (K : VPost), lenW Tryd.prog (some true) #[45] 3 #[v] w K = K (.int .i64 ls.length) w := fun w K => by obtain ⟨a, c, rfl⟩ := hv.len; exact len_s
  have hG : ∃ G : Nat, g.toNat = G := ⟨_, rfl⟩
  obtain ⟨G, hG⟩ := hG
  refine bindX_i fun J0 g0 => bindX_i fun J1 g1 => bindX_i fun J2 g2 => ?_
  refine loop_i (fun m fr wr => ∃ (i : Nat) (v1 : Value), m = ls.length - i ∧ i ≤ ls.length ∧ (∀ j (hj : j < ls.length), j < i → packOk g ((n + (rowsB G n (ls.take j)).length : Nat) : Int) (needN ls[j].length)) ∧
    fr 0 = v ∧ fr 1 = .int .i64 g ∧ fr 2 = .int .i64 n ∧ fr 7 = v1 ∧ fr 8 = .int .i64 i ∧ Sep [] w wr [rK v1 (rowsB G n (ls.take i))] [rW v hs ls]) ls.length ?_ ?_
  · exact ⟨0, v0, rfl, by omega, fun j hj h0 => by omega, rfl, rfl, rfl, rfl, rfl, s⟩
  · rintro m fr wr J ⟨i, v1, rfl, hi, hpk, f0, f1, f2, f7, f8, s⟩ hJ hX
    have hrl := rowsB_le G n (ls.take i)
    rw [List.length_take, Nat.min_eq_left hi] at hrl
    rw [f0, hvl, f8]
    refine nlss (cond_d (fun hlt => ?_) (fun hlt => ?_))
    · rw [f7, f2, f1, (OwnAt.rd (s.at 0 rfl)).lenw]
      refine nadd (by omega) ?_
      obtain ⟨b, o, r, hix, hld, hr, hc, hf⟩ := RowsR.elem (s.rat 0 rfl) hlt .i64
      refine hix _ ?_
      refine hld _ ?_
      refine fnW_of (by kernel_rfl) (pack_c (g := g) (n := ((n + (rowsB G n (ls.take i)).length : Nat) : Int)) (r := ls[i]) hr (fun _ w3 e3 => ?_) fun hok v3 w3 hv3 e3 hf3 => ?_)
      · rw [extr0, extr1]
        refine not_ti (b := false) ?_
        refine cndT ?_
        refine hX _ _ _ (by simp) (g2 _ _ _ (g1 _ _ _ (g0 _ _ _ ?_)))
        exact hK _ (s.ext0 e3).ext
      · rw [hG, Int.toNat_natCast] at hv3
        have s := s.add (T := rK v3 (packB G (n + (rowsB G n (ls.take i)).length) ls[i])) hv3 e3 hf3
        have hpl := packB_length G (n + (rowsB G n (ls.take i)).length) ls[i]
        have hnl := need_le ls[i].length
        rw [extr0, extr1]
        refine not_ti (b := true) ?_
        refine cndF ?_
        refine s.apKs 1 rfl (OwnAt.rd (s.at 0 rfl)) (by omega) fun v4 w4 s => ?_
        have s := s.drop 0
        rw [← rowsB_next G n ls hlt] at s
        have s : Sep [] w w4 [rK v4 (rowsB G n (ls.take (i + 1)))] [rW v hs ls] := s
        refine nadd (y := 1) (by omega) ?_
        refine hJ (ls.length - (i + 1)) _ _ (by omega) ⟨i + 1, v4, rfl, by omega, fun j hj hji => ?_, f0, f1, f2, rfl, rfl, s⟩
        by_cases hjj : j = i
        · subst hjj; exact hok
        · exact hpk j hj (by omega)
    · obtain rfl : i = ls.length := by omega
      rw [List.take_length] at s hrl
      have hpk : ∀ j (hj : j < ls.length), packOk g ((n + (rowsB G n (ls.take j)).length : Nat) : Int) (needN ls[j].length) := fun j hj => hpk j hj hj
      have h64 := rowsB_64 G n ls
      refine hX _ _ _ (by simp) (g2 _ _ _ (g1 _ _ _ (seqX_n ?_)))
      refine bindX_i fun J3 g3 => bindX_i fun J4 g4 => ?_
      refine loop_i (fun m fr wr => ∃ (i : Nat), m = ls.length - i ∧ i ≤ ls.length ∧ fr 0 = v ∧ fr 1 = .int .i64 g ∧ fr 2 = .int .i64 n ∧ fr 7 = v1 ∧ fr 11 = .int .i64 (rowsB G n (ls.take i)).length ∧ fr 12 = .int .i64 i ∧ Sep [] w wr [rK v1 (rowsB G n ls)] [rW v hs ls]) ls.length ?_ ?_
      · exact ⟨0, rfl, by omega, f0, f1, f2, f7, rfl, rfl, s⟩
      · rintro m fr wr I ⟨i, rfl, hi, k0, k1, k2, k7, k11, k12, s⟩ hI hY
        have hri := rowsB_le G n (ls.take i)
        rw [List.length_take, Nat.min_eq_left hi] at hri
        rw [k0, hvl, k12]
        refine nlss (cond_d (fun hlt => ?_) (fun hlt => ?_))
        · obtain ⟨p1, p2, p3, p4, p5⟩ := hpk i hlt
          obtain ⟨more, hmore, hat⟩ := rowsB_at G n ls hlt
          have hnx := congrArg List.length (rowsB_next G n ls hlt)
          rw [List.length_append, packB_length] at hnx
          have hle : (rowsB G n (ls.take i)).length ≤ (rowsB G n ls).length := by
            have := congrArg List.length (rowsB_take G n ls i)
            rw [List.length_append] at this
            omega
          have hnl := need_le ls[i].length
          have hr2 : ls[i].length ≤ 2000 := by unfold needN at p1; split at p1 <;> omega
          rw [k7, k11, k2, k1]
          generalize (rowsB G n (ls.take i)).length = q at *
          refine (OwnAt.rd (s.at 0 rfl)).cut (l := q) (h := (rowsB G n ls).length) (OwnAt.cap (s.at 0 rfl)) rfl rfl hle (Nat.le_refl _) fun v5 hv5 hc5 _ _ => ?_
          have hfd : (bc (rowsB G n ls).flatten).drop (q * 64) = bc ((rowsB G n ls).drop q).flatten := by
            have h1 : (rowsB G n ls).flatten = ((rowsB G n ls).take q).flatten ++ ((rowsB G n ls).drop q).flatten := by rw [← List.flatten_append, List.take_append_drop]
            have h2 : ((rowsB G n ls).take q).flatten.length = q * 64 := by
              rw [flat64 (fun l hl => h64 l (List.mem_of_mem_take hl)), List.length_take, Nat.min_eq_left hle, Nat.mul_comm]
            rw [h1, bc_append, List.drop_left' (by rw [bc_length, h2])]
          have hdl : ((rowsB G n ls).drop q).length = (rowsB G n ls).length - q := by rw [List.length_drop]
          have hd64 : ∀ l ∈ (rowsB G n ls).drop q, l.length = 64 := fun l hl => h64 l (List.mem_of_mem_drop hl)
          rw [hfd, ← hdl, List.take_of_length_le (by rw [bc_length, flat64 hd64]; omega)] at hv5
          refine nadd (by omega) ?_
          have hg : g = (G : Int) := by omega
          have hup : unpackI ((rowsB G n ls).drop q) g ((n + q : Nat) : Int) = some (ls[i], needN ls[i].length) := by
            rw [hg, unpackI_nat (by omega) (by omega) (by omega), hat]
            exact unpack_pack hr2 (by omega) (by omega) more hmore
          refine fnW_of (by kernel_rfl) (unpack_c (g := g) (n := ((n + q : Nat) : Int)) (ls := (rowsB G n ls).drop q) hv5 hc5 hd64 (by omega) (fun hno => by rw [hup] at hno; cases hno) fun r' k hu v6 w6 hv6 e6 hf6 => ?_)
          rw [hup] at hu
          obtain ⟨rfl, rfl⟩ := Prod.mk.inj (Option.some.inj hu)
          have s := s.add (T := rDb v6 ls[i]) hv6 e6 hf6
          refine extr_i rfl ?_
          refine extr_i rfl ?_
          refine extr_i rfl ?_
          refine not_ti (b := true) ?_
          refine gs_f ?_
          refine gs_f ?_
          refine gs_f ?_
          refine gs_f ?_
          obtain ⟨b, o, r, hix, hld, hr, hc, hf⟩ := RowsR.elem (s.rat 0 rfl) hlt .i64
          refine hix _ ?_
          refine gs_f ?_
          refine hld _ ?_
          refine gs_f ?_
          refine fnW_of (by kernel_rfl) (sameBytes_c (OwnAt.rd (s.at 0 rfl)) hr (by omega) fun w7 e7 => ?_)
          have s := (s.ext0 e7).drop 0
          rw [decide_eq_true rfl]
          refine gs_f ?_
          refine not_ti (b := true) ?_
          refine pick_fi ?_
          refine gs_f ?_
          refine gs_f ?_
          refine nlss (y := 1) ?_
          refine pick_fi ?_
          refine cond_d (fun h => by omega) (fun _ => ?_)
          refine nadd (by omega) ?_
          refine nadd (y := 1) (by omega) ?_
          refine hI (ls.length - (i + 1)) _ _ (by omega) ⟨i + 1, rfl, by omega, k0, k1, k2, k7, ?_, rfl, s⟩
          rw [hnx]; rfl
        · obtain rfl : i = ls.length := by omega
          rw [List.take_length] at k11
          refine hY _ _ _ (by simp) (g4 _ _ _ (g3 _ _ _ (seqX_n ?_)))
          show lenW _ _ _ _ #[fr 7] _ _
          rw [k7, (OwnAt.rd (s.at 0 rfl)).lenw]
          show binN _ _ _ _ (fr 11) _ _ _
          rw [k11]
          refine neql ?_
          rw [decide_eq_true rfl]
          exact hK _ s.ext
end Go.Proofs.YtedebapgmfnflaaDoor
