/- SHA-256: rows taken in; digests: by contracts. Conditions: at most 2^36 bytes. -/
import Derived.Test.YtedebapgmfnflaaS7
import Derived.Test.YtedebapgmfnflaaH4
namespace Go.Proofs.Ytedebapgmfnflaa
open Go
set_option maxRecDepth 100000

theorem takeA_c {w : World} {K : VPost} {p : Nat} {F : List Nat} {a : Bytes} {x : Value} {b : Bytes} (h : Hash w p F (hm a)) (hx : RdSl w x 1 (bc b) b.length) (hd : ∀ c ∈ F, c ∉ rdB x (bc b)) (hn : a.length + b.length ≤ 2 ^ 37)
    (hK : ∀ F' w', Hash w' p F' (hm (a ++ b)) → Mv F w F' w' → K (.tuple #[]) w') : Calls Try.prog 80 #[.pointer (some ⟨p, 0, none⟩), x] w (retK K) :=
  take_c h hx hd (by show a.length + b.length ≤ _; omega) (by have := hm_rest a; omega) fun F' w' h' m => hK F' w' (hm_take a b ▸ h') m

theorem writeH_c {w : World} {K : VPost} {p : Nat} {F : List Nat} {a : Bytes} {v : Value} {hs : List Value} {ls : List Bytes} (h : Hash w p F (hm a)) (hv : RowsR w v hs ls) (hd : ∀ c ∈ F, c ∉ rdB v hs ++ rowsF hs ls) (hn : a.length + ls.flatten.length ≤ 2 ^ 37) (hls : ls.length ≤ 2 ^ 38)
    (hK : ∀ F' w', Hash w' p F' (hm (a ++ ls.flatten)) → Mv F w F' w' → K (.tuple #[]) w') : Calls Try.prog 43 #[.pointer (some ⟨p, 0, none⟩), v] w (retK K) := by
  refine c43_calls _ _ w K ?_
  unfold c43
  have s : Sep F w w [rH p F (hm a)] [rW v hs ls] := Sep.one1 (T := rH p F (hm a)) (U := rW v hs ls) h hv hd
  obtain ⟨va, vc, hva⟩ := hv.len
  rw [hva, len_s, ← hva]
  refine bindX_i fun J0 h0 => bindX_i fun J1 h1 => ?_
  refine loop_i (fun m fr wr => ∃ (i : Nat) (F' : List Nat), m = ls.length - i ∧ i ≤ ls.length ∧ fr 0 = .pointer (some ⟨p, 0, none⟩) ∧ fr 6 = v ∧ fr 7 = .int .i64 ls.length ∧ fr 8 = .int .i64 i ∧
    Sep F w wr [rH p F' (hm (a ++ (ls.take i).flatten))] [rW v hs ls]) ls.length ?_ ?_
  · exact ⟨0, F, rfl, by omega, rfl, rfl, rfl, rfl, by rw [List.take_zero, List.flatten_nil, List.append_nil]; exact s⟩
  · rintro m fr wr J ⟨i, F', rfl, hi, f0, f6, f7, f8, s⟩ hJ hX
    rw [f0, f6, f7, f8]
    refine nlss (cond_d (fun hlt => ?_) (fun hlt => ?_))
    · obtain ⟨b, o, r, hix, hld, hr, hc, hf⟩ := RowsR.elem (s.rat 0 rfl) hlt .i64
      refine hix _ ?_
      refine hld _ ?_
      have htk : ls.take (i + 1) = ls.take i ++ [ls[i]] := List.take_succ_eq_append_getElem hlt
      have hlen : (ls.take (i + 1)).flatten.length ≤ ls.flatten.length := by
        have : ls = ls.take (i + 1) ++ ls.drop (i + 1) := (List.take_append_drop _ _).symm
        conv => rhs; rw [this, List.flatten_append, List.length_append]
        omega
      have e : (ls.take (i + 1)).flatten = (ls.take i).flatten ++ ls[i] := by rw [htk, List.flatten_append]; simp
      rw [e, List.length_append] at hlen
      refine fnW_of (by kernel_rfl) (takeA_c (s.at 0 rfl) hr (fun c hc' hcm => s.disR (rH p F' (hm (a ++ (ls.take i).flatten))) (by simp) (rW v hs ls) (by simp) c hc' (hf c hcm)) (by rw [List.length_append]; omega) fun F2 w2 h2 m2 => ?_)
      rw [List.append_assoc, ← e] at h2
      have s := s.upd 0 rfl (T' := rH p F2 (hm (a ++ (ls.take (i + 1)).flatten))) h2 m2.ext m2.own
      refine nadd (y := 1) (by omega) ?_
      exact hJ (ls.length - (i + 1)) _ _ (by omega) ⟨i + 1, F2, rfl, by omega, f0, f6, f7, rfl, s⟩
    · obtain rfl : i = ls.length := by omega
      rw [List.take_length] at s
      obtain ⟨hh, e, ho⟩ := s.out 0 rfl
      exact hX _ _ _ (by simp) (h1 _ _ _ (blk_x (h0 _ _ _ (hK _ _ hh ⟨e, ho⟩))))

/-- One row, written as such. -/
theorem rows_one {w : World} {t : Value} {x : Value} {b : Bytes} (ht : RdSl w t 1 [x] 1) (hx : RdSl w x 1 (bc b) b.length) (hc : capOk x) : RowsR w t [x] [b] := ⟨ht, ⟨hx, hc⟩, trivial⟩

theorem zero_dig : zeroO Try.prog 62 = some (.agg (Array.replicate 32 (.int .u8 0))) := by kernel_rfl
theorem cells_dig : (Value.agg (Array.replicate 32 (.int .u8 0))).cells.toList = bc (List.replicate 32 0) := rfl

theorem outM_step (s : List UInt32) (i : Nat) (h : i < 32) : ((outM s).take i ++ List.replicate (32 - i) 0).set i (UInt8.ofNat ((s.getD (i / 4) 0).toNat >>> (24 - 8 * (i % 4)))) = (outM s).take (i + 1) ++ List.replicate (32 - (i + 1)) 0 := by
  have hl : ((outM s).take i).length = i := by rw [List.length_take, outM_length]; omega
  have hr : List.replicate (32 - i) (0 : UInt8) = 0 :: List.replicate (32 - (i + 1)) 0 := by rw [show 32 - i = (32 - (i + 1)) + 1 by omega, List.replicate_succ]
  have hlt : i < (outM s).length := by rw [outM_length]; exact h
  rw [hr, set_mid _ _ _ _ i hl, List.take_succ_eq_append_getElem hlt, List.append_assoc]
  congr 2
  simp [outM]

set_option maxHeartbeats 1000000 in
theorem sumH_c {w : World} {K : VPost} {p : Nat} {F : List Nat} {a : Bytes} (h : Hash w p F (hm a)) (hn : a.length ≤ 2 ^ 36) (hK : ∀ w', Ext [] w w' → K (.agg (bc (digest a)).toArray) w') :
    Calls Try.prog 45 #[.pointer (some ⟨p, 0, none⟩)] w (retK K) := by
  refine c45_calls _ w K ?_
  unfold c45
  have s : Sep [] w w [] [rH p F (hm a)] := (Sep.nil w).addR (T := rH p F (hm a)) h (by simp)
  refine s.alloc zero_dig cells_dig fun b2 w1 s _ => ?_
  refine fnW_of (by kernel_rfl) (forkH_c (s.rat 0 rfl) (by have := hm_rest a; omega) fun q G w2 hq e hG => ?_)
  have s := s.add (T := rH q G (hm a)) hq e hG
  refine Hash.n (s.rat 0 rfl) ?_
  have hn0 : ((hm a).n : Int) = (a.length : Int) := rfl
  rw [hn0]
  refine fnW_of (by kernel_rfl) (pad_c _ (fun hh => absurd ⟨by omega, by omega⟩ hh) fun _ v w3 hv e hvn => ?_)
  rw [Int.toNat_natCast] at hv
  have s := s.add (T := rO v 5 1 (bc (padM a.length)) (padM a.length).length) hv e hvn
  have hpl : (padM a.length).length ≤ 73 := by rw [padM_length]; have : zeros a.length < 64 := Nat.mod_lt _ (by decide); omega
  have hdis := (List.pairwise_cons.1 s.dis).1 (rH q G (hm a)) (by simp)
  refine fnW_of (by kernel_rfl) (takeA_c (s.at 1 rfl) (OwnAt.rd (s.at 0 rfl)) (fun c hc hcm => hdis c (by
    show c ∈ slB v
    unfold rdB at hcm; split at hcm
    · cases hcm
    · exact hcm) hc) (by omega) fun G2 w4 hq2 m2 => ?_)
  have s := s.upd 1 rfl (T' := rH q G2 (hm (a ++ padM a.length))) hq2 m2.ext m2.own
  have s : Sep [] w w4 [rO v 5 1 (bc (padM a.length)) (padM a.length).length, rH q G2 (hm (a ++ padM a.length)), rB b2 (bc (List.replicate 32 0)) 62] [rH p F (hm a)] := s
  refine s.alloc zero_dig cells_dig fun b4 w5 s _ => ?_
  refine bindX_i fun J0 h0 => bindX_i fun J1 h1 => bindX_i fun J2 h2 => ?_
  generalize hst : (hm (a ++ padM a.length)).st = st at *
  have hdg : outM st = digest a := by rw [← hst]; rfl
  have h8 : st.length = 8 := by rw [← hst]; exact hm_st _
  refine loop_i (fun m fr wr => ∃ i : Nat, m = 32 - i ∧ i ≤ 32 ∧ fr 2 = .pointer (some ⟨b2, 0, none⟩) ∧ fr 3 = .pointer (some ⟨q, 0, none⟩) ∧ fr 4 = .pointer (some ⟨b4, 0, none⟩) ∧ fr 15 = .int .i64 i ∧
    Sep [] w wr [rB b4 (bc ((outM st).take i ++ List.replicate (32 - i) 0)) 62, rO v 5 1 (bc (padM a.length)) (padM a.length).length, rH q G2 (hm (a ++ padM a.length)), rB b2 (bc (List.replicate 32 0)) 62] [rH p F (hm a)]) 32 ?_ ?_
  · exact ⟨0, rfl, by omega, rfl, rfl, rfl, rfl, s⟩
  · rintro m fr wr J ⟨i, rfl, hi, f2, f3, f4, f15, s⟩ hJ hX
    rw [f15]
    refine nlss (y := 32) (cond_d (fun hlt => ?_) (fun hlt => ?_))
    · rw [f3, f4]
      refine nquo (y := 4) (by decide) (by omega) ?_
      rw [nilW_e]
      refine off_i (k := 0) ?_
      refine idxA1 (i := i / 4) (by omega) ?_
      obtain ⟨rv, hq, _⟩ : Hash wr q G2 (hm (a ++ padM a.length)) := s.at 2 rfl
      refine load1 (v := uv (st.getD (i / 4) 0)) hq.hdr.r ?_ ?_
      · unfold hcells
        rw [hst, List.getElem?_append_left (by rw [uc_length]; omega)]
        exact uc_get (by omega)
      refine nrem (y := 4) (by decide) ?_
      refine nmul (x := 8) (by omega) ?_
      refine nsub (x := 24) (by omega) (by decide) ?_
      unfold uv
      refine nshr (by show 24 - 8 * (i % 4) ≤ 32; omega) ?_
      rw [conv_byte und_u32 und_u8]
      refine idxA1 hlt ?_
      refine s.store1 0 rfl rfl (by rw [bc_length, List.length_append, List.length_take, List.length_replicate, outM_length]; omega) rfl fun w6 s _ => ?_
      rw [bc_set, outM_step _ _ hlt] at s
      refine nadd (y := 1) (by omega) ?_
      exact hJ (32 - (i + 1)) _ _ (by omega) ⟨i + 1, rfl, by omega, f2, f3, f4, rfl, s⟩
    · obtain rfl : i = 32 := by omega
      have tail : ∀ (fr : Fr) (wr : World), fr 2 = .pointer (some ⟨b2, 0, none⟩) → fr 4 = .pointer (some ⟨b4, 0, none⟩) → Sep [] w wr [rB b4 (bc (digest a)) 62, rO v 5 1 (bc (padM a.length)) (padM a.length).length, rH q G2 (hm (a ++ padM a.length)), rB b2 (bc (List.replicate 32 0)) 62] [rH p F (hm a)] → J1 .normal fr wr := by
        intro fr wr f2 f4 s
        refine seq_n h1 ?_
        rw [f2, f4]
        have hl : (bc (digest a)).length = 32 := by rw [bc_length, digest_length]
        refine s.loadAll 0 rfl hl ?_
        refine s.storeAll 3 rfl hl rfl (bc_one _) fun w7 s _ => ?_
        refine s.loadAll 3 rfl hl ?_
        exact hK _ s.ext
      refine hX _ _ _ (by simp) (h2 _ _ _ (blk_x (tail _ _ f2 f4 ?_)))
      have e : (outM st).take 32 ++ List.replicate (32 - 32) 0 = digest a := by rw [hdg]; simp [digest_length, List.take_of_length_le]
      rw [e] at s
      exact s

theorem sum_c {w : World} {K : VPost} {x : Value} {b : Bytes} (hx : RdSl w x 1 (bc b) b.length) (hc : capOk x) (hn : b.length ≤ 2 ^ 36) (hK : ∀ w', Ext [] w w' → K (.agg (bc (digest b)).toArray) w') :
    Calls Try.prog 46 #[x] w (retK K) := by
  refine c46_calls _ w K ?_
  unfold c46
  have s : Sep [] w w [] [rR x 1 (bc b) b.length] := (Sep.nil w).addR (T := rR x 1 (bc b) b.length) hx (by simp)
  refine s.alloc zero_dig cells_dig fun b2 w1 s _ => ?_
  refine fnW_of (by kernel_rfl) (newH_c fun p F w2 hh e hF => ?_)
  have s := s.add (T := rH p F (hm [])) hh e hF
  obtain ⟨ti, hi, hz, hs, hby⟩ := tyI_spec (by kernel_rfl : tyI Try.prog 34 = some (.slice none 0 0, 1, 24))
  have hxc : x.cells = #[x] := by obtain ⟨a, c, rfl⟩ := hx.len; rfl
  refine s.lit (vs := [x]) (by kernel_rfl : Try.prog.underlying 56 = some (.slice 34)) hi hz rfl (by intro y hy; simp at hy; subst hy; rw [hs, hxc]; rfl) (by rw [hs]; simp) fun t w3 s ht _ => ?_
  rw [hs, flat_one _ hxc] at s
  have s : Sep [] w w3 [rO t 34 1 [x] 1, rH p F (hm []), rB b2 (bc (List.replicate 32 0)) 62] [rR x 1 (bc b) b.length] := s
  have hdis := (List.pairwise_cons.1 s.dis).1 (rH p F (hm [])) (by simp)
  refine fnW_of (by kernel_rfl) (writeH_c (hs := [x]) (ls := [b]) (s.at 1 rfl) (rows_one (OwnAt.rd (s.at 0 rfl)) (s.rat 0 rfl) hc) ?_ (by simp; omega) (by simp) fun F2 w4 h2 m2 => ?_)
  · intro c hcF hcm
    simp only [rowsF, List.append_nil, List.mem_append] at hcm
    rcases hcm with hcm | hcm
    · exact hdis c (by
        show c ∈ slB t
        exact hcm) hcF
    · exact s.disR (rH p F (hm [])) (by simp) (rR x 1 (bc b) b.length) (by simp) c hcF hcm
  have s := s.upd 1 rfl (T' := rH p F2 (hm ([] ++ [b].flatten))) h2 m2.ext m2.own
  have e1 : ([] : Bytes) ++ [b].flatten = b := by simp
  rw [e1] at s
  have s : Sep [] w w4 [rO t 34 1 [x] 1, rH p F2 (hm b), rB b2 (bc (List.replicate 32 0)) 62] [rR x 1 (bc b) b.length] := s
  refine fnW_of (by kernel_rfl) (sumH_c (s.at 1 rfl) hn fun w5 e => ?_)
  have s := s.ext0 e
  have hl : (bc (digest b)).length = 32 := by rw [bc_length, digest_length]
  refine s.storeAll 2 rfl hl rfl (bc_one _) fun w7 s _ => ?_
  refine s.loadAll 2 rfl hl ?_
  exact hK _ s.ext
end Go.Proofs.Ytedebapgmfnflaa
