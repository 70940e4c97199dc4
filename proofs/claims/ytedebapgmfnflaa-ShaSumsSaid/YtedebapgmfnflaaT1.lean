/- The laws of sha: what they share, and three of them: parts, forks, pads: their walks. -/
import Derived.Test.YtedebapgmfnflaaT0
import Derived.Test.YtedebapgmfnflaaCT
namespace Go.Proofs.Ytedebapgmfnflaa
open Go
set_option maxRecDepth 100000

theorem dig_abc : (digest [97, 98, 99]).take 4 = [0xba, 0x78, 0x16, 0xbf] := by decide +kernel
theorem dig_nil : (digest []).take 4 = [0xe3, 0xb0, 0xc4, 0x42] := by decide +kernel
theorem dig_ne : digest [97, 98, 99, 100] ≠ digest [97, 98, 99] := by decide +kernel

/-- Two digests, compared. -/
theorem dig_eql {w : World} {K : VPost} {c : Bool} {a b : Bytes} (ha : a.length = 32) (hb : b.length = 32) (h : K (.bool (decide (a = b))) w) : binW Try.prog .eql 62 c (.agg (bc a).toArray) (.agg (bc b).toArray) w K := by
  obtain ⟨ui, hui, huz, husz, huby⟩ := tyI_spec ty_u8
  rw [bc_ints a, bc_ints b, bin_ints_eql (by kernel_rfl : Try.prog.underlying 62 = some (.array 32 5)) hui (by kernel_rfl) (by kernel_rfl) (by kernel_rfl) (by kernel_rfl) _ _ (by simpa using ha) (by simpa using hb)]
  simpa only [ints_inj] using h
theorem dig_neq {w : World} {K : VPost} {c : Bool} {a b : Bytes} (ha : a.length = 32) (hb : b.length = 32) (h : K (.bool (!decide (a = b))) w) : binW Try.prog .neq 62 c (.agg (bc a).toArray) (.agg (bc b).toArray) w K := by
  obtain ⟨ui, hui, huz, husz, huby⟩ := tyI_spec ty_u8
  rw [bc_ints a, bc_ints b, bin_ints_neq (by kernel_rfl : Try.prog.underlying 62 = some (.array 32 5)) hui (by kernel_rfl) (by kernel_rfl) (by kernel_rfl) (by kernel_rfl) _ _ (by simpa using ha) (by simpa using hb)]
  simpa only [ints_inj] using h

/-- Literal bytes. -/
theorem Sep.litB {S : List Nat} {w0 w : World} {L R : List Res} {K : VPost} (s : Sep S w0 w L R) (l : Bytes) {parts : List (Nat × Value)} (hp : parts = enumV 0 (bc l)) (hl : l.length ≤ 1000)
    (h : ∀ v' w', Sep S w0 w' (rO v' 5 1 (bc l) l.length :: L) R → slB v' = [w.heap.size] → Ext [] w w' → K v' w') : insW Try.prog (Instr.buildSlice 34 l.length parts.toArray) w K := by
  obtain ⟨ui, hui, huz, husz, huby⟩ := tyI_spec ty_u8
  have hlen : (bc l).length = l.length := bc_length l
  have hc : ∀ v ∈ bc l, v.cells.size = ui.size := by
    intro v hv
    obtain ⟨b, _, rfl⟩ := List.mem_map.1 hv
    rw [husz]; rfl
  have hf : flatV (bc l) = bc l := by
    have : ∀ l : Bytes, flatV (bc l) = bc l := by
      intro l
      induction l with
      | nil => rfl
      | cons b r ih =>
        have e : flatV (bc (b :: r)) = (bv b).cells.toList ++ flatV (bc r) := by simp [flatV, bc]
        rw [e, ih]; rfl
    exact this l
  have := s.lit (K := K) (vs := bc l) und_u8s hui huz hp hc (by rw [hlen, husz]; omega) (fun t w' s' ht e => by
    rw [hlen, husz, hf] at s'
    exact h t w' s' ht e)
  rw [hlen] at this
  exact this

/-- The beginning of an array, as a slice. -/
theorem Blk.rdTo {w : World} {b n k : Nat} {l : Bytes} {t : TypeId} (h : Blk w b (bc l) t) (hl : l.length = n) (hk : k ≤ n) : RdSl w (.slice (some ⟨b, 0, none⟩) k n) 1 (bc (l.take k)) (l.take k).length := by
  have hlen : (l.take k).length = k := by rw [List.length_take]; omega
  rw [hlen]
  refine ⟨by rw [bc_length, hlen, Nat.mul_one], .inr ⟨b, 0, n, _, rfl, h.r, ?_, by rw [bc_length]; omega⟩⟩
  rw [bc_part, List.drop_zero, Nat.mul_one]

theorem Sep.hsum {S : List Nat} {w0 w : World} {L R : List Res} {K : VPost} {p : Nat} {F : List Nat} {a : Bytes} (s : Sep S w0 w L R) (i : Nat) (hL : L[i]? = some (rH p F (hm a))) (hn : a.length ≤ 2 ^ 36) (h : ∀ w', Sep S w0 w' L R → K (.agg (bc (digest a)).toArray) w') :
    fnW Try.prog 45 #[.pointer (some ⟨p, 0, none⟩)] w K :=
  fnW_of (by kernel_rfl) (sumH_c (s.at i hL) hn fun w' e => h w' (s.ext0 e))
theorem Sep.hlen {S : List Nat} {w0 w : World} {L R : List Res} {K : VPost} {p : Nat} {F : List Nat} {a : Bytes} (s : Sep S w0 w L R) (i : Nat) (hL : L[i]? = some (rH p F (hm a))) (h : K (.int .i64 a.length) w) :
    fnW Try.prog 44 #[.pointer (some ⟨p, 0, none⟩)] w K :=
  fnW_of (by kernel_rfl) (lenH_c (s.at i hL) h)
theorem Sep.hnew {S : List Nat} {w0 w : World} {L R : List Res} {K : VPost} (s : Sep S w0 w L R) (h : ∀ p F w', Sep S w0 w' (rH p F (hm []) :: L) R → (∀ b ∈ F, w.heap.size ≤ b) → K (.pointer (some ⟨p, 0, none⟩)) w') :
    fnW Try.prog 42 #[] w K :=
  fnW_of (by kernel_rfl) (newH_c fun p F w' hh e hF => h p F w' (s.add (T := rH p F (hm [])) hh e hF) hF)
theorem Sep.hfork {S : List Nat} {w0 w : World} {L R : List Res} {K : VPost} {p : Nat} {F : List Nat} {a : Bytes} (s : Sep S w0 w L R) (i : Nat) (hL : L[i]? = some (rH p F (hm a))) (h : ∀ q G w', Sep S w0 w' (rH q G (hm a) :: L) R → (∀ b ∈ G, w.heap.size ≤ b) → K (.pointer (some ⟨q, 0, none⟩)) w') :
    fnW Try.prog 47 #[.pointer (some ⟨p, 0, none⟩)] w K :=
  fnW_of (by kernel_rfl) (forkH_c (s.at i hL) (by have := hm_rest a; omega) fun q G w' hh e hG => h q G w' (s.add (T := rH q G (hm a)) hh e hG) hG)

theorem rdB_slB {v : Value} {ys : List Value} {b : Nat} (h : b ∈ rdB v ys) : b ∈ slB v := by
  unfold rdB at h
  split at h
  · cases h
  · exact h

set_option maxHeartbeats 1000000 in
theorem alive1_c {w : World} {K : VPost} (hK : ∀ w', Ext [] w w' → K (.bool true) w') : Calls Try.prog 40 #[] w (retK K) := by
  refine c40_calls w K ?_
  unfold c40
  refine (Sep.nil w).litB [97, 98, 99] rfl (by decide) fun v5 w1 s _ _ => ?_
  refine fnW_of (by kernel_rfl) (sum_c (OwnAt.rd (s.at 0 rfl)) (OwnAt.cap (s.at 0 rfl)) (by decide) fun w2 e => ?_)
  have s := (s.ext0 e).drop 0
  have s : Sep [] w w2 [] [] := s
  have hl1 : (bc (digest [97, 98, 99])).length = 32 := by rw [bc_length, digest_length]
  have hl2 : (bc (digest [])).length = 32 := by rw [bc_length, digest_length]
  refine s.alloc zero_dig cells_dig fun b1 w3 s _ => ?_
  refine s.storeAll 0 rfl hl1 rfl (bc_one _) fun w4 s _ => ?_
  refine fnW_of (by kernel_rfl) (sum_c (b := []) (x := .slice none 0 0) ⟨rfl, .inl ⟨rfl, _, _, rfl⟩⟩ rfl (by decide) fun w5 e => ?_)
  have s := s.ext0 e
  refine s.alloc zero_dig cells_dig fun b2 w6 s _ => ?_
  refine s.storeAll 0 rfl hl2 rfl (bc_one _) fun w7 s _ => ?_
  refine s.hnew fun p F w8 s hF => ?_
  rw [ptr_eql_nil und_phash, condW_f]
  refine s.litB [97] rfl (by decide) fun x1 w9 s e1 _ => ?_
  refine s.litB [98, 99] rfl (by decide) fun x2 w10 s e2 _ => ?_
  have s : Sep [] w w10 [rO x2 5 1 (bc [98, 99]) 2, rO x1 5 1 (bc [97]) 1, rH p F (hm []), rB b2 (bc (digest [])) 62, rB b1 (bc (digest [97, 98, 99])) 62] [] := s
  have hd1 : ∀ c ∈ F, c ∉ slB x1 ∧ c ∉ slB x2 := by
    have h := List.pairwise_cons.1 s.dis
    have h2 := List.pairwise_cons.1 h.2
    exact fun c hc => ⟨fun hcm => h2.1 (rH p F (hm [])) (by simp) c hcm hc, fun hcm => h.1 (rH p F (hm [])) (by simp) c hcm hc⟩
  refine s.hwrite (vs := [x1, x2]) (ls := [[97], [98, 99]]) 2 rfl rfl ⟨⟨OwnAt.rd (s.at 1 rfl), OwnAt.cap (s.at 1 rfl)⟩, ⟨OwnAt.rd (s.at 0 rfl), OwnAt.cap (s.at 0 rfl)⟩, trivial⟩ (fun c hc hcm => ?_) (by simp) (by decide) fun F2 t u w11 s => ?_
  · simp only [rowsF, List.append_nil, List.mem_append] at hcm
    rcases hcm with hcm | hcm
    · exact (hd1 c hc).1 (rdB_slB hcm)
    · exact (hd1 c hc).2 (rdB_slB hcm)
  have s := (s.drop 0).drop 0
  have s : Sep [] w w11 [rH p F2 (hm [97, 98, 99]), rB b2 (bc (digest [])) 62, rB b1 (bc (digest [97, 98, 99])) 62] [] := s
  refine s.hfork 0 rfl fun q G w12 s hG => ?_
  rw [ptr_eql_nil und_phash, condW_f]
  refine s.litB [100] rfl (by decide) fun x3 w13 s e3 _ => ?_
  have hd3 : ∀ c ∈ G, c ∉ slB x3 := fun c hc hcm => (List.pairwise_cons.1 s.dis).1 (rH q G (hm [97, 98, 99])) (by simp) c hcm hc
  refine s.hwrite (vs := [x3]) (ls := [[100]]) 1 rfl rfl ⟨⟨OwnAt.rd (s.at 0 rfl), OwnAt.cap (s.at 0 rfl)⟩, trivial⟩ (fun c hc hcm => ?_) (by simp) (by decide) fun G2 t u w14 s => ?_
  · simp only [rowsF, List.append_nil] at hcm
    exact hd3 c hc (rdB_slB hcm)
  have s := s.drop 0
  have s : Sep [] w w14 [rH q G2 (hm [97, 98, 99, 100]), rH p F2 (hm [97, 98, 99]), rB b2 (bc (digest [])) 62, rB b1 (bc (digest [97, 98, 99])) 62] [] := s
  have s := s.drew
  generalize w14.drew = w15 at *
  refine slA_to (k := 4) (by decide) ?_
  refine s.litB [0xba, 0x78, 0x16, 0xbf] rfl (by decide) fun x4 w16 s _ _ => ?_
  refine fnW_of (by kernel_rfl) (sameBytes_c (Blk.rdTo (s.at 4 rfl) (digest_length _) (by decide)) (OwnAt.rd (s.at 0 rfl)) (by rw [dig_abc]; decide) fun w17 e => ?_)
  rw [dig_abc]
  have s := (s.ext0 e).drop 0
  have s : Sep [] w w17 [rH q G2 (hm [97, 98, 99, 100]), rH p F2 (hm [97, 98, 99]), rB b2 (bc (digest [])) 62, rB b1 (bc (digest [97, 98, 99])) 62] [] := s
  have ht : decide (([0xba, 0x78, 0x16, 0xbf] : Bytes) = [0xba, 0x78, 0x16, 0xbf]) = true := decide_eq_true rfl
  rw [ht]
  refine gs_t ?_
  refine slA_to (k := 4) (by decide) ?_
  refine gs_t ?_
  refine s.litB [0xe3, 0xb0, 0xc4, 0x42] rfl (by decide) fun x4 w18 s _ _ => ?_
  refine gs_t ?_
  refine fnW_of (by kernel_rfl) (sameBytes_c (Blk.rdTo (s.at 3 rfl) (digest_length _) (by decide)) (OwnAt.rd (s.at 0 rfl)) (by rw [dig_nil]; decide) fun w19 e => ?_)
  rw [dig_nil]
  have s := (s.ext0 e).drop 0
  have s : Sep [] w w19 [rH q G2 (hm [97, 98, 99, 100]), rH p F2 (hm [97, 98, 99]), rB b2 (bc (digest [])) 62, rB b1 (bc (digest [97, 98, 99])) 62] [] := s
  have ht : decide (([0xe3, 0xb0, 0xc4, 0x42] : Bytes) = [0xe3, 0xb0, 0xc4, 0x42]) = true := decide_eq_true rfl
  rw [ht, pickW_t]
  refine gs_t ?_
  refine gs_t ?_
  refine s.loadAll 3 rfl hl1 ?_
  refine gs_t ?_
  refine s.hsum 1 rfl (by decide) fun w20 s => ?_
  refine ⟨gs_t (s.loadAll 3 rfl hl1 ⟨rfl, rfl⟩), ?_⟩
  refine gs_t ?_
  refine dig_eql (digest_length _) (digest_length _) ?_
  refine ⟨rfl, ?_⟩
  rw [decide_eq_true rfl, pickW_t]
  refine gs_t ?_
  refine gs_t ?_
  refine s.hlen 1 rfl ?_
  refine gs_t ?_
  refine neql (x := 3) (y := 3) ?_
  rw [decide_eq_true rfl, pickW_t]
  refine gs_t ?_
  refine gs_t ?_
  refine s.hlen 0 rfl ?_
  refine gs_t ?_
  refine neql (x := 4) (y := 4) ?_
  rw [decide_eq_true rfl, pickW_t]
  refine gs_t ?_
  refine gs_t ?_
  refine s.loadAll 3 rfl hl1 ?_
  refine gs_t ?_
  refine s.hsum 0 rfl (by decide) fun w21 s => ?_
  refine ⟨gs_t (s.loadAll 3 rfl hl1 ⟨rfl, rfl⟩), ?_⟩
  refine gs_t ?_
  refine dig_neq (digest_length _) (digest_length _) ?_
  refine ⟨rfl, ?_⟩
  rw [decide_eq_false dig_ne, Bool.not_false, pickW_t]
  refine gs_t ?_
  refine fnW_of (by kernel_rfl) (pad_c 0 (fun hh => absurd ⟨by decide, by decide⟩ hh) fun _ v w22 hv e hvn => ?_)
  obtain ⟨va, vc, hva⟩ := (OwnAt.rd hv).len
  refine gs_t ?_
  rw [hva, len_s]
  refine gs_t ?_
  have hp64 : (padM (0 : Int).toNat).length = 64 := by decide +kernel
  rw [hp64]
  refine neql (x := 64) (y := 64) ?_
  rw [decide_eq_true rfl, pickW_t]
  exact hK _ (s.ext0 e).ext
end Go.Proofs.Ytedebapgmfnflaa
