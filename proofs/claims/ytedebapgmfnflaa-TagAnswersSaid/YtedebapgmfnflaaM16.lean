/- Digests in rising order, each once, and the digest of a set: the walks of the program's. Condition: at most 49 digests. -/
import Derived.Test.YtedebapgmfnflaaM15
namespace Go.Proofs.Ytedebapgmfnflaa
open Go
set_option maxRecDepth 100000

theorem sort_c {w : World} {K : VPost} {x : Value} {ds : List Bytes} (hx : RdSl w x 32 (fl ds) ds.length) (hd : ∀ d ∈ ds, d.length = 32) (h50 : ds.length < 50)
    (hK : ∀ v w', OwnAt w' v 62 32 (fl (sortD ds)) (sortD ds).length → Ext [] w w' → (∀ b ∈ slB v, w.heap.size ≤ b) → K v w') : Calls Try.prog 62 #[x] w (retK K) := by
  refine c62_calls _ w K ?_
  unfold c62
  refine fnW_of (by kernel_rfl) (digsClone_c hx (by omega) fun v1 w1 hv1 e1 hf1 => ?_)
  have s := (Sep.nil w).add (T := rDs v1 ds.toArray) hv1 e1 hf1
  refine fnW_of (by kernel_rfl) (sortFunc_c s hd (by simpa using h50) fun u w2 d hde hds h32 s => ?_)
  refine fnW_of (by kernel_rfl) (compact_c s h32 (by rw [hds, List.size_toArray]; omega) fun v2 w3 s => ?_)
  have e : cplN d.toList d.size = sortD ds := by
    unfold sortD
    rw [hds, hde, List.size_toArray]
  rw [e] at s
  exact hK v2 w3 (s.at 0 rfl) s.ext (s.fresh 0 rfl)

theorem sortD_32 {ds : List Bytes} (hd : ∀ d ∈ ds, d.length = 32) : ∀ d ∈ sortD ds, d.length = 32 := fun d h => hd d (((sortD_ok ds).2 d).1 h)
theorem sortD_le (ds : List Bytes) : (sortD ds).length ≤ ds.length := cplN_le _ _
theorem flat32 : ∀ {ds : List Bytes}, (∀ d ∈ ds, d.length = 32) → (frameL ds).length = 36 * ds.length := by
  intro ds h
  induction ds with
  | nil => rfl
  | cons d r ih =>
    rw [frameL_cons, List.length_append, List.length_append, le4_length, ih (fun x hx => h x (by simp [hx])), h d (by simp), List.length_cons]
    omega

set_option maxHeartbeats 1000000 in
theorem set_c {w : World} {K : VPost} {kind : UInt8} {x : Value} {ds : List Bytes} (hx : RdSl w x 32 (fl ds) ds.length) (hd : ∀ d ∈ ds, d.length = 32) (h50 : ds.length < 50)
    (hK : ∀ w', Ext [] w w' → K (.agg (bc (digest (kind :: frameB (sortD ds)))).toArray) w') : Calls Try.prog 64 #[bv kind, x] w (retK K) := by
  refine c64_calls _ _ w K ?_
  unfold c64
  have s := (Sep.zero1 (U := rR x 32 (fl ds) ds.length) hx)
  refine s.alloc zero_dig cells_dig fun b4 w1 s _ => ?_
  have hd2 := sortD_32 hd
  have hle := sortD_le ds
  refine bindX_i fun J0 h0 => bindX_i fun J1 h1 => ?_
  refine fnW_of (by kernel_rfl) (sort_c (s.rat 0 rfl) hd h50 fun v w2 hv e hf => ?_)
  have s := s.add (T := rO v 62 32 (fl (sortD ds)) (sortD ds).length) hv e hf
  have s := s.freeze 0 rfl (T' := rR v 32 (fl (sortD ds)) (sortD ds).length) hv.rd (fun b hb => by
    have hb : b ∈ rdB v (fl (sortD ds)) := hb
    unfold rdB at hb
    split at hb
    · cases hb
    · exact hb)
  generalize sortD ds = ls at *
  obtain ⟨va, vc, hva⟩ := hv.rd.len
  have hlen : ∀ (w : World) (K : VPost), lenW Try.prog (some true) #[75] 3 #[v] w K = K (.int .i64 ls.length) w := fun w K => by rw [hva, len_s]
  have hfl := flat32 hd2
  rw [hlen]
  refine bindX_i fun J2 h2 => ?_
  have s := s.add (T := rO (.slice none 0 0) 34 1 [] 0) (.inl ⟨rfl, rfl, rfl⟩) (Ext.refl _ _) (by simp [rO, slB])
  have s := s.add (T := rL [] []) trivial (Ext.refl _ _) (by simp [rL, rowsF])
  have s : Sep [] w w2 [rL [] [], rO (.slice none 0 0) 34 1 [] 0, rB b4 (bc (List.replicate 32 0)) 62] [rR v 32 (fl ls) ls.length, rR x 32 (fl ds) ds.length] := s
  refine loop_i (fun m fr wr => ∃ (i : Nat) (v1 : Value) (hs : List Value), m = ls.length - i ∧ i ≤ ls.length ∧ hs.length = i ∧ fr 0 = bv kind ∧ fr 4 = .pointer (some ⟨b4, 0, none⟩) ∧ fr 5 = v1 ∧ fr 9 = v ∧ fr 10 = .int .i64 ls.length ∧ fr 11 = .int .i64 i ∧
    Sep [] w wr [rL hs (ls.take i), rO v1 34 1 hs i, rB b4 (bc (List.replicate 32 0)) 62] [rR v 32 (fl ls) ls.length, rR x 32 (fl ds) ds.length]) ls.length ?_ ?_
  · exact ⟨0, _, [], rfl, by omega, rfl, rfl, rfl, rfl, rfl, rfl, rfl, s⟩
  · rintro m fr wr J ⟨i, v1, hs, rfl, hi, hhs, f0, f4, f5, f9, f10, f11, s⟩ hJ hX
    rw [f9, f10, f11]
    refine nlss (cond_d (fun hlt => ?_) (fun hlt => ?_))
    · have hrd : RdSl wr v 32 (fl ls) ls.length := s.rat 0 rfl
      obtain ⟨b, o, cs, hix, hrb, hle2, hel⟩ := RdSl.elem hrd hlt (by decide) .i64
      refine hix _ ?_
      refine loadN hrb hle2 ?_
      rw [hel, fl_get hd2 hlt]
      have hl32 : ls[i].length = 32 := hd2 _ (List.getElem_mem hlt)
      refine s.alloc zero_dig cells_dig fun b7 w3 s _ => ?_
      refine s.storeAll 0 rfl (by rw [bc_length]; exact hl32) (by simp [bc]) (bc_one _) fun w4 s _ => ?_
      refine slArr_i ?_
      have r1 : RdSl w4 (.slice (some ⟨b7, 0, none⟩) 32 32) 1 (bc (ls[i].take 32)) (ls[i].take 32).length := Blk.rdTo (s.at 0 rfl) hl32 (by decide)
      rw [List.take_of_length_le (by omega)] at r1
      refine fnW_of (by kernel_rfl) (bytesClone_c (l := ls[i]) r1 (by omega) fun v4 w5 hv4 e3 hf4 => ?_)
      have s := s.add (T := rO v4 5 1 (bc ls[i]) ls[i].length) hv4 e3 hf4
      have s := s.drop 1
      have s : Sep [] w w5 [rO v4 5 1 (bc ls[i]) ls[i].length, rL hs (ls.take i), rO v1 34 1 hs i, rB b4 (bc (List.replicate 32 0)) 62] [rR v 32 (fl ls) ls.length, rR x 32 (fl ds) ds.length] := s
      have hrl : RowsL w5 hs (ls.take i) := s.at 1 rfl
      have htk : ls.take (i + 1) = ls.take i ++ [ls[i]] := List.take_succ_eq_append_getElem hlt
      have hhl : hs.length = (ls.take i).length := by rw [List.length_take]; omega
      have s := s.join (T := rL (hs ++ [v4]) (ls.take (i + 1))) (by rw [htk]; exact RowsL.append (OwnAt.rd hv4) (OwnAt.cap hv4) hrl) (by
        intro b hb
        rw [htk] at hb
        have hb : b ∈ rowsF (hs ++ [v4]) (ls.take i ++ [ls[i]]) := hb
        rw [rowsF_snoc hhl] at hb
        rcases List.mem_append.1 hb with h | h
        · exact .inr h
        · exact .inl (rdB_slB (ys := bc ls[i]) h))
      rw [f5]
      obtain ⟨ra, rc, hra⟩ := (OwnAt.rd hv4).len
      refine s.addRow (v := v1) (hs := hs) (n := i) 1 rfl hra (by omega) fun t v2 w6 s => ?_
      refine nadd (y := 1) (by omega) ?_
      exact hJ (ls.length - (i + 1)) _ _ (by omega) ⟨i + 1, v2, hs ++ [v4], rfl, by omega, by simp [hhs], f0, f4, rfl, f9, f10, rfl, s⟩
    · obtain rfl : i = ls.length := by omega
      refine hX _ _ _ (by simp) (h2 _ _ _ (blk_x (seq_n h1 ?_)))
      rw [List.take_length] at s
      have h1' : OwnAt wr v1 34 1 hs ls.length := s.at 1 rfl
      have h2' : RowsL wr hs ls := s.at 0 rfl
      show fnW _ _ #[fr 0, fr 5] wr _
      rw [f0, f5]
      refine fnW_of (by kernel_rfl) (node_c (hs := hs) (ls := ls) ⟨by rw [hhs]; exact h1'.rd, h2'⟩ (by omega) fun w5 e => ?_)
      have s := s.ext0 e
      have hdl := digest_length (kind :: frameB ls)
      generalize digest (kind :: frameB ls) = dg at *
      show storeW (some (true, 32)) (fr 4) _ w5 (fun w8 => loadW (some (true, 32)) (fr 4) w8 fun r9 _ => K r9 w8)
      rw [f4]
      refine s.storeAll 2 rfl (by rw [bc_length]; exact hdl) (by simp [bc]) (bc_one _) fun w7 s _ => ?_
      refine s.loadAll 2 rfl (by rw [bc_length]; exact hdl) ?_
      exact hK w7 s.ext
end Go.Proofs.Ytedebapgmfnflaa
