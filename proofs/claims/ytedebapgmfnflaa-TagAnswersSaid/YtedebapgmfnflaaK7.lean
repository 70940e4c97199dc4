/- Texts: strings as bytes and back; the digest of texts. Condition: at most 2^30 bytes. -/
import Derived.Test.YtedebapgmfnflaaK6
import Derived.Laws.IdiomStrings
import Derived.Lib.ConvBytes
namespace Go.Proofs.Ytedebapgmfnflaa
open Go
set_option maxRecDepth 100000

theorem Ext.allocD (w : World) (o : Obj) : Ext [] w (w.drew.alloc o) := by
  refine ⟨rfl, rfl, rfl, ?_, fun b hb _ => ?_⟩
  · show w.heap.size ≤ (w.heap.push o).size
    simp
  · show (w.heap.push o)[b]? = w.heap[b]?
    rw [Array.getElem?_push]
    rw [if_neg (by omega)]

theorem conv_sb {P : Program} {w : World} {K : VPost} {src dst e : TypeId} {l : Bytes} (hs : P.underlying src = some .string) (hd : P.underlying dst = some (.slice e)) (he : P.underlying e = some (.int .u8))
    (hK : ∀ v w', RdSl w' v 1 (bc l) l.length → capOk v → Ext [] w w' → (∀ b ∈ slB v, w.heap.size ≤ b) → K v w') : insW P (convert src dst (.string ⟨l.toArray⟩)) w K := by
  have hr := Lib.run_convert_string_bytes (P := P) w src dst e ⟨l.toArray⟩ hs hd he
  have hsz : (ByteArray.mk l.toArray).size = l.length := by show l.toArray.size = _; rw [List.size_toArray]
  have hcells : (Lib.bytesCells w e ⟨l.toArray⟩).toList = bc l ++ List.replicate (grownCap w l.length 0 e - l.length) (.int .u8 0) := by
    unfold Lib.bytesCells
    rw [hsz]
    simp [bc, bv]
  refine insW_ok hr (hK _ _ ?_ ?_ ?_ ?_)
  · rw [hsz]
    refine ⟨by rw [bc_length, Nat.mul_one], .inr ⟨_, _, _, (Lib.bytesCells w e ⟨l.toArray⟩).toList, rfl, ⟨e, ((Lib.bytesCells w e ⟨l.toArray⟩).size, (Lib.bytesCells w e ⟨l.toArray⟩).size + 1), ?_⟩, ?_, ?_⟩⟩
    · rw [Array.toArray_toList]
      exact Lib.bytesWorld_at_new w e ⟨l.toArray⟩
    · rw [hcells, List.drop_zero, Nat.mul_one]
      rw [← bc_length l, List.take_left]
    · rw [hcells]; simp [bc]
  · rw [hsz]
    exact grownCap_ge _ _ _ _
  · have e1 := Ext.allocD w (.cells (Lib.bytesCells w e ⟨l.toArray⟩) e)
    have e2 := Ext.freeze (w.drew.alloc (.cells (Lib.bytesCells w e ⟨l.toArray⟩) e)) w.heap.size (Lib.bytesCells w e ⟨l.toArray⟩).size 1
    refine ⟨e2.os.trans e1.os, e2.tape.trans e1.tape, e2.output.trans e1.output, Nat.le_trans e1.size e2.size, fun b hb h0 => ?_⟩
    refine (e2.same b (Nat.lt_of_lt_of_le hb e1.size) ?_).trans (e1.same b hb h0)
    rw [List.mem_singleton]
    omega
  · intro b hb
    simp [slB] at hb
    omega

theorem conv_bs {P : Program} {w : World} {K : VPost} {src dst e : TypeId} {v : Value} {l : Bytes} (hs : P.underlying src = some (.slice e)) (he : P.underlying e = some (.int .u8)) (hd : P.underlying dst = some .string)
    (hv : RdSl w v 1 (bc l) l.length) (hK : K (.string ⟨l.toArray⟩) w) : insW P (convert src dst v) w K := by
  obtain ⟨hl, ⟨h0, a, c, rfl⟩ | ⟨b, o, c, cs, rfl, hb, ht, hle⟩⟩ := hv
  · have hl : l = [] := by cases l with
      | nil => rfl
      | cons x r => simp [bc] at h0
    subst hl
    refine insW_ok (v := .string ⟨#[]⟩) (w' := w) ?_ hK
    rw [run_convert_bytes_string w src dst e a _ c hs he hd]
    cases a with
    | none => rfl
    | some a => exact run_bytesToString w a 0 c [] (by rfl)
  · refine insW_ok (run_convert_bytes_back w src dst e ⟨b, o, none⟩ c l hs he hd fun j hj => ?_) hK
    rw [add_addr]
    refine hb.cellAt ?_
    have h2 : ((cs.drop o).take (l.length * 1))[j]? = (bc l)[j]? := by rw [ht]
    rw [List.getElem?_take_of_lt (by omega), List.getElem?_drop] at h2
    rw [h2]
    simp [bc, bv, hj]

theorem und_str : Try.prog.underlying 9 = some .string := by kernel_rfl
def sv (l : Bytes) : Value := .string ⟨l.toArray⟩

set_option maxHeartbeats 1000000 in
theorem texts_c {w : World} {K : VPost} {kind : UInt8} {v : Value} {ls : List Bytes} (hv : RdSl w v 1 (ls.map sv) ls.length) (hn : (frameL ls).length ≤ 2 ^ 30)
    (hK : ∀ w', Ext [] w w' → K (.agg (bc (digest (kind :: frameB ls))).toArray) w') : Calls Try.prog 72 #[bv kind, v] w (retK K) := by
  refine c72_calls _ _ w K ?_
  unfold c72
  obtain ⟨va, vc, hva⟩ := hv.len
  have hlen : ∀ (w : World) (K : VPost), lenW Try.prog (some true) #[88] 3 #[v] w K = K (.int .i64 ls.length) w := fun w K => by rw [hva, len_s]
  have hfl := frameL_length ls
  refine (Sep.zero1 (U := rR v 1 (ls.map sv) ls.length) hv).alloc zero_dig cells_dig fun b4 w1 s _ => ?_
  refine bindX_i fun J0 h0 => bindX_i fun J1 h1 => ?_
  rw [hlen]
  refine bindX_i fun J2 h2 => ?_
  have s := s.add (T := rO (.slice none 0 0) 34 1 [] 0) (.inl ⟨rfl, rfl, rfl⟩) (Ext.refl _ _) (by simp [rO, slB])
  have s := s.add (T := rL [] []) trivial (Ext.refl _ _) (by simp [rL, rowsF])
  refine loop_i (fun m fr wr => ∃ (i : Nat) (v1 : Value) (hs : List Value), m = ls.length - i ∧ i ≤ ls.length ∧ hs.length = i ∧ fr 0 = bv kind ∧ fr 4 = .pointer (some ⟨b4, 0, none⟩) ∧ fr 5 = v1 ∧ fr 8 = v ∧ fr 9 = .int .i64 ls.length ∧ fr 10 = .int .i64 i ∧
    Sep [] w wr [rL hs (ls.take i), rO v1 34 1 hs i, rB b4 (bc (List.replicate 32 0)) 62] [rR v 1 (ls.map sv) ls.length]) ls.length ?_ ?_
  · exact ⟨0, _, [], rfl, by omega, rfl, rfl, rfl, rfl, rfl, rfl, rfl, s⟩
  · rintro m fr wr J ⟨i, v1, hs, rfl, hi, hhs, f0, f4, f5, f8, f9, f10, s⟩ hJ hX
    rw [f8, f9, f10]
    refine nlss (cond_d (fun hlt => ?_) (fun hlt => ?_))
    · obtain ⟨b, o, hix, hld⟩ := RdSl.get1 (s.rat 0 rfl) (i := i) (by simpa using hlt) .i64
      refine hix _ ?_
      refine hld _ ?_
      rw [List.getElem_map]
      refine conv_sb und_str und_u8s und_u8 fun r w2 hr hcr e hf => ?_
      have s := s.add (T := rR r 1 (bc ls[i]) ls[i].length) hr e (fun b hb => hf b (rdB_slB (ys := bc ls[i]) hb))
      have hrl : RowsL w2 hs (ls.take i) := s.at 1 rfl
      have htk : ls.take (i + 1) = ls.take i ++ [ls[i]] := List.take_succ_eq_append_getElem hlt
      have s := s.join (T := rL (hs ++ [r]) (ls.take (i + 1))) (by rw [htk]; exact RowsL.append hr hcr hrl) (by
        intro b hb
        rw [htk] at hb
        have hb : b ∈ rowsF (hs ++ [r]) (ls.take i ++ [ls[i]]) := hb
        rw [rowsF_snoc (by rw [List.length_take]; omega)] at hb
        rcases List.mem_append.1 hb with h | h
        · exact .inr h
        · exact .inl h)
      rw [f5]
      obtain ⟨ra, rc, hra⟩ := hr.len
      refine s.addRow (v := v1) (hs := hs) (n := i) 1 rfl hra (by omega) fun t v2 w3 s => ?_
      refine nadd (y := 1) (by omega) ?_
      exact hJ (ls.length - (i + 1)) _ _ (by omega) ⟨i + 1, v2, hs ++ [r], rfl, by omega, by simp [hhs], f0, f4, rfl, f8, f9, rfl, s⟩
    · obtain rfl : i = ls.length := by omega
      refine hX _ _ _ (by simp) (h2 _ _ _ (blk_x (seq_n h1 ?_)))
      rw [List.take_length] at s
      have h1' : OwnAt wr v1 34 1 hs ls.length := s.at 1 rfl
      have h2' : RowsL wr hs ls := s.at 0 rfl
      show fnW _ _ #[fr 0, fr 5] wr _
      rw [f0, f5]
      refine fnW_of (by kernel_rfl) (node_c (hs := hs) (ls := ls) ⟨by rw [hhs]; exact h1'.rd, h2'⟩ hn fun w5 e => ?_)
      have s := s.ext0 e
      have hdl := digest_length (kind :: frameB ls)
      generalize digest (kind :: frameB ls) = dg at *
      show storeW (some (true, 32)) (fr 4) _ w5 (fun w8 => loadW (some (true, 32)) (fr 4) w8 fun r9 _ => K r9 w8)
      rw [f4]
      refine s.storeAll 2 rfl (by rw [bc_length]; exact hdl) (by simp [bc]) (bc_one _) fun w7 s _ => ?_
      refine s.loadAll 2 rfl (by rw [bc_length]; exact hdl) ?_
      exact hK w7 s.ext
end Go.Proofs.Ytedebapgmfnflaa
