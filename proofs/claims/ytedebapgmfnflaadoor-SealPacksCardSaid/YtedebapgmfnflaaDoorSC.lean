/- Digests, hashes and literal bytes in hand. -/
import Derived.Test.YtedebapgmfnflaaDoorSB
namespace Go.Proofs.YtedebapgmfnflaaDoor
open Go
set_option maxRecDepth 100000

theorem und_rows : Tryd.prog.underlying 45 = some (.slice 22) := by kernel_rfl

section
variable {S : List Nat} {w0 w : World} {L R : List Res} {K : Value → VPost}
theorem und_phash : Tryd.prog.underlying 204 = some (.pointer 229) := by kernel_rfl
/-- Some rows, written at once. -/
theorem Sep.hwrite {vs : List Value} {ls : List Bytes} {p : Nat} {F : List Nat} {a : Bytes} {parts : List (Nat × Value)} (s : Sep S w0 w L R) (i : Nat) (hL : L[i]? = some (rH p F (hm a))) (hp : parts = enumV 0 vs) (hv : RowsL w vs ls) (hd : ∀ c ∈ F, c ∉ rowsF vs ls) (hlen : vs.length ≤ 100) (hn : a.length + ls.flatten.length ≤ 2 ^ 37)
    (h : ∀ F' t u w', Sep S w0 w' (L.set i (rH p F' (hm (a ++ ls.flatten)))) R → K t u w') :
    insW Tryd.prog (Instr.buildSlice 45 vs.length parts.toArray) w fun t w' => fnW Tryd.prog 171 #[.pointer (some ⟨p, 0, none⟩), t] w' (K t) := by
  obtain ⟨ti, hi, hz, hs, hby⟩ := tyI_spec (by kernel_rfl : tyI Tryd.prog 22 = some (.slice none 0 0, 1, 24))
  have hcells : ∀ {vs : List Value} {ls : List Bytes}, RowsL w vs ls → ∀ v ∈ vs, v.cells = #[v] := by
    intro vs
    induction vs with
    | nil => intro ls _ v hv; cases hv
    | cons x r ih =>
      intro ls hr v hv
      cases ls with
      | nil => exact hr.elim
      | cons l ls =>
        rcases List.mem_cons.1 hv with rfl | hv
        · obtain ⟨a, c, rfl⟩ := hr.1.1.len; rfl
        · exact ih hr.2 v hv
  have hflat : flatV vs = vs := by
    have : ∀ l : List Value, (∀ v ∈ l, v.cells = #[v]) → flatV l = l := by
      intro l
      induction l with
      | nil => intro _; rfl
      | cons x r ih =>
        intro hl
        have e : flatV (x :: r) = x.cells.toList ++ flatV r := by simp [flatV]
        rw [e, ih (fun v hv => hl v (List.mem_cons_of_mem _ hv)), hl x List.mem_cons_self]; rfl
    exact this vs (hcells hv)
  refine s.lit (vs := vs) und_rows hi hz hp (by intro y hy; rw [hs, hcells hv y hy]; rfl) (by rw [hs]; omega) fun t w3 s3 ht e3 => ?_
  rw [hs, hflat] at s3
  have hdis := (List.pairwise_cons.1 s3.dis).1 (rH p F (hm a)) (List.mem_of_getElem? hL)
  have hv3 := hv.keep e3 (by simp)
  refine fnW_of (by kernel_rfl) (writeH_c (hs := vs) (ls := ls) (s3.at (i + 1) (by simpa using hL)) ⟨OwnAt.rd (s3.at 0 rfl), hv3⟩ (fun c hcF hcm => ?_) hn (by rw [← hv.length]; omega) fun F2 w4 h2 m2 => ?_)
  · rcases List.mem_append.1 hcm with hcm | hcm
    · refine hdis c ?_ hcF
      show c ∈ slB t
      unfold rdB at hcm
      split at hcm
      · cases hcm
      · exact hcm
    · exact hd c hcF hcm
  · have s4 := s3.upd (T := rH p F (hm a)) (i + 1) (by simpa using hL) (T' := rH p F2 (hm (a ++ ls.flatten))) h2 m2.ext m2.own
    exact h F2 t _ w4 (s4.drop 0)
end

theorem ty_b64 : tyI Tryd.prog 36 = some (.agg (Array.replicate 64 (.int .u8 0)), 64, 64) := by kernel_rfl
theorem zero_b64 : zeroO Tryd.prog 36 = some (.agg (Array.replicate 64 (.int .u8 0))) := by kernel_rfl
theorem cells_b64 : (Value.agg (Array.replicate 64 (.int .u8 0))).cells.toList = bc (List.replicate 64 0) := by rw [bc_zeros]; simp [Value.cells]
theorem build0_b64 {w : World} {K : VPost} (h : K (.agg (bc (List.replicate 64 0)).toArray) w) : insW Tryd.prog (Instr.build 36 #[]) w K := by
  obtain ⟨ti, hi, hz, hs, hb⟩ := tyI_spec ty_b64
  obtain ⟨ui, hui, huz, husz, huby⟩ := tyI_spec ty_u8
  refine buildA_i (parts := []) (by kernel_rfl : Tryd.prog.underlying 36 = some (.array 64 5)) hi hz hui ?_ h
  rw [← cells_b64]; rfl

/-- Two digests, compared. -/
theorem dig_eql {w : World} {K : VPost} {c : Bool} {a b : Bytes} (ha : a.length = 32) (hb : b.length = 32) (h : K (.bool (decide (a = b))) w) : binW Tryd.prog .eql 77 c (.agg (bc a).toArray) (.agg (bc b).toArray) w K := by
  obtain ⟨ui, hui, huz, husz, huby⟩ := tyI_spec ty_u8
  rw [bc_ints a, bc_ints b, bin_ints_eql (by kernel_rfl : Tryd.prog.underlying 77 = some (.array 32 5)) hui (by kernel_rfl) (by kernel_rfl) (by kernel_rfl) (by kernel_rfl) _ _ (by simpa using ha) (by simpa using hb)]
  simpa only [ints_inj] using h
theorem dig_neq {w : World} {K : VPost} {c : Bool} {a b : Bytes} (ha : a.length = 32) (hb : b.length = 32) (h : K (.bool (!decide (a = b))) w) : binW Tryd.prog .neq 77 c (.agg (bc a).toArray) (.agg (bc b).toArray) w K := by
  obtain ⟨ui, hui, huz, husz, huby⟩ := tyI_spec ty_u8
  rw [bc_ints a, bc_ints b, bin_ints_neq (by kernel_rfl : Tryd.prog.underlying 77 = some (.array 32 5)) hui (by kernel_rfl) (by kernel_rfl) (by kernel_rfl) (by kernel_rfl) _ _ (by simpa using ha) (by simpa using hb)]
  simpa only [ints_inj] using h
/-- Literal bytes. -/
theorem Sep.litB {S : List Nat} {w0 w : World} {L R : List Res} {K : VPost} (s : Sep S w0 w L R) (l : Bytes) {parts : List (Nat × Value)} (hp : parts = enumV 0 (bc l)) (hl : l.length ≤ 1000)
    (h : ∀ v' w', Sep S w0 w' (rO v' 5 1 (bc l) l.length :: L) R → slB v' = [w.heap.size] → Ext [] w w' → K v' w') : insW Tryd.prog (Instr.buildSlice 22 l.length parts.toArray) w K := by
  obtain ⟨ui, hui, huz, husz, huby⟩ := tyI_spec ty_u8
  have hlen : (bc l).length = l.length := bc_length l
  have hc : ∀ v ∈ bc l, v.cells.size = ui.size := by
    intro v hv
    obtain ⟨b, _, rfl⟩ := List.mem_map.1 hv
    rw [husz]; rfl
  have hf : flatV (bc l) = bc l := by
    have : ∀ l : Bytes, flatV (bc l) = bc l := by
      intro l
      induction l with
      | nil => rfl
      | cons b r ih =>
        have e : flatV (bc (b :: r)) = (bv b).cells.toList ++ flatV (bc r) := by simp [flatV, bc]
        rw [e, ih]; rfl
    exact this l
  have := s.lit (K := K) (vs := bc l) und_u8s hui huz hp hc (by rw [hlen, husz]; omega) (fun t w' s' ht e => by
    rw [hlen, husz, hf] at s'
    exact h t w' s' ht e)
  rw [hlen] at this
  exact this
/-- The beginning of an array, as a slice. -/
theorem Blk.rdTo {w : World} {b n k : Nat} {l : Bytes} {t : TypeId} (h : Blk w b (bc l) t) (hl : l.length = n) (hk : k ≤ n) : RdSl w (.slice (some ⟨b, 0, none⟩) k n) 1 (bc (l.take k)) (l.take k).length := by
  have hlen : (l.take k).length = k := by rw [List.length_take]; omega
  rw [hlen]
  refine ⟨by rw [bc_length, hlen, Nat.mul_one], .inr ⟨b, 0, n, _, rfl, h.r, ?_, by rw [bc_length]; omega⟩⟩
  rw [bc_part, List.drop_zero, Nat.mul_one]
theorem Sep.hsum {S : List Nat} {w0 w : World} {L R : List Res} {K : VPost} {p : Nat} {F : List Nat} {a : Bytes} (s : Sep S w0 w L R) (i : Nat) (hL : L[i]? = some (rH p F (hm a))) (hn : a.length ≤ 2 ^ 36) (h : ∀ w', Sep S w0 w' L R → K (.agg (bc (digest a)).toArray) w') :
    fnW Tryd.prog 172 #[.pointer (some ⟨p, 0, none⟩)] w K :=
  fnW_of (by kernel_rfl) (sumH_c (s.at i hL) hn fun w' e => h w' (s.ext0 e))
theorem Sep.hnew {S : List Nat} {w0 w : World} {L R : List Res} {K : VPost} (s : Sep S w0 w L R) (h : ∀ p F w', Sep S w0 w' (rH p F (hm []) :: L) R → (∀ b ∈ F, w.heap.size ≤ b) → K (.pointer (some ⟨p, 0, none⟩)) w') :
    fnW Tryd.prog 170 #[] w K :=
  fnW_of (by kernel_rfl) (newH_c fun p F w' hh e hF => h p F w' (s.add (T := rH p F (hm [])) hh e hF) hF)
theorem Sep.hfork {S : List Nat} {w0 w : World} {L R : List Res} {K : VPost} {p : Nat} {F : List Nat} {a : Bytes} (s : Sep S w0 w L R) (i : Nat) (hL : L[i]? = some (rH p F (hm a))) (h : ∀ q G w', Sep S w0 w' (rH q G (hm a) :: L) R → (∀ b ∈ G, w.heap.size ≤ b) → K (.pointer (some ⟨q, 0, none⟩)) w') :
    fnW Tryd.prog 200 #[.pointer (some ⟨p, 0, none⟩)] w K :=
  fnW_of (by kernel_rfl) (forkH_c (s.at i hL) (by have := hm_rest a; omega) fun q G w' hh e hG => h q G w' (s.add (T := rH q G (hm a)) hh e hG) hG)
theorem rdB_slB {v : Value} {ys : List Value} {b : Nat} (h : b ∈ rdB v ys) : b ∈ slB v := by
  unfold rdB at h
  split at h
  · cases h
  · exact h
end Go.Proofs.YtedebapgmfnflaaDoor
