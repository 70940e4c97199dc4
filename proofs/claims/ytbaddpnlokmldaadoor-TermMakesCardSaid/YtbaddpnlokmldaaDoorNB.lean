/- Strings as bytes and back. -/
import Derived.Test.YtbaddpnlokmldaaDoorNA
import Derived.Laws.IdiomStrings
import Derived.Lib.ConvBytes
import Derived.Lib.Strings
namespace Go.Proofs.YtbaddpnlokmldaaDoor
open Go
set_option maxRecDepth 100000

theorem RBlk.cellAt {w : World} {b j : Nat} {cs : List Value} {v : Value} (h : RBlk w b cs) (hv : cs[j]? = some v) : w.cell? ⟨b, j, none⟩ = some v := by
  obtain ⟨t, fz, h⟩ := h
  simp [World.cell?, h, hv]
theorem Ext.freeze (w : World) (g o n : Nat) : Ext [g] w (w.freeze ⟨g, o, none⟩ n) := by
  unfold World.freeze
  split
  · exact Ext.refl _ _
  · exact ⟨rfl, rfl, rfl, by simp, fun b _ hb => by
      simp only [List.mem_singleton] at hb
      simp only [Array.getElem?_modify]
      rw [if_neg (fun e => hb e.symm)]⟩

theorem Ext.allocD (w : World) (o : Obj) : Ext [] w (w.drew.alloc o) := by
  refine ⟨rfl, rfl, rfl, ?_, fun b hb _ => ?_⟩
  · show w.heap.size ≤ (w.heap.push o).size
    simp
  · show (w.heap.push o)[b]? = w.heap[b]?
    rw [Array.getElem?_push]
    rw [if_neg (by omega)]
theorem conv_sb {P : Program} {w : World} {K : VPost} {src dst e : TypeId} {l : Bytes} (hs : P.underlying src = some .string) (hd : P.underlying dst = some (.slice e)) (he : P.underlying e = some (.int .u8))
    (hK : ∀ v w', RdSl w' v 1 (bc l) l.length → capOk v → Ext [] w w' → (∀ b ∈ slB v, w.heap.size ≤ b) → K v w') : insW P (convert src dst (.string ⟨l.toArray⟩)) w K := by
  have hr := Lib.run_convert_string_bytes (P := P) w src dst e ⟨l.toArray⟩ hs hd he
  have hsz : (ByteArray.mk l.toArray).size = l.length := by show l.toArray.size = _; rw [List.size_toArray]
  have hcells : (Lib.bytesCells w e ⟨l.toArray⟩).toList = bc l ++ List.replicate (grownCap w l.length 0 e - l.length) (.int .u8 0) := by
    unfold Lib.bytesCells
    rw [hsz]
    simp [bc, bv]
  refine insW_ok hr (hK _ _ ?_ ?_ ?_ ?_)
  · rw [hsz]
    refine ⟨by rw [bc_length, Nat.mul_one], .inr ⟨_, _, _, (Lib.bytesCells w e ⟨l.toArray⟩).toList, rfl, ⟨e, ((Lib.bytesCells w e ⟨l.toArray⟩).size, (Lib.bytesCells w e ⟨l.toArray⟩).size + 1), ?_⟩, ?_, ?_⟩⟩
    · rw [Array.toArray_toList]
      exact Lib.bytesWorld_at_new w e ⟨l.toArray⟩
    · rw [hcells, List.drop_zero, Nat.mul_one]
      rw [← bc_length l, List.take_left]
    · rw [hcells]; simp [bc]
  · rw [hsz]
    exact grownCap_ge _ _ _ _
  · have e1 := Ext.allocD w (.cells (Lib.bytesCells w e ⟨l.toArray⟩) e)
    have e2 := Ext.freeze (w.drew.alloc (.cells (Lib.bytesCells w e ⟨l.toArray⟩) e)) w.heap.size (Lib.bytesCells w e ⟨l.toArray⟩).size 1
    refine ⟨e2.os.trans e1.os, e2.tape.trans e1.tape, e2.output.trans e1.output, Nat.le_trans e1.size e2.size, fun b hb h0 => ?_⟩
    refine (e2.same b (Nat.lt_of_lt_of_le hb e1.size) ?_).trans (e1.same b hb h0)
    rw [List.mem_singleton]
    omega
  · intro b hb
    simp [slB] at hb
    omega
theorem conv_bs {P : Program} {w : World} {K : VPost} {src dst e : TypeId} {v : Value} {l : Bytes} (hs : P.underlying src = some (.slice e)) (he : P.underlying e = some (.int .u8)) (hd : P.underlying dst = some .string)
    (hv : RdSl w v 1 (bc l) l.length) (hK : K (.string ⟨l.toArray⟩) w) : insW P (convert src dst v) w K := by
  obtain ⟨hl, ⟨h0, a, c, rfl⟩ | ⟨b, o, c, cs, rfl, hb, ht, hle⟩⟩ := hv
  · have hl : l = [] := by cases l with
      | nil => rfl
      | cons x r => simp [bc] at h0
    subst hl
    refine insW_ok (v := .string ⟨#[]⟩) (w' := w) ?_ hK
    rw [run_convert_bytes_string w src dst e a _ c hs he hd]
    cases a with
    | none => rfl
    | some a => exact run_bytesToString w a 0 c [] (by rfl)
  · refine insW_ok (run_convert_bytes_back w src dst e ⟨b, o, none⟩ c l hs he hd fun j hj => ?_) hK
    rw [add_addr]
    refine hb.cellAt ?_
    have h2 : ((cs.drop o).take (l.length * 1))[j]? = (bc l)[j]? := by rw [ht]
    rw [List.getElem?_take_of_lt (by omega), List.getElem?_drop] at h2
    rw [h2]
    simp [bc, bv, hj]
theorem und_str : Tryd.prog.underlying 9 = some .string := by kernel_rfl
def sv (l : Bytes) : Value := .string ⟨l.toArray⟩

section
variable {P : Program} {w : World} {K : VPost} {t : TypeId} {c : Bool}

theorem bl_list (a : Bytes) : (ByteArray.mk a.toArray).toList = a := by rw [Lib.toList_data]
theorem str_eql {a b : Bytes} (h : K (.bool (decide (a = b))) w) : binW P .eql t c (.string ⟨a.toArray⟩) (.string ⟨b.toArray⟩) w K := by
  have e : (Op.stringOp .eql ⟨a.toArray⟩ ⟨b.toArray⟩).run P w = .ok (.bool (decide (a = b))) w := by
    simp only [Op.stringOp, bl_list, Sem.run_pure]
    congr 2
    by_cases h : a = b <;> simp [h]
  unfold binW insW binE
  rw [Sem.run_bind]
  have hg : (guardE .eql t c (.string ⟨a.toArray⟩) (.string ⟨b.toArray⟩)).run P w = .ok () w := by cases c <;> rfl
  rw [hg, Result.andThen_ok]
  show okW K ((Op.stringOp .eql ⟨a.toArray⟩ ⟨b.toArray⟩).run P w)
  rw [e]
  exact h

end

theorem ixv_s {l : Bytes} {k : IntKind} {i : Nat} {w : World} {K : VPost} (hi : i < l.length) (hK : K (bv l[i]) w) : ixvW .str (.string ⟨l.toArray⟩) (.int k i) w K := by
  refine ⟨by omega, l[i], ?_, hK⟩
  rw [Int.toNat_natCast]
  show (ByteArray.mk l.toArray)[i]? = _
  have hs : (ByteArray.mk l.toArray).size = l.length := by show l.toArray.size = _; rw [List.size_toArray]
  rw [getElem?_pos (ByteArray.mk l.toArray) i (by rw [hs]; exact hi)]
  rfl
end Go.Proofs.YtbaddpnlokmldaaDoor
