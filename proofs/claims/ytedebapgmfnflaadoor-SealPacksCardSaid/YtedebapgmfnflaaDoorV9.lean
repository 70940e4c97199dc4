/- alive of law04: its walk. -/
import Derived.Test.YtedebapgmfnflaaDoorV8
namespace Go.Proofs.YtedebapgmfnflaaDoor
open Go
set_option maxRecDepth 100000

section
variable {P : Program} {w : World} {K : VPost}
/-- append onto a slice of the call's own, that begins anywhere. -/
theorem appendO2_i {T T' ty e e' : TypeId} {i : TypeInfo} {z : Value} {v x : Value} {xs ys : List Value} {n m : Nat}
    (hu : P.underlying T = some (.slice e)) (hu' : P.underlying T' = some (.slice e')) (hi : P.info? e = some i) (hz : i.zero = some z) (hzs : z.cells.size = i.size) (hbp : 0 < i.bytes)
    (hv : OwnAt w v e i.size xs n) (hx : RdSl w x i.size ys m) (h1 : ∀ y ∈ ys, y.oneCell' = true) (hsm : (n + m) * i.bytes + 600 * i.bytes ≤ 2 ^ 40)
    (h : ∀ v' w', OwnAt w' v' e i.size (xs ++ ys) (n + m) → Ext (slB v) w w' → (slB v' = slB v ∨ ∃ b', slB v' = [b'] ∧ w.heap.size ≤ b') → RdSl w' v i.size xs n → K v' w') :
    insW P (Builtin.append_ #[T, T'] ty #[v, x]) w K := by
  have out : ∀ base cap, v = .slice base n cap → cap < n + m → xs.length = n * i.size → insW P (Builtin.append_ #[T, T'] ty #[v, x]) w K := by
    intro base cap hb hc hl
    have hrd := hv.rd
    subst hb
    obtain ⟨c', hc', hr⟩ := run_append_out (ty := ty) hu hu' hi hz hbp hrd hx hc hsm
    have hown : OwnSl (w.drew.alloc (.cells (xs.toArray ++ ys.toArray ++ Builtin.zeroCells z.cells (c' - (n + m))) e)) (.slice (some ⟨w.heap.size, 0, none⟩) (n + m) c') e i.size (xs ++ ys) (n + m) := by
      refine .inr ⟨w.heap.size, c', (Builtin.zeroCells z.cells (c' - (n + m))).toList, rfl, ?_, ?_, ?_, hc'⟩
      · show (w.drew.alloc _).heap[w.drew.heap.size]? = _
        rw [alloc_new]
        simp
      · rw [List.length_append, hl, hx.1, Nat.add_mul]
      · simp only [List.length_append, Array.length_toList, zeroCells_size, hzs, hl, hx.1]
        have := Nat.sub_add_cancel hc'
        generalize c' - (n + m) = q at *
        subst this
        rw [Nat.add_mul, Nat.add_mul]; omega
    exact insW_ok hr (h _ _ hown.at ((Ext.drew _ w).new (ext_alloc w.drew _)) (.inr ⟨w.heap.size, rfl, Nat.le_refl _⟩) ((rR _ i.size xs n).keep hrd ((Ext.drew _ w).new (ext_alloc w.drew _) : Ext [] w _) (by simp)))
  rcases hv with ⟨rfl, rfl, rfl⟩ | ⟨b, o, c, cs, rfl, hb, hl, ht, hc, hn⟩
  · by_cases hm : m = 0
    · subst hm
      have hy : ys = [] := by have := hx.1; simpa using this
      subst hy
      have hr := run_append_in (ty := ty) (base := none) (n := 0) (cap := 0) hu hu' hi hx (Nat.le_refl _)
      exact insW_ok hr (h _ _ (.inl ⟨rfl, rfl, rfl⟩) (Ext.refl _ _) (.inl rfl) ⟨by simp, .inl ⟨rfl, _, _, rfl⟩⟩)
    · exact out none 0 rfl (by omega) (by simp)
  · by_cases hcap : n + m ≤ c
    · have hr := run_append_in (ty := ty) (base := some ⟨b, o, none⟩) hu hu' hi hx hcap
      have hlen : o + n * i.size + ys.length ≤ cs.length := by
        have := Nat.mul_le_mul_right i.size hcap
        rw [Nat.add_mul] at this
        rw [hx.1]; omega
      have hst := run_storeCells_at P b (o + n * i.size) e ys 0 cs.toArray w hb (by simpa using hlen) h1
      simp only [add_addr] at hr
      simp only [hst, Result.andThen_ok, setRow_setB hb, Nat.add_zero] at hr
      refine insW_ok hr (h _ _ (.inr ⟨b, o, c, lspl cs (o + n * i.size) ys, rfl, ?_, ?_, ?_, ?_, hcap⟩) (ext_setB w b _) (.inl rfl) ?_)
      · unfold Blk
        show (w.heap.setIfInBounds b _)[b]? = _
        rw [Array.getElem?_setIfInBounds]
        have : b < w.heap.size := hb.lt
        simp only [if_true, this]
        rfl
      · rw [List.length_append, hl, hx.1, Nat.add_mul]
      · rw [Nat.add_mul, ← hx.1, ← hl] at *
        unfold lspl
        rw [List.append_assoc, List.drop_append_of_le_length (by rw [List.length_take]; omega), List.drop_take, show o + xs.length - o = xs.length by omega, ht, ← List.append_assoc, ← List.length_append, List.take_left]
      · rw [lspl_length hlen]; exact hc
      · have hk : o + xs.length ≤ cs.length := by omega
        refine ⟨hl, .inr ⟨b, o, c, lspl cs (o + n * i.size) ys, rfl, ⟨e, (0, 0), ?_⟩, ?_, by rw [lspl_length hlen]; exact Nat.le_trans (Nat.add_le_add_left (Nat.mul_le_mul_right _ hn) o) hc⟩⟩
        · show (w.heap.setIfInBounds b _)[b]? = _
          rw [Array.getElem?_setIfInBounds]
          have : b < w.heap.size := hb.lt
          simp only [if_true, this]
          rfl
        · rw [← hl] at *
          unfold lspl
          rw [List.append_assoc, List.drop_append_of_le_length (by rw [List.length_take]; omega), List.drop_take, show o + xs.length - o = xs.length by omega, ht, List.take_left]
    · exact out _ c rfl (by omega) hl
end

/-- Sectors put behind sectors: both rows are read from now on. -/
theorem Sep.apKs2 {S : List Nat} {w0 w : World} {L R : List Res} {K : VPost} {v x : Value} {ls ms : List Bytes} (s : Sep S w0 w (rK v ls :: L) R) (hx : RdSl w x 64 (bc ms.flatten) ms.length) (hn : ls.length + ms.length ≤ 10000000)
    (h : ∀ v' w', Sep S w0 w' L (rKR v' (ls ++ ms) :: rKR v ls :: R) → capOk v' → K v' w') : insW Tryd.prog (Builtin.append_ #[23, 23] 23 #[v, x]) w K := by
  obtain ⟨ti, hti, htz, hts, htb⟩ := tyI_spec ty_blk
  have ho : OwnAt w v 37 64 (bc ls.flatten) ls.length := s.at 0 rfl
  refine appendO2_i (v := v) (n := ls.length) (m := ms.length) (ys := bc ms.flatten) (xs := bc ls.flatten) und_blks und_blks hti htz (by rw [hts]; rfl) (by rw [htb]; decide) (by rw [hts]; exact ho) (by rw [hts]; exact hx) (bc_one _) (by rw [htb]; omega) fun v' w' hv e hb hrd => ?_
  have e2 : ls.flatten ++ ms.flatten = (ls ++ ms).flatten := by simp
  rw [hts, ← bc_append, ← List.length_append, e2] at hv
  rw [hts] at hrd
  have s' := s.upd (T := rK v ls) 0 rfl (T' := rK v' (ls ++ ms)) hv e (by
    intro b hb'
    show b ∈ slB v ∨ _
    rcases hb with h2 | ⟨b', h2, h3⟩
    · exact .inl (h2 ▸ hb')
    · have hb' : b ∈ slB v' := hb'
      rw [h2] at hb'; simp at hb'; subst hb'; exact .inr h3)
  have s' : Sep S w0 w' (rK v' (ls ++ ms) :: L) R := s'
  have hcap := hv.cap
  have s2 := s'.freeze 0 rfl (T' := rKR v' (ls ++ ms)) hv.rd (fun b hb => rdB_slB hb)
  have s2 : Sep S w0 w' L (rKR v' (ls ++ ms) :: R) := s2
  have hd : ∀ U ∈ L, ∀ b ∈ U.foot, b ∉ (rKR v ls).foot := fun U hU b hb hm => (List.pairwise_cons.1 s.dis).1 U hU b (rdB_slB hm) hb
  have s3 := s2.addR (T := rKR v ls) hrd hd
  exact h v' w' (s3.sub (List.Sublist.refl _) (fun T hT => by
    simp only [List.mem_cons] at hT ⊢
    rcases hT with h | h | h
    · exact .inr (.inl h)
    · exact .inl h
    · exact .inr (.inr h))) hcap

def alB : Bytes := secB 3 7 (partB (sealB [97, 98]) 0)
def al0 : Bytes := secB 3 8 (partB (sealB (List.replicate 20 0)) 0)
def al1 : Bytes := secB 3 9 (partB (sealB (List.replicate 20 0)) 1)
def alX : Bytes := alB.set 20 (alB.getD 20 0 + 1)
theorem al_pack : packB 3 7 [97, 98] = [alB] := rfl
theorem al_pack2 : packB 3 8 (List.replicate 20 0) = [al0, al1] := rfl
theorem alB_len : alB.length = 64 := secB_length _ _ (partB_le _ _)
theorem al0_len : al0.length = 64 := secB_length _ _ (partB_le _ _)
theorem al1_len : al1.length = 64 := secB_length _ _ (partB_le _ _)
theorem alX_len : alX.length = 64 := by rw [alX, List.length_set]; exact alB_len
theorem alX_no : unpackI [alX] 3 7 = none := by decide +kernel
theorem al_high : highB [alB, alX] = 3 := by decide +kernel
theorem al_unpack : unpackI ([alB] ++ [al0, al1]) 3 7 = some ([97, 98], 1) := by
  have h := unpack_pack (g := 3) (n := 7) (r := [97, 98]) (by decide) (by decide) (by decide) [al0, al1] (by
    intro b hb
    simp only [List.mem_cons, List.not_mem_nil, or_false] at hb
    rcases hb with rfl | rfl
    · exact al0_len
    · exact al1_len)
  rw [al_pack] at h
  have e := unpackI_nat (l := [alB] ++ [al0, al1]) (g := 3) (n := 7) (by decide) (by decide) (by decide)
  exact e.trans h
theorem al_mark : markB al1 = (3, 9, true) := sec_mark (partB_le _ _) (by decide) (by decide)
theorem al_whole : wholeB alB = true := sec_whole _ _ (partB_le _ _)
theorem al_data : (dataB al1).length = 8 := by
  unfold al1
  rw [sec_data _ _ (partB_le _ _)]
  unfold partB
  rw [List.length_take, List.length_drop, sealB_length]
  rfl
end Go.Proofs.YtedebapgmfnflaaDoor
