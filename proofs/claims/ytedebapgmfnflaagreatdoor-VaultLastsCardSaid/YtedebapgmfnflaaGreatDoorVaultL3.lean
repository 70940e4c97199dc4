/- Texts that the law VaultLasts stands on, part 4 of 5. Conditions: see each. -/
import Derived.Test.YtedebapgmfnflaaGreatDoorVaultL2
import Derived.ChangeKeysEq
import Derived.ProofKit
import Derived.Carry
import Derived.SizedLaws
import Derived.ChangeMaps5

/- seal.Unpack: its walk. Conditions: sectors have 64 bytes; at most 10^6 of them. -/
namespace Go.Proofs.YtedebapgmfnflaaGreatDoor
open Go
set_option maxRecDepth 100000

/-- What Unpack tells of whatever generation and number. -/
def unpackI (l : List Bytes) (g n : Int) : Option (Bytes × Nat) := if l = [] ∨ g < 1 ∨ 4294967295 < g ∨ n < 0 ∨ 4294967295 < n then none else unpackB l g.toNat n.toNat
theorem unpackI_nat {l : List Bytes} {g n : Nat} (h1 : 1 ≤ g) (h2 : g ≤ 4294967295) (h3 : n ≤ 4294967295) : unpackI l g n = unpackB l g n := by
  unfold unpackI
  by_cases hl : l = []
  · subst hl; simp [unpackB]
  · rw [if_neg (by simp only [hl, false_or]; omega), Int.toNat_natCast, Int.toNat_natCast]

theorem take64 {ls : List Bytes} (h : ∀ l ∈ ls, l.length = 64) {k : Nat} (hk : k ≤ ls.length) : ls.flatten.take (k * 64) = (ls.take k).flatten := by
  have h1 : (ls.take k).flatten.length = k * 64 := by
    rw [flat64 (fun l hl => h l (List.mem_of_mem_take hl)), List.length_take, Nat.min_eq_left hk, Nat.mul_comm]
  have h2 : ls.flatten = (ls.take k).flatten ++ (ls.drop k).flatten := by rw [← List.flatten_append, List.take_append_drop]
  rw [h2, List.take_left' h1]

theorem gather_len (g n : Nat) : ∀ (l : List Bytes) (acc : Bytes) (i : Nat), (∀ b ∈ l, b.length = 64) → (gatherB g n l acc i).1.length ≤ acc.length + 46 * l.length
  | [], acc, i, _ => by simp [gatherB]
  | b :: r, acc, i, h => by
    have hd := data_le (h b (by simp))
    rw [gather_cons]
    split
    · split
      · simp only [List.length_append, List.length_cons]; omega
      · have := gather_len g n r (acc ++ dataB b) (i + 1) (fun x hx => h x (by simp [hx]))
        rw [List.length_append] at this
        simp only [List.length_cons]; omega
    · simp only [List.length_cons]; omega

set_option maxHeartbeats 2000000 in
theorem unpack_c {w : World} {K : VPost} {x : Value} {g n : Int} {ls : List Bytes} (hx : RdSl w x 64 (bc ls.flatten) ls.length) (hcap : capOk x) (h64 : ∀ l ∈ ls, l.length = 64) (hln : ls.length ≤ 1000000)
    (hno : unpackI ls g n = none → ∀ w', Ext [] w w' → K (.tuple #[.slice none 0 0, .int .i64 0, .bool false]) w')
    (hyes : ∀ r k, unpackI ls g n = some (r, k) → ∀ v w', OwnAt w' v 5 1 (bc r) r.length → Ext [] w w' → (∀ b ∈ slB v, w.heap.size ≤ b) → K (.tuple #[v, .int .i64 k, .bool true]) w') :
    Calls Tryz.prog 67 #[x, .int .i64 g, .int .i64 n] w (retK K) := by
  refine c67_calls _ _ _ w K ?_
  unfold c67
  have hlen : ∀ (w : World) (K : VPost), lenW Tryz.prog (some true) #[60] 3 #[x] w K = K (.int .i64 ls.length) w := fun w K => hx.lenw
  rw [hlen]
  refine neql (y := 0) ?_
  by_cases h0 : ls.length = 0
  · rw [decide_eq_true h0]
    iterate 4 ((repeat with_reducible refine gs_tf ?_); refine pick_ti ?_)
    exact cndT (hno (by unfold unpackI; rw [if_pos (.inl (List.length_eq_zero_iff.1 h0))]) _ (Ext.refl _ _))
  rw [decide_eq_false h0]
  refine gs_f ?_
  refine gs_f ?_
  rw [ilss]
  refine pick_fi ?_
  by_cases h1 : g < 1
  · rw [decide_eq_true h1]
    iterate 3 ((repeat with_reducible refine gs_tf ?_); refine pick_ti ?_)
    exact cndT (hno (by unfold unpackI; rw [if_pos (.inr (.inl h1))]) _ (Ext.refl _ _))
  rw [decide_eq_false h1]
  refine gs_f ?_
  refine gs_f ?_
  rw [igtr]
  refine pick_fi ?_
  by_cases h2 : 4294967295 < g
  · rw [decide_eq_true h2]
    iterate 2 ((repeat with_reducible refine gs_tf ?_); refine pick_ti ?_)
    exact cndT (hno (by unfold unpackI; rw [if_pos (.inr (.inr (.inl h2)))]) _ (Ext.refl _ _))
  rw [decide_eq_false h2]
  refine gs_f ?_
  refine gs_f ?_
  rw [ilss]
  refine pick_fi ?_
  by_cases h3 : n < 0
  · rw [decide_eq_true h3]
    repeat with_reducible refine gs_tf ?_
    refine pick_ti ?_
    exact cndT (hno (by unfold unpackI; rw [if_pos (.inr (.inr (.inr (.inl h3))))]) _ (Ext.refl _ _))
  rw [decide_eq_false h3]
  refine gs_f ?_
  refine gs_f ?_
  rw [igtr]
  refine pick_fi ?_
  refine cond_d (fun h4 => hno (by unfold unpackI; rw [if_pos (.inr (.inr (.inr (.inr h4))))]) _ (Ext.refl _ _)) (fun h4 => ?_)
  obtain ⟨g, rfl⟩ : ∃ k : Nat, g = k := ⟨g.toNat, by omega⟩
  obtain ⟨n, rfl⟩ : ∃ k : Nat, n = k := ⟨n.toNat, by omega⟩
  rw [unpackI_nat (by omega) (by omega) (by omega)] at hno hyes
  have s := Sep.zero1 (U := rKR x ls) hx
  obtain ⟨b0, o0, hix, hld⟩ := RdSl.secAt hx h64 (i := 0) (by omega) .i64
  refine hix _ ?_
  refine hld _ ?_
  obtain ⟨hd, tl, rfl⟩ : ∃ hd tl, ls = hd :: tl := by
    cases ls with
    | nil => exact absurd rfl h0
    | cons a b => exact ⟨a, b, rfl⟩
  show fnW _ _ #[.agg (bc hd).toArray] _ _
  unfold unpackB at hno hyes
  simp only at hno hyes
  refine fnW_of (by kernel_rfl) (data_c (h64 hd (by simp)) fun vd w1 hvd e1 hfd => ?_)
  have s := s.add (T := rDb vd (dataB hd)) hvd e1 hfd
  rw [hvd.rd.lenw]
  have hdl := data_le (h64 hd (by simp))
  refine nlss (y := 2) (cond_d (fun h5 => hno (by rw [if_pos h5]) _ s.ext) (fun h5 => ?_))
  rw [if_neg h5] at hno hyes
  refine (OwnAt.rd (s.at 0 rfl)).cut (l := 0) (h := 2) hvd.cap rfl rfl (by omega) (by omega) fun v2 hv2 _ _ _ => ?_
  rw [Nat.zero_mul, List.drop_zero, ← List.drop_zero (l := bc (dataB hd)), bc_part, List.drop_zero] at hv2
  have hl2 : ((dataB hd).take 2).length = 2 := by rw [List.length_take]; omega
  have hv2 : RdSl w1 v2 1 (bc ((dataB hd).take 2)) ((dataB hd).take 2).length := by rw [hl2]; exact hv2
  refine fnW_of (by kernel_rfl) (get_c hv2 (by omega) ?_)
  refine fnW_of (by kernel_rfl) (need_c ?_)
  rw [needI_nat]
  generalize beN ((dataB hd).take 2) = m at *
  generalize hk : needN m = k at *
  refine neql (y := 0) ?_
  by_cases h6 : k = 0
  · rw [decide_eq_true h6]
    repeat with_reducible refine gs_tf ?_
    refine pick_ti ?_
    exact cndT (hno (by rw [if_pos (.inl h6)]) _ s.ext)
  rw [decide_eq_false h6]
  refine gs_f ?_
  refine gs_f ?_
  refine gs_f ?_
  rw [hlen]
  refine gs_f ?_
  refine ngtr ?_
  refine pick_fi ?_
  refine cond_d (fun h7 => hno (by rw [if_pos (.inr h7)]) _ s.ext) (fun h7 => ?_)
  rw [if_neg (by omega)] at hno hyes
  have hkm : k ≤ 45 ∧ m ≤ 2000 := by
    rw [← hk] at h6 ⊢
    unfold needN at h6 ⊢
    split at h6 <;> first | exact absurd rfl h6 | (split <;> omega)
  have hxr : RdSl w1 x 64 (bc (hd :: tl).flatten) (hd :: tl).length := s.rat 0 rfl
  refine hxr.cut (l := 0) (h := k) hcap rfl rfl (by omega) (by omega) fun vk hvk _ _ _ => ?_
  have h64k : ∀ l ∈ (hd :: tl).take k, l.length = 64 := fun l hl => h64 l (List.mem_of_mem_take hl)
  have hlk : ((hd :: tl).take k).length = k := by rw [List.length_take]; omega
  rw [Nat.zero_mul, List.drop_zero, Nat.sub_zero, ← List.drop_zero (l := bc _), bc_part, List.drop_zero, take64 h64 (by omega)] at hvk
  have hvk : RdSl w1 vk 64 (bc ((hd :: tl).take k).flatten) ((hd :: tl).take k).length := by rw [hlk]; exact hvk
  generalize (hd :: tl).take k = lk at *
  have hgl := gather_len g n lk [] 0 h64k
  refine fnW_of (by kernel_rfl) (gather_c hvk h64k (by omega) (by omega) fun va w2 hva e2 hfa => ?_)
  generalize gatherB g n lk [] 0 = res at *
  have s := s.add (T := rDb va res.1) hva e2 hfa
  rw [extr0, extr1]
  refine nneq ?_
  by_cases h8 : res.2 ≠ k
  · rw [decide_eq_true h8]
    iterate 2 ((repeat with_reducible refine gs_tf ?_); refine pick_ti ?_)
    exact cndT (hno (by rw [if_pos (.inl h8)]) _ s.ext)
  rw [decide_eq_false h8]
  refine gs_f ?_
  refine gs_f ?_
  rw [hva.rd.lenw]
  refine gs_f ?_
  refine gs_f ?_
  refine nadd (y := 34) (by omega) ?_
  refine gs_f ?_
  refine nneq ?_
  refine pick_fi ?_
  by_cases h9 : res.1.length ≠ m + 34
  · rw [decide_eq_true h9]
    iterate 1 ((repeat with_reducible refine gs_tf ?_); refine pick_ti ?_)
    exact cndT (hno (by rw [if_pos (.inr (.inl h9))]) _ s.ext)
  rw [decide_eq_false h9]
  have h9 : res.1.length = m + 34 := by omega
  refine gs_f ?_
  refine gs_f ?_
  refine gs_f ?_
  refine nadd (x := 2) (by omega) ?_
  refine gs_f ?_
  have hcut : ∀ (w' : World) (K : VPost), OwnAt w' va 5 1 (bc res.1) res.1.length → (∀ v', RdSl w' v' 1 (bc ((res.1.drop 2).take m)) ((res.1.drop 2).take m).length → capOk v' → K v' w') → sliceW (.sl 1) va (some (.int .i64 2)) (some (.int .i64 ((2 + m : Nat) : Int))) none w' K := by
    intro w' K ho hK
    refine ho.rd.cut (l := 2) (h := 2 + m) ho.cap rfl rfl (by omega) (by omega) fun v' hv' hc' _ _ => hK v' ?_ hc'
    have hl3 : ((res.1.drop 2).take m).length = m := by rw [List.length_take, List.length_drop]; omega
    rw [Nat.mul_one, Nat.mul_one, Nat.add_sub_cancel_left, bc_part] at hv'
    rw [hl3]
    exact hv'
  refine hcut _ _ (s.at 0 rfl) fun v3 hv3 hc3 => ?_
  have hl3 : ((res.1.drop 2).take m).length = m := by rw [List.length_take, List.length_drop]; omega
  refine gs_f ?_
  refine fnW_of (by kernel_rfl) (sealed_c hv3 (by omega) fun v4 w3 hv4 e3 hf4 => ?_)
  have s := s.add (T := rDb v4 (sealB ((res.1.drop 2).take m))) hv4 e3 hf4
  refine gs_f ?_
  refine gs_f ?_
  refine fnW_of (by kernel_rfl) (equal_c hv4.rd (OwnAt.rd (s.at 1 rfl)) ?_)
  refine gs_f ?_
  refine not_ti ?_
  refine pick_fi ?_
  by_cases h10 : sealB ((res.1.drop 2).take m) = res.1
  · rw [decide_eq_true h10, Bool.not_true]
    refine cndF ?_
    refine nadd (x := 2) (by omega) ?_
    refine hcut _ _ (s.at 1 rfl) fun v5 hv5 hc5 => ?_
    refine fnW_of (by kernel_rfl) (bytesClone_c hv5 (by omega) fun v6 w4 hv6 e4 hf6 => ?_)
    refine hyes _ k ?_ v6 w4 hv6 (s.ext0 e4).ext (fun b hb => Nat.le_trans s.ext.size (hf6 b hb))
    rw [if_neg]
    rintro (h | h | h)
    · exact h8 h
    · omega
    · exact h h10
  · rw [decide_eq_false h10, Bool.not_false]
    exact cndT (hno (by rw [if_pos (.inr (.inr h10))]) _ s.ext)
end Go.Proofs.YtedebapgmfnflaaGreatDoor

/- The disk: what it is, and its functions. Condition: see each. -/
namespace Go.Proofs.YtedebapgmfnflaaGreatDoor
open Go
set_option maxRecDepth 100000

structure DiskM where
  n : Nat
  last : Bytes
  seen : Bytes
  pend : List (Nat × Bytes)
  left : Int

def pcells (p : List (Nat × Bytes)) : List Value := p.flatMap fun x => .int .i64 x.1 :: bc x.2

structure DiskM.ok (D : DiskM) : Prop where
  llen : D.last.length = 64 * D.n
  slen : D.seen.length = 64 * D.n
  plen : ∀ x ∈ D.pend, x.1 < D.n ∧ x.2.length = 64
  n1 : 1 ≤ D.n
  n2 : D.n ≤ 4096
  l1 : -1 ≤ D.left
  l2 : D.left ≤ 9223372036854775807

structure IsDisk (w : World) (p bl bs zl zs : Nat) (pv : Value) (D : DiskM) : Prop where
  hdr : Blk w p [.slice (some ⟨bl, 0, none⟩) D.n zl, .slice (some ⟨bs, 0, none⟩) D.n zs, pv, .int .i64 D.left] 63
  last : PB w bl (bc D.last) 79
  seen : PB w bs (bc D.seen) 79
  pend : OwnSl w pv 81 65 (pcells D.pend) D.pend.length
  ok : D.ok
  ne1 : p ≠ bl
  ne2 : p ≠ bs
  ne3 : bl ≠ bs
  ne4 : p ∉ slB pv
  ne5 : bl ∉ slB pv
  ne6 : bs ∉ slB pv

/-- The disk behind a pointer, and the blocks that are its. -/
def Disk (w : World) (p : Nat) (F : List Nat) (D : DiskM) : Prop := ∃ bl bs zl zs pv, IsDisk w p bl bs zl zs pv D ∧ F = [p, bl, bs] ++ slB pv

theorem Disk.keep {w w' : World} {p : Nat} {F S : List Nat} {D : DiskM} (h : Disk w p F D) (e : Ext S w w') (hd : ∀ b ∈ F, b ∉ S) : Disk w' p F D := by
  obtain ⟨bl, bs, zl, zs, pv, h, rfl⟩ := h
  exact ⟨bl, bs, zl, zs, pv, ⟨h.hdr.keep e (hd p (by simp)), h.last.keep e (hd bl (by simp)), h.seen.keep e (hd bs (by simp)), h.pend.keep e (fun b hb => hd b (by simp [hb])), h.ok, h.ne1, h.ne2, h.ne3, h.ne4, h.ne5, h.ne6⟩, rfl⟩

theorem Disk.lt {w : World} {p : Nat} {F : List Nat} {D : DiskM} (h : Disk w p F D) : ∀ b ∈ F, b < w.heap.size := by
  obtain ⟨bl, bs, zl, zs, pv, h, rfl⟩ := h
  intro b hb
  simp only [List.cons_append, List.nil_append, List.mem_cons] at hb
  rcases hb with rfl | rfl | rfl | hb
  · exact h.hdr.lt
  · exact h.last.lt
  · exact h.seen.lt
  · exact h.pend.lt b hb

/-! ### Facts of the program's types -/
theorem ty_block : tyI Tryz.prog 79 = some (.agg (Array.replicate 64 (Value.int .u8 0)), 64, 64) := by kernel_rfl
theorem ty_write : tyI Tryz.prog 81 = some (.agg (List.replicate 1 (Value.int .i64 0) ++ List.replicate 64 (Value.int .u8 0)).toArray, 65, 72) := by kernel_rfl
theorem und_blocks : Tryz.prog.underlying 60 = some (.slice 79) := by kernel_rfl
theorem und_writes : Tryz.prog.underlying 61 = some (.slice 81) := by kernel_rfl
theorem str_disk : strI Tryz.prog 63 = some ([(0, 1), (1, 1), (2, 1), (3, 1)], [.slice none 0 0, .slice none 0 0, .slice none 0 0, .int .i64 0]) := by kernel_rfl
theorem str_write : strI Tryz.prog 81 = some ([(0, 1), (1, 64)], List.replicate 1 (Value.int .i64 0) ++ List.replicate 64 (Value.int .u8 0)) := by kernel_rfl


theorem there_c {w : World} {p : Nat} {F : List Nat} {D : DiskM} (h : Disk w p F D) (i : Int) {K : VPost} (hK : K (.bool (decide (0 ≤ i ∧ i < D.n))) w) :
    Calls Tryz.prog 69 #[.pointer (some ⟨p, 0, none⟩), .int .i64 i] w (retK K) := by
  obtain ⟨bl, bs, zl, zs, pv, h, rfl⟩ := h
  refine c69_calls _ _ w K ?_
  unfold c69
  simp only [bin_geq]
  by_cases h0 : 0 ≤ i
  · simp only [h0, decide_true, gstep_t, pickW_t, nilW_e]
    refine off_i (load1 h.hdr.r rfl ?_)
    simp only [len_s, bin_lss]
    simpa [h0] using hK
  · simp only [h0, decide_false, gstep_ft, pickW_f]
    simpa [h0] using hK

theorem size_c {w : World} {p : Nat} {F : List Nat} {D : DiskM} (h : Disk w p F D) {K : VPost} (hK : K (.int .i64 D.n) w) :
    Calls Tryz.prog 46 #[.pointer (some ⟨p, 0, none⟩)] w (retK K) := by
  obtain ⟨bl, bs, zl, zs, pv, h, rfl⟩ := h
  refine c46_calls _ w K ?_
  unfold c46
  simp only [nilW_e]
  refine off_i (load1 h.hdr.r rfl ?_)
  simpa only [len_s] using hK

/-- A write. -/
def DiskM.write (D : DiskM) (i : Int) (b : Bytes) : DiskM × Int :=
  if ¬ (0 ≤ i ∧ i < D.n) then (D, 11)
  else if D.left = 0 then (D, 15)
  else ({ D with seen := bspl D.seen (64 * i.toNat) b, pend := D.pend ++ [(i.toNat, b)], left := if 0 < D.left then D.left - 1 else D.left }, 0)

theorem pcells_append (p : List (Nat × Bytes)) (i : Nat) (b : Bytes) : pcells (p ++ [(i, b)]) = pcells p ++ (.int .i64 i :: bc b) := by simp [pcells]

/-- A write record's cells. -/
theorem fill_write (i : Nat) (b : Bytes) (hb : b.length = 64) :
    fillL [(0, 1), (1, 64)] (List.replicate 1 (Value.int .i64 0) ++ List.replicate 64 (Value.int .u8 0)) [(0, .int .i64 i), (1, .agg (bc b).toArray)] = some (.int .i64 i :: bc b) := by
  have hl : (bc b).length = 64 := by rw [bc_length, hb]
  have hZ : (List.replicate 1 (Value.int .i64 0) ++ List.replicate 64 (Value.int .u8 0)).length = 65 := by simp
  generalize List.replicate 1 (Value.int .i64 0) ++ List.replicate 64 (Value.int .u8 0) = Z at hZ
  have h1 : (Value.int .i64 (i : Int)).cells = #[.int .i64 i] := rfl
  have h2 : (Value.agg (bc b).toArray).cells = (bc b).toArray := rfl
  have e := lspl_two Z (.int .i64 i) (bc b) (by omega)
  have hlen : (lspl Z 0 [Value.int .i64 i]).length = 65 := by rw [lspl_length (by simp; omega)]; exact hZ
  simp [fillL, h1, h2, hl, hZ, hlen, e]

set_option maxRecDepth 100000 in
theorem write_c {w : World} {p : Nat} {F : List Nat} {D : DiskM} (h : Disk w p F D) (i : Int) (b : Bytes) (hb : b.length = 64) (hp : D.pend.length ≤ 1000000) {K : VPost}
    (hK : ∀ F' w', Disk w' p F' (D.write i b).1 → Mv F w F' w' → K (.int .i64 (D.write i b).2) w') :
    Calls Tryz.prog 64 #[.pointer (some ⟨p, 0, none⟩), .int .i64 i, .agg (bc b).toArray] w (retK K) := by
  refine c64_calls _ _ _ w K ?_
  unfold c64
  refine boxW_i fun bb w1 hbb e1 hbx hs1 => ?_
  have h1 := h.keep e1 (by simp)
  have hbF : bb ∉ F := fun hm => by have := h.lt bb hm; omega
  refine bindX_i fun J2 h2 => bindX_i fun J3 h3 => bindX_i fun J4 h4 => ?_
  -- what follows where the write is done
  have rest : ∀ (fr : Fr) (w2 : World) (D2 : DiskM), fr 0 = .pointer (some ⟨p, 0, none⟩) → fr 1 = .int .i64 i → fr 5 = .pointer (some ⟨bb, 0, none⟩) → 0 ≤ i → i < D.n → D2.n = D.n → D2.pend = D.pend →
      { D2 with seen := bspl D2.seen (64 * i.toNat) b, pend := D2.pend ++ [(i.toNat, b)] } = (D.write i b).1 → (D.write i b).2 = 0 →
      Disk w2 p F D2 → Blk w2 bb (bc b) 79 → Mv F w F w2 → w1.heap.size ≤ w2.heap.size → J3 .normal fr w2 := by
    intro fr w2 D2 f0 f1 f5 hi0 hi1 hn hpd hD hr hd hbk hmv hsz
    refine seq_n h3 ?_
    simp only [f0, f1, f5, nilW_e]
    clear h h1 e1
    obtain ⟨bl, bs, zl, zs, pv, h, rfl⟩ := hd
    obtain ⟨q, hq⟩ : ∃ q : Nat, i = q := ⟨i.toNat, by omega⟩
    subst hq
    have hq2 : q < D2.n := by omega
    refine off_i (load1 (o := 0 + 1) h.hdr.r rfl (loadAll hbk.r (by rw [bc_length, hb]) (idx_i hq2 ?_)))
    have hsl := h.ok.slen
    refine PB.store (vs := bc b) h.seen rfl (by rw [bc_length, hb]) (by rw [bc_length, hsl]; omega) (bc_one b) fun w3 e3 hs3 hz3 => ?_
    have e3 := e3.undrew
    simp only [Int.toNat_natCast, Nat.zero_add] at hs3 hD ⊢
    simp only [List.mem_cons, List.cons_append, List.nil_append, not_or] at hbF
    have hh3 := h.hdr.keep e3 (by simpa using h.ne2)
    have hp3 := h.pend.keep e3 (fun x hx => by simp; intro e; exact h.ne6 (e ▸ hx))
    have hl3 := h.last.keep e3 (by simpa using h.ne3)
    have hb3 := hbk.keep e3 (by simpa using hbF.2.2.1)
    refine off_i (load1 (o := 0 + 2) hh3.r rfl (loadAll hb3.r (by rw [bc_length, hb]) ?_))
    refine build_i str_write (fill_write q b hb) ⟨rfl, ?_⟩
    obtain ⟨iw, hiw, hzw, hsw, hbw⟩ := tyI_spec ty_write
    refine buildSlice_i (vs := [.agg (Value.int .i64 q :: bc b).toArray]) und_writes hiw hzw rfl (by intro v hv; simp at hv; subst hv; rw [hsw]; simp [Value.cells, bc_length, hb]) (by rw [hsw]; simp) fun ba w4 hba e4 hb4 hs4 => ?_
    have e4 := e4.undrew
    have hh4 := hh3.keep e4 (by simp)
    have hp4 := hp3.keep e4 (by simp)
    have hl4 := hl3.keep e4 (by simp)
    have hs4' := hs3.keep e4 (by simp)
    have hfl : flatV [Value.agg (Value.int .i64 q :: bc b).toArray] = .int .i64 q :: bc b := by simp [flatV, Value.cells]
    rw [hfl] at hb4
    refine ⟨load1 (o := 0 + 2) hh4.r rfl ⟨rfl, rfl⟩, ?_⟩
    refine append_i (e := 81) und_writes und_writes hiw hzw (by rw [hsw]; simp [Value.cells]) (by rw [hbw]; decide) (by rw [hsw]; exact hp4) (m := 1) (ys := .int .i64 q :: bc b) ?_ ?_ (by rw [hbw, hpd]; omega) fun v5 w5 ho5 e5 hsb => ?_
    · rw [hsw]
      exact ⟨by simp [bc_length, hb], .inr ⟨ba, 0, 1, _, rfl, hb4.r, by rw [List.drop_zero]; exact List.take_of_length_le (by simp [bc_length, hb]), by simp [bc_length, hb]⟩⟩
    · intro y hy
      rcases List.mem_cons.1 hy with rfl | hy
      · rfl
      · exact bc_one b y hy
    rw [hsw, ← pcells_append] at ho5
    have hne4 := h.ne4
    have hne5 := h.ne5
    have hne6 := h.ne6
    have hh5 := hh4.keep e5 hne4
    have hl5 := hl4.keep e5 hne5
    have hs5 := hs4'.keep e5 hne6
    refine off_i (o := 0) (k := 2) (store1 (o := 0 + 2) hh5 ?_ (by simp) ?_ fun w6 e6 hh6 hz6 => ?_)
    · obtain ⟨a, c, rfl⟩ := ho5.shape; rfl
    · obtain ⟨a, c, rfl⟩ := ho5.shape; rfl
    have hb5 : ∀ x ∈ slB v5, x ∈ slB pv ∨ w4.heap.size ≤ x := by
      intro x hx
      rcases hsb with e | ⟨b', e, hge⟩
      · rw [e] at hx; exact .inl hx
      · rw [e] at hx; simp at hx; subst hx; exact .inr hge
    have hlt : ∀ x, x = p ∨ x = bl ∨ x = bs → x < w4.heap.size := by
      intro x hx
      rcases hx with rfl | rfl | rfl
      · exact hh4.lt
      · exact hl4.lt
      · exact hs4'.lt
    have hnew : ∀ x, x = p ∨ x = bl ∨ x = bs → x ∉ slB pv → x ∉ slB v5 := by
      intro x hx hn hm
      rcases hb5 x hm with h' | h'
      · exact hn h'
      · have := hlt x hx; omega
    have hok : ({ D2 with seen := bspl D2.seen (64 * q) b, pend := D2.pend ++ [(q, b)] } : DiskM).ok := by
      refine ⟨h.ok.llen, ?_, fun x hx => ?_, h.ok.n1, h.ok.n2, h.ok.l1, h.ok.l2⟩
      · show (bspl _ _ _).length = _
        rw [bspl_length (by rw [hsl]; omega)]; exact hsl
      · rcases List.mem_append.1 hx with hx | hx
        · exact h.ok.plen x hx
        · simp at hx; subst hx; exact ⟨hq2, hb⟩
    rw [hr] at hK
    rw [← hD] at hK
    refine hK ([p, bl, bs] ++ slB v5) w6 ⟨bl, bs, zl, zs, v5, ⟨?_, hl5.keep e6 (by simpa using Ne.symm h.ne1), ?_, ?_, hok, h.ne1, h.ne2, h.ne3, hnew p (.inl rfl) hne4, hnew bl (.inr (.inl rfl)) hne5, hnew bs (.inr (.inr rfl)) hne6⟩, rfl⟩ (hmv.trans ⟨?_, ?_⟩)
    · simpa using hh6
    · rw [show (64 : Nat) * q = q * 64 by omega, bc_spl]
      exact hs5.keep e6 (by simpa using Ne.symm h.ne2)
    · have := ho5.keep e6 (fun x hx => by simp; intro e; subst e; exact hnew x (.inl rfl) hne4 hx)
      simpa using this
    · exact ((((Ext.refl _ w2).step e3 (by simp)).new e4).step e5 (fun x hx _ => by simp [hx])).step e6 (by simp)
    · intro x hx
      simp only [List.cons_append, List.nil_append, List.mem_cons] at hx ⊢
      rcases hx with rfl | rfl | rfl | hx
      · simp
      · simp
      · simp
      · rcases hb5 x hx with h' | h'
        · simp [h']
        · right; have := e3.size; have := e4.size; omega
  refine fnW_of (by kernel_rfl) (there_c h1 i ?_)
  simp only [not_e]
  refine cond_b (fun hc => ?_) (fun hc => ?_)
  · have hn : ¬ (0 ≤ i ∧ i < D.n) := by simp at hc; omega
    have hw : D.write i b = (D, 11) := by unfold DiskM.write; rw [if_pos hn]
    rw [hw] at hK
    exact hK F w1 h1 ⟨(Ext.refl _ _).new e1, fun x hx => .inl hx⟩
  · have hn : 0 ≤ i ∧ i < D.n := by simpa using hc
    have hmv1 : Mv F w F w1 := ⟨(Ext.refl _ _).new e1, fun x hx => .inl hx⟩
    have hd1 := h1
    obtain ⟨bl, bs, zl, zs, pv, hh, hF⟩ := h1
    simp only [nilW_e]
    refine off_i (load1 (o := 0 + 3) hh.hdr.r rfl ?_)
    simp only [bin_eql]
    refine cond_b (fun hc => ?_) (fun hc => ?_)
    · have hl : D.left = 0 := by simpa using hc
      have hw : D.write i b = (D, 15) := by unfold DiskM.write; rw [if_neg (by simpa using hn), if_pos hl]
      rw [hw] at hK
      exact hK F w1 hd1 hmv1
    · have hl : ¬ D.left = 0 := by simpa using hc
      refine off_i (load1 (o := 0 + 3) hh.hdr.r rfl ?_)
      simp only [bin_gtr]
      refine cond_d (fun hc => ?_) (fun hc => ?_)
      · refine off_i (load1 (o := 0 + 3) hh.hdr.r rfl ?_)
        have hl2 := hh.ok.l2
        simp only [bin_sub]
        rw [i64_self (by omega)]
        refine off_i (o := 0) (k := 3) (store1 (o := 0 + 3) hh.hdr rfl (by simp) rfl fun w2 e2 hh2 hz2 => ?_)
        have hw : D.write i b = ({ D with seen := bspl D.seen (64 * i.toNat) b, pend := D.pend ++ [(i.toNat, b)], left := D.left - 1 }, 0) := by
          unfold DiskM.write; rw [if_neg (by simpa using hn), if_neg hl]; simp [hc]
        have hbF' := hbF
        rw [hF] at hbF'
        simp only [List.mem_cons, List.cons_append, List.nil_append, not_or] at hbF'
        refine rest _ w2 { D with left := D.left - 1 } rfl rfl rfl hn.1 hn.2 rfl rfl (by rw [hw]) (by rw [hw]) ⟨bl, bs, zl, zs, pv, ⟨by simpa using hh2, hh.last.keep e2 (by simpa using Ne.symm hh.ne1), hh.seen.keep e2 (by simpa using Ne.symm hh.ne2),
          hh.pend.keep e2 (fun x hx => by simp; intro e; exact hh.ne4 (e ▸ hx)), ⟨hh.ok.llen, hh.ok.slen, hh.ok.plen, hh.ok.n1, hh.ok.n2, by show -1 ≤ D.left - 1; omega, by show D.left - 1 ≤ _; omega⟩, hh.ne1, hh.ne2, hh.ne3, hh.ne4, hh.ne5, hh.ne6⟩, hF⟩
          (by have := hbx.keep e2 (by simpa using hbF'.1); simpa [Value.cells] using this) (hmv1.trans ⟨e2.mono (by intro x hx _; simp at hx; subst hx; rw [hF]; simp), fun x hx => .inl hx⟩) (by omega)
      · have hw : D.write i b = ({ D with seen := bspl D.seen (64 * i.toNat) b, pend := D.pend ++ [(i.toNat, b)], left := D.left }, 0) := by
          unfold DiskM.write; rw [if_neg (by simpa using hn), if_neg hl]; simp [hc]
        exact rest _ w1 D rfl rfl rfl hn.1 hn.2 rfl rfl (by rw [hw]) (by rw [hw]) hd1 (by simpa [Value.cells] using hbx) hmv1 (Nat.le_refl _)


def DiskM.fresh (n : Nat) : DiskM := ⟨n, List.replicate (64 * n) 0, List.replicate (64 * n) 0, [], -1⟩

theorem fill_disk (a b v : Value) (z : Int) (ha : a.cells = #[a]) (hb : b.cells = #[b]) : fillL [(0, 1), (1, 1), (2, 1), (3, 1)] [.slice none 0 0, .slice none 0 0, .slice none 0 0, .int .i64 0] [(0, a), (1, b), (3, .int .i64 z)] = some [a, b, .slice none 0 0, .int .i64 z] := by
  have h3 : (Value.int .i64 z).cells = #[.int .i64 z] := rfl
  simp [fillL, ha, hb, h3, lspl]

theorem make_blocks {w : World} {n : Nat} (hn : n ≤ 4096) {K : VPost} (h : ∀ b w', w.heap.size = b → Ext [] w w' → Blk w' b (bc (List.replicate (64 * n) 0)) 79 → w'.heap.size = b + 1 → K (.slice (some ⟨b, 0, none⟩) n n) w') :
    insW Tryz.prog (Instr.makeSlice 60 (.int .i64 n) (.int .i64 n)) w K := by
  obtain ⟨i, hi, hz, hs, hb⟩ := tyI_spec ty_block
  refine makeSlice_i (z0 := .int .u8 0) und_blocks hi hz (by rw [hs]; rfl) (Nat.le_refl _) (by rw [hb]; omega) (by omega) fun b w' h1 h2 h3 h4 => h b w' h1 h2 ?_ h4
  rw [bc_zeros, Nat.mul_comm 64 n, ← hs]; exact h3

theorem new_c {w : World} (size : Int) {K : VPost} (hbad : ¬ (1 ≤ size ∧ size ≤ 4096) → K (.tuple #[.pointer none, .int .i64 11]) w)
    (hK : 1 ≤ size ∧ size ≤ 4096 → ∀ p F w', Disk w' p F (DiskM.fresh size.toNat) → Ext [] w w' → (∀ b ∈ F, w.heap.size ≤ b) → K (.tuple #[.pointer (some ⟨p, 0, none⟩), .int .i64 0]) w') :
    Calls Tryz.prog 7 #[.int .i64 size] w (retK K) := by
  refine c7_calls _ w K ?_
  unfold c7
  simp only [bin_lss, bin_gtr]
  by_cases h0 : size < 1
  · simp only [h0, decide_true, gstep_tf, pickW_t, condW_t]
    exact hbad (by omega)
  · simp only [h0, decide_false, gstep_f, pickW_f, bin_gtr]
    refine cond_d (fun h1 => hbad (by omega)) (fun h1 => ?_)
    have hk := hK ⟨by omega, by omega⟩
    obtain ⟨n, rfl⟩ : ∃ n : Nat, size = n := ⟨size.toNat, by omega⟩
    simp only [Int.toNat_natCast] at hk
    have hok : (DiskM.fresh n).ok := ⟨by simp [DiskM.fresh], by simp [DiskM.fresh], by simp [DiskM.fresh], by show 1 ≤ n; omega, by show n ≤ 4096; omega, by simp [DiskM.fresh], by simp [DiskM.fresh]⟩
    have key : ∀ (b1 b2 : Nat) (w3 : World), Ext [] w w3 → Blk w3 b1 (bc (List.replicate (64 * n) 0)) 79 → Blk w3 b2 (bc (List.replicate (64 * n) 0)) 79 → b1 ≠ b2 → w.heap.size ≤ b1 → w.heap.size ≤ b2 →
        insW Tryz.prog (Instr.build 63 #[(0, .slice (some ⟨b1, 0, none⟩) n n), (1, .slice (some ⟨b2, 0, none⟩) n n), (3, .int .i64 (-1))]) w3 fun t w4 => w4 = w3 ∧ boxW 63 t w4 fun t w5 => K (.tuple #[t, .int .i64 0]) w5 := by
      intro b1 b2 w3 e3 h1 h2 hne hb1 hb2
      refine build_i str_disk (fill_disk _ _ .nilIface _ rfl rfl) ⟨rfl, boxW_i fun p w4 hp e4 hb4 hs4 => ?_⟩
      refine hk p [p, b1, b2] w4 ⟨b1, b2, n, n, .slice none 0 0, ⟨hb4, (h1.keep e4 (by simp)).pb, (h2.keep e4 (by simp)).pb, .inl ⟨rfl, rfl, rfl⟩, hok, ?_, ?_, hne, by simp [slB], by simp [slB], by simp [slB]⟩, by simp [slB]⟩ (e3.new e4) ?_
      · have := h1.lt; omega
      · have := h2.lt; omega
      · intro b hb
        have := e3.size
        simp only [List.mem_cons, List.not_mem_nil, or_false] at hb
        rcases hb with rfl | rfl | rfl <;> omega
    constructor
    · refine make_blocks (by omega) fun b1 w1 hb1 e1 h1 hs1 => make_blocks (by omega) fun b2 w2 hb2 e2 h2 hs2 => ?_
      have e1 := e1.undrew
      exact key b1 b2 w2 (e1.new e2) (h1.keep e2 (by simp)) h2 (by omega) (by have : w.drew.heap.size = w.heap.size := rfl; omega) (by have := e1.size; omega)
    · refine make_blocks (by omega) fun b2 w1 hb2 e1 h2 hs1 => make_blocks (by omega) fun b1 w2 hb1 e2 h1 hs2 => ?_
      have e1 := e1.undrew
      exact key b1 b2 w2 (e1.new e2) h1 (h2.keep e2 (by simp)) (by omega) (by have := e1.size; omega) (by have : w.drew.heap.size = w.heap.size := rfl; omega)

/-- All lasts. -/
def DiskM.flush (D : DiskM) : DiskM := { D with last := D.seen, pend := [] }

theorem flush_c {w : World} {p : Nat} {F : List Nat} {D : DiskM} (h : Disk w p F D) {K : VPost} (hK : ∀ F' w', Disk w' p F' D.flush → Mv F w F' w' → K (.tuple #[]) w') :
    Calls Tryz.prog 52 #[.pointer (some ⟨p, 0, none⟩)] w (retK K) := by
  obtain ⟨bl, bs, zl, zs, pv, h, rfl⟩ := h
  refine c52_calls _ w K ?_
  unfold c52
  simp only [nilW_e]
  refine off_i (load1 (o := 0 + 0) h.hdr.r rfl (off_i (load1 (o := 0 + 1) h.hdr.r rfl ?_)))
  obtain ⟨i, hi, hz, hsz, hby⟩ := tyI_spec ty_block
  have hl := h.ok.llen
  have hs := h.ok.slen
  refine PB.copy (ys := bc D.seen) (m := D.n) und_blocks hi h.last (h.seen.rd (by rw [bc_length, hsz]; omega))
    (bc_one _) (by rw [bc_length, hsz]; omega) fun w1 e1 h1 hs1 => ?_
  have e1 := e1.undrew
  have hh1 := h.hdr.keep e1 (by simpa using h.ne1)
  refine off_i (o := 0) (k := 2) (store1 (o := 0 + 2) hh1 rfl (by simp) rfl fun w2 e2 hh2 hz2 => ?_)
  refine hK [p, bl, bs] w2 ⟨bl, bs, zl, zs, .slice none 0 0, ⟨hh2, ?_, (h.seen.keep e1 (by simpa using Ne.symm h.ne3)).keep e2 (by simpa using Ne.symm h.ne2), .inl ⟨rfl, rfl, rfl⟩, ⟨hs, hs, by simp [DiskM.flush], h.ok.n1, h.ok.n2, h.ok.l1, h.ok.l2⟩, h.ne1, h.ne2, h.ne3, by simp [slB], by simp [slB], by simp [slB]⟩, by simp [slB]⟩ ⟨?_, ?_⟩
  · have : lspl (bc D.last) 0 (List.take (min D.n D.n * i.size) (bc D.seen)) = bc D.seen := by
      rw [List.take_of_length_le (by rw [bc_length, hsz, Nat.min_self]; omega)]
      exact lspl_all (by rw [bc_length, bc_length]; omega)
    rw [this] at h1
    exact h1.keep e2 (by simpa using Ne.symm h.ne1)
  · exact ((Ext.refl _ w).step e1 (by simp)).step e2 (by simp)
  · intro b hb
    left
    simp at hb ⊢
    rcases hb with rfl | rfl | rfl <;> simp

def DiskM.limit (D : DiskM) (k : Int) : DiskM := { D with left := max k (-1) }

theorem limit_c {w : World} {p : Nat} {F : List Nat} {D : DiskM} (h : Disk w p F D) (k : Int) (hk : k ≤ 9223372036854775807) {K : VPost} (hK : ∀ F' w', Disk w' p F' (D.limit k) → Mv F w F' w' → K (.tuple #[]) w') :
    Calls Tryz.prog 23 #[.pointer (some ⟨p, 0, none⟩), .int .i64 k] w (retK K) := by
  obtain ⟨bl, bs, zl, zs, pv, h, rfl⟩ := h
  refine c23_calls _ _ w K ?_
  unfold c23
  simp only [max_e, nilW_e]
  refine off_i (o := 0) (k := 3) (store1 (o := 0 + 3) h.hdr rfl (by simp) rfl fun w2 e2 hh2 hz2 => ?_)
  refine hK _ w2 ⟨bl, bs, zl, zs, pv, ⟨hh2, h.last.keep e2 (by simpa using Ne.symm h.ne1), h.seen.keep e2 (by simpa using Ne.symm h.ne2), h.pend.keep e2 (fun x hx => by simp; intro e; exact h.ne4 (e ▸ hx)),
    ⟨h.ok.llen, h.ok.slen, h.ok.plen, h.ok.n1, h.ok.n2, by show -1 ≤ max k (-1); omega, by show max k (-1) ≤ _; omega⟩, h.ne1, h.ne2, h.ne3, h.ne4, h.ne5, h.ne6⟩, rfl⟩ ⟨e2.mono (by intro x hx _; simp at hx; subst hx; simp), fun x hx => .inl hx⟩

/-- A sector. -/
def DiskM.read (D : DiskM) (i : Int) : Bytes × Int := if 0 ≤ i ∧ i < D.n then ((D.seen.drop (64 * i.toNat)).take 64, 0) else (List.replicate 64 0, 11)

theorem DiskM.read_length {D : DiskM} (h : D.ok) (i : Int) : (D.read i).1.length = 64 := by
  unfold DiskM.read
  split
  · have := h.slen; simp; omega
  · simp

theorem read_c {w : World} {p : Nat} {F : List Nat} {D : DiskM} (h : Disk w p F D) (i : Int) {K : VPost}
    (hK : ∀ w', Ext [] w w' → K (.tuple #[.agg (bc (D.read i).1).toArray, .int .i64 (D.read i).2]) w') :
    Calls Tryz.prog 61 #[.pointer (some ⟨p, 0, none⟩), .int .i64 i] w (retK K) := by
  refine c61_calls _ _ w K ?_
  unfold c61
  obtain ⟨ti, hi, hz, hsz, hby⟩ := tyI_spec ty_block
  have hz' : zeroO Tryz.prog 79 = some (.agg (Array.replicate 64 (.int .u8 0))) := by simp [zeroO, hi, hz]
  refine allocW_i hz' fun b1 w1 hb1 e1 h1 hs1 => ?_
  have hd1 := h.keep e1 (by simp)
  have hc1 : (Value.agg (Array.replicate 64 (.int .u8 0))).cells.toList = bc (List.replicate 64 0) := by rw [bc_zeros]; simp [Value.cells]
  rw [hc1] at h1
  refine fnW_of (by kernel_rfl) (there_c hd1 i ?_)
  simp only [not_e]
  refine cond_b (fun hc => ?_) (fun hc => ?_)
  · have hn : ¬ (0 ≤ i ∧ i < D.n) := by simp at hc; omega
    have hr : D.read i = (List.replicate 64 0, 11) := by unfold DiskM.read; rw [if_neg hn]
    rw [hr] at hK
    refine insW_ok (v := .agg (Array.replicate 64 (.int .u8 0))) (w' := w1) ?_ ?_
    · unfold Instr.build
      have hzr : (zeroValue 79).run Tryz.prog w1 = .ok (.agg (Array.replicate 64 (.int .u8 0))) w1 := by
        unfold zeroValue; simp only [Sem.run_bind, run_info hi, Result.andThen_ok, hz, Sem.run_pure]
      have hu : Tryz.prog.underlying 79 = some (.array 64 5) := by kernel_rfl
      obtain ⟨ui, hui, huz, husz, huby⟩ := tyI_spec ty_u8
      simp only [Sem.run_bind, hzr, Result.andThen_ok, run_und hu, run_size hui, Instr.fill, Sem.run_pure, Value.cells]
    · have e0 : (Value.agg (Array.replicate 64 (.int .u8 0))) = .agg (bc (List.replicate 64 0)).toArray := by rw [bc_zeros, List.toArray_replicate]
      rw [e0]
      refine storeAll h1 (by rw [bc_length]; simp) (by rw [bc_length]; simp) (bc_one _) fun w2 e2 h2 hs2 => ?_
      refine loadAll h2.r (by rw [bc_length]; simp) ?_
      exact hK w2 ((((Ext.refl [] w).new e1).step e2 (by intro x hx hlt; simp at hx; omega)))
  · have hn : 0 ≤ i ∧ i < D.n := by simpa using hc
    have hr : D.read i = ((D.seen.drop (64 * i.toNat)).take 64, 0) := by unfold DiskM.read; rw [if_pos hn]
    rw [hr] at hK
    have hlt := hd1.lt
    obtain ⟨bl, bs, zl, zs, pv, hh, rfl⟩ := hd1
    obtain ⟨q, rfl⟩ : ∃ q : Nat, i = q := ⟨i.toNat, by omega⟩
    simp only [nilW_e]
    have hsl := hh.ok.slen
    refine off_i (load1 (o := 0 + 1) hh.hdr.r rfl (idx_i (by omega) (PB.loadN hh.seen (by rw [bc_length]; omega) ?_)))
    rw [bc_part]
    simp only [Int.toNat_natCast, Nat.zero_add] at hK ⊢
    have hlen : (List.take 64 (List.drop (q * 64) D.seen)).length = 64 := by simp; omega
    refine storeAll h1 (by rw [bc_length, hlen]) (by rw [bc_length]; simp) (bc_one _) fun w2 e2 h2 hs2 => ?_
    refine loadAll h2.r (by rw [bc_length, hlen]) ?_
    rw [Nat.mul_comm q 64]
    exact hK w2 ((((Ext.refl [] w).new e1).step e2 (by intro x hx hlt; simp at hx; omega)))


theorem take_succ_chunk (l : Bytes) (k : Nat) (h : 64 * (k + 1) ≤ l.length) : l.take (64 * (k + 1)) = l.take (64 * k) ++ (l.drop (64 * k)).take 64 := by
  rw [show 64 * (k + 1) = 64 * k + 64 by omega, List.take_add]

/-- What a crash makes of a write, by its pick. -/
def tear (last : Bytes) (x : Nat × Bytes) (p : UInt8) : Bytes :=
  if p.toNat / 64 = 0 then last
  else if p.toNat / 64 = 1 then bspl last (64 * x.1) x.2
  else if p.toNat / 64 = 2 then bspl last (64 * x.1) (x.2.take (p.toNat % 64))
  else bspl last (64 * x.1 + (64 - p.toNat % 64)) (x.2.drop (64 - p.toNat % 64))

theorem tear_length {last : Bytes} {n : Nat} (hl : last.length = 64 * n) {x : Nat × Bytes} (hx : x.1 < n) (hb : x.2.length = 64) (p : UInt8) : (tear last x p).length = 64 * n := by
  unfold tear
  have := Nat.mod_lt p.toNat (show 0 < 64 by decide)
  split
  · exact hl
  · split
    · rw [bspl_length (by omega)]; exact hl
    · split
      · rw [bspl_length (by rw [List.length_take]; omega)]; exact hl
      · rw [bspl_length (by rw [List.length_drop]; omega)]; exact hl

theorem IsDisk.keep {w w' : World} {p bl bs zl zs : Nat} {pv : Value} {S : List Nat} {D : DiskM} (h : IsDisk w p bl bs zl zs pv D) (e : Ext S w w') (hd : ∀ b ∈ [p, bl, bs] ++ slB pv, b ∉ S) : IsDisk w' p bl bs zl zs pv D :=
  ⟨h.hdr.keep e (hd p (by simp)), h.last.keep e (hd bl (by simp)), h.seen.keep e (hd bs (by simp)), h.pend.keep e (fun b hb => hd b (by simp [hb])), h.ok, h.ne1, h.ne2, h.ne3, h.ne4, h.ne5, h.ne6⟩

theorem torn_c {w : World} {p bl bs zl zs : Nat} {pv : Value} {D : DiskM} (h : IsDisk w p bl bs zl zs pv D) (x : Nat × Bytes) (hx : x.1 < D.n) (hb : x.2.length = 64) (pk : UInt8) {K : VPost}
    (hK : ∀ w', IsDisk w' p bl bs zl zs pv { D with last := tear D.last x pk } → Ext [bl] w w' → K (.bool (decide (64 ≤ pk.toNat))) w') :
    Calls Tryz.prog 40 #[.pointer (some ⟨p, 0, none⟩), .agg (Value.int .i64 x.1 :: bc x.2).toArray, bv pk] w (retK K) := by
  obtain ⟨i, b⟩ := x
  simp only at hx hb
  refine c40_calls _ _ _ w K ?_
  unfold c40
  refine boxW_i fun bx w1 hbx e1 hx1 hs1 => ?_
  have hlt0 := h.last.lt
  have e1 : Ext [] w w1.drew := e1.new (Ext.drew _ _)
  have hx1 : Blk w1.drew bx (.int .i64 i :: bc b) 81 := hx1
  generalize w1.drew = w1 at *
  have h1 := h.keep e1 (by simp)
  have hll := h1.ok.llen
  simp only [nilW_e]
  refine off_i (load1 (o := 0 + 0) h1.hdr.r rfl (off_i (load1 (o := 0 + 0) hx1.r rfl (idx_i hx ?_))))
  have hpk : pk.toNat < 256 := pk.toNat_lt
  have hu8 : Tryz.prog.underlying 5 = some (.int .u8) := by kernel_rfl
  have hint : Tryz.prog.underlying 3 = some (.int .i64) := by kernel_rfl
  have hrem : ((pk.toNat : Int)).tmod 64 = ((pk.toNat % 64 : Nat) : Int) := by
    rw [Int.tmod_eq_emod_of_nonneg (by omega)]; omega
  have hquo : ((pk.toNat : Int)).tdiv 64 = ((pk.toNat / 64 : Nat) : Int) := by
    rw [Int.tdiv_eq_ediv_of_nonneg (by omega)]; omega
  have hwq : IntKind.u8.wrap (((pk.toNat / 64 : Nat) : Int)) = ((pk.toNat / 64 : Nat) : Int) := by rw [IntKind.wrap_u8]; omega
  have hwr : IntKind.i64.wrap (((pk.toNat % 64 : Nat) : Int)) = ((pk.toNat % 64 : Nat) : Int) := i64_self (by omega)
  unfold bv
  rw [bin_rem (by decide)]
  refine ⟨rfl, ?_⟩
  rw [conv_int hu8 hint, hrem, hwr]
  refine ⟨load1 (o := 0 + 0) h1.hdr.r rfl ⟨rfl, rfl⟩, load1 (o := 0 + 0) hx1.r rfl ⟨rfl, rfl⟩, ?_⟩
  refine bindX_i fun J2 h2 => bindX_i fun J3 h3 => ?_
  rw [bin_quo (by decide), hquo, hwq]
  refine bindX_i fun J4 h4 => ?_
  simp only [bin_eql]
  have hk : pk.toNat % 64 < 64 := Nat.mod_lt _ (by decide)
  -- the end, where something was done
  have fin : ∀ (fr : Fr) (w2 : World) (cs : Bytes), Ext [bl] w1 w2 → PB w2 bl (bc cs) 79 → cs = tear D.last (i, b) pk → 64 ≤ pk.toNat → J3 .normal fr w2 := by
    intro fr w2 cs e2 hb2 hcs hp
    refine seq_n h3 ?_
    have e3 : Ext [bl] w w2 := (e1.mono (by simp)).step e2 (by intro x hx hlt; exact hx)
    have := hK w2 ⟨h1.hdr.keep e2 (by simpa using h1.ne1), by rw [← hcs]; exact hb2, h1.seen.keep e2 (by simpa using Ne.symm h1.ne3), h1.pend.keep e2 (fun x hx => by simp; intro e; exact h1.ne5 (e ▸ hx)),
      ⟨tear_length hll hx hb pk, h1.ok.slen, h1.ok.plen, h1.ok.n1, h1.ok.n2, h1.ok.l1, h1.ok.l2⟩, h1.ne1, h1.ne2, h1.ne3, h1.ne4, h1.ne5, h1.ne6⟩ e3
    simpa [hp] using this
  obtain ⟨ui, hui, huz, husz, huby⟩ := tyI_spec ty_u8
  have hbl := hx1.lt
  have hne : bx ≠ bl := fun e => by
    omega
  -- the record's bytes, read
  refine cond_b (fun hc => ?_) (fun hc => ?_)
  · have h0 : pk.toNat / 64 = 0 := by simp at hc; omega
    have ht : tear D.last (i, b) pk = D.last := by unfold tear; rw [if_pos h0]
    have := hK w1 (by rw [ht]; exact h1) (e1.mono (by simp))
    have hd : ¬ 64 ≤ pk.toNat := by omega
    simpa [hd] using this
  · have hn0 : ¬ pk.toNat / 64 = 0 := by simp at hc; omega
    refine cond_b (fun hc => ?_) (fun hc => ?_)
    · have h1' : pk.toNat / 64 = 1 := by simp at hc; omega
      refine off_i (loadN (o := 0 + 1) hx1.r (by simp [bc_length, hb]) ?_)
      have hv : List.take 64 (List.drop (0 + 1) (Value.int .i64 (i : Int) :: bc b)) = bc b := by
        simp only [Nat.zero_add, List.drop_succ_cons, List.drop_zero]
        exact List.take_of_length_le (by rw [bc_length, hb]; omega)
      rw [hv]
      refine nil_i (PB.store (vs := bc b) h1.last rfl (by rw [bc_length, hb]) (by rw [bc_length]; omega) (bc_one _) fun w2 e2 hb2 hs2 => ?_)
      rw [Nat.zero_add, ← bc_spl] at hb2
      refine fin _ w2 _ e2 hb2 ?_ (by omega)
      unfold tear; rw [if_neg hn0, if_pos h1', Nat.mul_comm 64 i]
    · have hn1 : ¬ pk.toNat / 64 = 1 := by simp at hc; omega
      refine cond_b (fun hc => ?_) (fun hc => ?_)
      · have h2' : pk.toNat / 64 = 2 := by simp at hc; omega
        refine nil_i (slA_to (Nat.le_of_lt hk) ?_)
        refine off_i (slA_to (Nat.le_of_lt hk) ?_)
        refine PB.copy (ys := bc (b.take (pk.toNat % 64))) (m := pk.toNat % 64) und_u8s hui (w := w1.drew) (b := bl) (cs := bc D.last) h1.last ?_ (bc_one _) (by rw [bc_length, husz]; omega) fun w2 e2 hb2 hs2 => ?_
        · rw [husz]
          refine ⟨by rw [bc_length, List.length_take]; omega, .inr ⟨bx, 0 + 1, 64, _, rfl, hx1.r, ?_, by simp [bc_length, hb]; omega⟩⟩
          simp only [Nat.zero_add, List.drop_succ_cons, List.drop_zero, Nat.mul_one]
          simp [bc, List.map_take]
        · have e2 := e2.undrew
          rw [husz, Nat.min_self, List.take_of_length_le (by rw [bc_length, List.length_take]; omega), Nat.zero_add, ← bc_spl] at hb2
          refine fin _ w2 _ e2 hb2 ?_ (by omega)
          unfold tear; rw [if_neg hn0, if_neg hn1, if_pos h2', Nat.mul_comm 64 i]
      · have hn2 : ¬ pk.toNat / 64 = 2 := by simp at hc; omega
        have hsub : IntKind.i64.wrap (64 - ((pk.toNat % 64 : Nat) : Int)) = ((64 - pk.toNat % 64 : Nat) : Int) := by
          rw [i64_self (by omega)]; omega
        refine nil_i ?_
        simp only [bin_sub, hsub]
        refine ⟨trivial, slA_from (l := 64 - pk.toNat % 64) (Nat.sub_le _ _) ?_⟩
        refine off_i ⟨trivial, slA_from (l := 64 - pk.toNat % 64) (Nat.sub_le _ _) ?_⟩
        have h64 : 64 - (64 - pk.toNat % 64) = pk.toNat % 64 := by omega
        rw [h64]
        by_cases hz : pk.toNat % 64 = 0
        · rw [hz, Nat.sub_zero, if_pos rfl, if_pos rfl]
          refine PB.copy (ys := []) (m := 0) und_u8s hui (w := w1.drew) (b := bl) (cs := bc D.last) h1.last ⟨by simp, .inl ⟨rfl, _, _, rfl⟩⟩ (by simp) (by rw [bc_length, husz]; omega) fun w2 e2 hb2 hs2 => ?_
          have e2 := e2.undrew
          rw [List.take_nil, lspl_nil] at hb2
          refine fin _ w2 _ e2 hb2 ?_ (by omega)
          unfold tear; rw [if_neg hn0, if_neg hn1, if_neg hn2, hz, List.drop_of_length_le (show b.length ≤ 64 - 0 by omega)]
          simp [bspl]
        · rw [if_neg (by omega), if_neg (by omega)]
          refine PB.copy (ys := bc (b.drop (64 - pk.toNat % 64))) (m := pk.toNat % 64) und_u8s hui (w := w1.drew) (b := bl) (cs := bc D.last) h1.last ?_ (bc_one _) (by rw [bc_length, husz]; omega) fun w2 e2 hb2 hs2 => ?_
          · rw [husz]
            refine ⟨by rw [bc_length, List.length_drop]; omega, .inr ⟨bx, 0 + 1 + (64 - pk.toNat % 64) * 1, _, _, rfl, hx1.r, ?_, by simp [bc_length, hb]; omega⟩⟩
            rw [show 0 + 1 + (64 - pk.toNat % 64) * 1 = (64 - pk.toNat % 64) + 1 by omega, List.drop_succ_cons, List.take_of_length_le (by simp [bc_length, hb]; omega)]
            simp [bc, List.map_drop]
          · have e2 := e2.undrew
            rw [husz, Nat.min_self, List.take_of_length_le (by rw [bc_length, List.length_drop]; omega), ← bc_spl] at hb2
            refine fin _ w2 _ e2 hb2 ?_ (by omega)
            unfold tear; rw [if_neg hn0, if_neg hn1, if_neg hn2]
            congr 1
            omega

/-- What a crash leaves. -/
def tears (picks : Bytes) : Nat → List (Nat × Bytes) → Bytes → Bytes
  | _, [], last => last
  | k, x :: r, last => tears picks (k + 1) r (tear last x (picks.getD (k % picks.length) 0))
def donec (picks : Bytes) : Nat → List (Nat × Bytes) → Nat
  | _, [] => 0
  | k, _ :: r => (if 64 ≤ (picks.getD (k % picks.length) 0).toNat then 1 else 0) + donec picks (k + 1) r

def DiskM.crash (D : DiskM) (picks : Bytes) : DiskM :=
  let l := tears picks 0 D.pend D.last
  { D with last := l, seen := l, pend := [], left := -1 }

theorem tears_length {picks : Bytes} {n : Nat} : ∀ (ps : List (Nat × Bytes)) (k : Nat) (last : Bytes), last.length = 64 * n → (∀ x ∈ ps, x.1 < n ∧ x.2.length = 64) → (tears picks k ps last).length = 64 * n := by
  intro ps
  induction ps with
  | nil => intro k last h _; exact h
  | cons x r ih =>
    intro k last h hx
    have h0 := hx x List.mem_cons_self
    exact ih (k + 1) _ (tear_length h h0.1 h0.2 _) (fun y hy => hx y (List.mem_cons_of_mem _ hy))

theorem tears_snoc (picks : Bytes) : ∀ (ps : List (Nat × Bytes)) (k : Nat) (x : Nat × Bytes) (last : Bytes), tears picks k (ps ++ [x]) last = tear (tears picks k ps last) x (picks.getD ((k + ps.length) % picks.length) 0) := by
  intro ps
  induction ps with
  | nil => intro k x last; simp [tears]
  | cons y r ih => intro k x last; simp only [List.cons_append, tears, ih, List.length_cons]; rw [show k + 1 + r.length = k + (r.length + 1) by omega]
theorem donec_snoc (picks : Bytes) : ∀ (ps : List (Nat × Bytes)) (k : Nat) (x : Nat × Bytes), donec picks k (ps ++ [x]) = donec picks k ps + (if 64 ≤ (picks.getD ((k + ps.length) % picks.length) 0).toNat then 1 else 0) := by
  intro ps
  induction ps with
  | nil => intro k x; simp [donec]
  | cons y r ih => intro k x; simp only [List.cons_append, donec, ih, List.length_cons]; rw [show k + 1 + r.length = k + (r.length + 1) by omega]; omega
theorem donec_le (picks : Bytes) : ∀ (ps : List (Nat × Bytes)) (k : Nat), donec picks k ps ≤ ps.length := by
  intro ps
  induction ps with
  | nil => intro k; exact Nat.le_refl _
  | cons y r ih => intro k; have := ih (k + 1); simp only [donec, List.length_cons]; split <;> omega

theorem pcells_length {n : Nat} : ∀ {ps : List (Nat × Bytes)}, (∀ x ∈ ps, x.1 < n ∧ x.2.length = 64) → (pcells ps).length = ps.length * 65 := by
  intro ps
  induction ps with
  | nil => intro _; rfl
  | cons x r ih =>
    intro h
    have := ih (fun y hy => h y (List.mem_cons_of_mem _ hy))
    have h0 := (h x List.mem_cons_self).2
    simp only [pcells, List.flatMap_cons, List.length_append, List.length_cons, bc_length, h0] at this ⊢
    omega

theorem pcells_get {n : Nat} {ps : List (Nat × Bytes)} (h : ∀ x ∈ ps, x.1 < n ∧ x.2.length = 64) {k : Nat} (hk : k < ps.length) : ((pcells ps).drop (k * 65)).take 65 = .int .i64 ps[k].1 :: bc ps[k].2 := by
  have hsplit : ps = ps.take k ++ ps[k] :: ps.drop (k + 1) := by
    rw [List.getElem_cons_drop, List.take_append_drop]
  have e : pcells ps = pcells (ps.take k) ++ ((.int .i64 ps[k].1 :: bc ps[k].2) ++ pcells (ps.drop (k + 1))) := by
    refine (congrArg pcells hsplit).trans ?_
    simp only [pcells, List.flatMap_append, List.flatMap_cons]
  have hl : (pcells (ps.take k)).length = k * 65 := by
    rw [pcells_length (n := n) (fun x hx => h x (List.mem_of_mem_take hx)), List.length_take]
    omega
  have hl2 : (Value.int .i64 (ps[k].1 : Int) :: bc ps[k].2).length = 65 := by
    rw [List.length_cons, bc_length, (h _ (List.getElem_mem hk)).2]
  rw [e, List.drop_append_of_le_length (by omega), List.drop_of_length_le (by omega), List.nil_append, List.take_append_of_le_length (by omega), List.take_of_length_le (by omega)]


theorem crash_c {w : World} {p : Nat} {F : List Nat} {D : DiskM} (h : Disk w p F D) (picks : Bytes) {pv : Value} (hp : RdSl w pv 1 (bc picks) picks.length) (hpd : 0 < picks.length → ∀ b ∈ slB pv, b ∉ F ∧ b < w.heap.size) (hlen : D.pend.length ≤ 1000000) {K : VPost}
    (hK : ∀ F' w', Disk w' p F' (D.crash picks) → Mv F w F' w' → K (.int .i64 (donec picks 0 D.pend)) w') :
    Calls Tryz.prog 24 #[.pointer (some ⟨p, 0, none⟩), pv] w (retK K) := by
  refine c24_calls _ _ w K ?_
  unfold c24
  refine bindX_i fun J0 h0 => bindX_i fun J1 h1 => ?_
  -- from where there is a pick on
  have rest : ∀ (fr : Fr) (w1 : World) (pv1 : Value) (pk : Bytes), fr 0 = .pointer (some ⟨p, 0, none⟩) → fr 1 = pv1 → RdSl w1 pv1 1 (bc pk) pk.length → 0 < pk.length → (∀ b ∈ slB pv1, b ∉ F ∧ b < w1.heap.size) → Ext [] w w1 → Disk w1 p F D →
      (∀ k, pk.getD (k % pk.length) 0 = picks.getD (k % picks.length) 0) → J1 .normal fr w1 := by
    intro fr w1 pv1 pk f0 f1 hp1 hpos hd1 e1 hD1 hpk
    refine seq_n h1 ?_
    obtain ⟨bl, bs, zl, zs, qv, hd, hF⟩ := hD1
    subst hF
    simp only [f0, f1, nilW_e]
    refine bindX_i fun J2 h2 => ?_
    refine off_i (load1 (o := 0 + 2) hd.hdr.r rfl ?_)
    obtain ⟨qa, qc, hqv⟩ := hd.pend.shape
    subst hqv
    simp only [len_s]
    refine bindX_i fun J3 h3 => ?_
    refine loop_i (fun m fr w2 => ∃ k : Nat, m = D.pend.length - k ∧ k ≤ D.pend.length ∧ fr 0 = .pointer (some ⟨p, 0, none⟩) ∧ fr 1 = pv1 ∧ fr 5 = .int .i64 (donec picks 0 (D.pend.take k)) ∧ fr 15 = .slice qa D.pend.length qc ∧ fr 16 = .int .i64 D.pend.length ∧ fr 17 = .int .i64 k ∧
      IsDisk w2 p bl bs zl zs (.slice qa D.pend.length qc) { D with last := tears picks 0 (D.pend.take k) D.last } ∧ Ext [bl] w1 w2) D.pend.length ?_ ?_
    · exact ⟨0, rfl, Nat.zero_le _, f0, f1, rfl, rfl, rfl, rfl, by simpa [tears] using hd, Ext.refl _ _⟩
    · rintro m fr w2 J ⟨k, rfl, hk, g0, g1, g5, g15, g16, g17, hD2, e2⟩ hJ hX
      simp only [g0, g1, g5, g15, g16, g17, bin_lss]
      refine cond_d (fun hlt => ?_) (fun hlt => ?_)
      · have hlt : k < D.pend.length := by omega
        refine bindX_i fun J4 h4 => bindX_i fun J5 h5 => ?_
        -- the record
        obtain ⟨hb1, ⟨hb2, _⟩ | ⟨b, o, c, cs, hbv, hbr, hb3, hb4⟩⟩ := hD2.pend.rd
        · exfalso
          have := pcells_length (n := D.n) hD2.ok.plen
          simp only at this hb2
          rw [hb2] at this
          simp at this; omega
        have hbv' := hbv
        simp only [Value.slice.injEq] at hbv
        obtain ⟨rfl, _, rfl⟩ := hbv
        have hk65 : k * 65 + 65 ≤ D.pend.length * 65 := by
          have := Nat.mul_le_mul_right 65 (show k + 1 ≤ D.pend.length from hlt); omega
        simp only at hb3 hb4
        refine idx_i hlt (loadN hbr (by omega) ?_)
        have hrec : List.take 65 (List.drop (o + k * 65) cs) = .int .i64 D.pend[k].1 :: bc D.pend[k].2 := by
          rw [← pcells_get (n := D.n) hD2.ok.plen hlt, ← hb3, List.drop_take, List.take_take, List.drop_drop, Nat.min_eq_left (by omega)]
        rw [hrec]
        obtain ⟨ti, hti, htz, htsz, htby⟩ := tyI_spec ty_write
        have htz' : zeroO Tryz.prog 81 = some (.agg (List.replicate 1 (Value.int .i64 0) ++ List.replicate 64 (Value.int .u8 0)).toArray) := by simp only [zeroO, hti, Option.bind_some, htz]
        have hpl := hD2.ok.plen D.pend[k] (List.getElem_mem hlt)
        have hrl : (Value.int .i64 (D.pend[k].1 : Int) :: bc D.pend[k].2).length = 65 := by rw [List.length_cons, bc_length, hpl.2]
        refine allocW_i htz' fun b3 w3 hb3' e3 hk3 hs3 => ?_
        refine storeAll hk3 hrl (by simp [Value.cells]) (by
          intro y hy
          rcases List.mem_cons.1 hy with rfl | hy
          · rfl
          · exact bc_one _ y hy) fun w4 e4 hk4 hs4 => ?_
        have e24 : Ext [] w2 w4.drew := ((Ext.refl [] w2).new e3).step (e4.step (Ext.drew [] w4) (by simp)) (by intro x hx hlt; simp at hx; omega)
        have hk4 : Blk w4.drew b3 _ _ := hk4
        generalize w4.drew = w5 at *
        refine loadAll hk4.r hrl ?_
        have e15 : Ext [bl] w1 w5 := e2.new e24
        have hp5 : RdSl w5 pv1 1 (bc pk) pk.length := hp1.keep e15 (fun b hb => by have := (hd1 b hb).1; simp at this ⊢; exact this.2.1)
        obtain ⟨pa, pc, hpv⟩ := hp1.len
        have hpl2 : ((pk.length : Nat) : Int) ≠ 0 := by omega
        rw [hpv]
        simp only [len_s]
        refine ⟨trivial, ?_⟩
        rw [bin_rem hpl2]
        refine ⟨rfl, ?_⟩
        have hmod : ((k : Nat) : Int).tmod ((pk.length : Nat) : Int) = ((k % pk.length : Nat) : Int) := by
          rw [Int.tmod_eq_emod_of_nonneg (by omega)]; omega
        rw [hmod, ← hpv]
        obtain ⟨ib, io, hix, hld⟩ := hp5.at1 (Nat.mod_lt k hpos) .i64
        refine hix _ (hld _ ?_)
        rw [hpk k]
        have hD5 := hD2.keep e24 (by simp)
        refine fnW_of (by kernel_rfl) (torn_c hD5 D.pend[k] hpl.1 hpl.2 _ fun w6 hD6 e6 => ?_)
        have htk : D.pend.take (k + 1) = D.pend.take k ++ [D.pend[k]] := List.take_succ_eq_append_getElem hlt
        have hlk : (D.pend.take k).length = k := by rw [List.length_take]; omega
        have hD6 : IsDisk w6 p bl bs zl zs (.slice (some ⟨b, o, none⟩) D.pend.length qc) { D with last := tears picks 0 (D.pend.take (k + 1)) D.last } := by
          rw [htk, tears_snoc, hlk, Nat.zero_add]
          exact hD6
        have hdn : donec picks 0 (D.pend.take (k + 1)) = donec picks 0 (D.pend.take k) + (if 64 ≤ (picks.getD (k % picks.length) 0).toNat then 1 else 0) := by
          rw [htk, donec_snoc, hlk, Nat.zero_add]
        have hdl := donec_le picks (D.pend.take k) 0
        -- the round's end
        have next : ∀ (fr' : Fr) (d : Nat), d = donec picks 0 (D.pend.take (k + 1)) → fr' 0 = .pointer (some ⟨p, 0, none⟩) → fr' 1 = pv1 → fr' 5 = .int .i64 d → fr' 15 = .slice (some ⟨b, o, none⟩) D.pend.length qc → fr' 16 = .int .i64 D.pend.length → fr' 17 = .int .i64 k → J4 .normal fr' w6 := by
          intro fr' d hd' q0 q1 q5 q15 q16 q17
          refine seq_n h4 ?_
          simp only [q17, bin_add]
          rw [i64_self (by omega)]
          refine hJ (D.pend.length - (k + 1)) _ _ (by omega) ⟨k + 1, rfl, hlt, q0, q1, by rw [← hd']; exact q5, q15, q16, ?_, hD6, e15.step e6 (by simp)⟩
          show Value.int .i64 ((k : Int) + 1) = _
          simp
        refine cond_d (fun hc => ?_) (fun hc => ?_)
        · simp only [bin_add]
          rw [i64_self (by omega)]
          rw [if_pos hc] at hdn
          exact next _ _ hdn.symm g0 g1 (by show Value.int .i64 ((donec picks 0 (D.pend.take k) : Int) + 1) = _; simp) g15 g16 g17
        · rw [if_neg hc] at hdn
          exact next _ _ hdn.symm g0 g1 g5 g15 g16 g17
      · have hkn : k = D.pend.length := by omega
        subst hkn
        refine hX _ _ _ (by simp) (h3 _ _ _ (blk_x (seq_n h2 ?_)))
        rw [List.take_length] at hD2 g5
        simp only [putF_ne _ _ _ _ _ (show (some 18 : Option Nat) ≠ some 0 by decide), putF_ne _ _ _ _ _ (show (some 18 : Option Nat) ≠ some 5 by decide), g0, g5, nilW_e]
        refine off_i (load1 (o := 0 + 1) hD2.hdr.r rfl (off_i (load1 (o := 0 + 0) hD2.hdr.r rfl ?_)))
        obtain ⟨i, hi, hz, hsz, hby⟩ := tyI_spec ty_block
        have hl := hD2.ok.llen
        have hs := hD2.ok.slen
        simp only at hl hs
        refine PB.copy (ys := bc (tears picks 0 D.pend D.last)) (m := D.n) und_blocks hi hD2.seen (hD2.last.rd (by rw [bc_length, hsz]; dsimp only; omega))
          (bc_one _) (by rw [bc_length, hsz]; simp only; omega) fun w3 e3 hb3 hs3 => ?_
        have e3 := e3.undrew
        have hh3 := hD2.hdr.keep e3 (by simpa using hD2.ne2)
        have hl3 := hD2.last.keep e3 (by simpa using hD2.ne3)
        have : lspl (bc D.seen) 0 (List.take (min D.n D.n * i.size) (bc (tears picks 0 D.pend D.last))) = bc (tears picks 0 D.pend D.last) := by
          rw [List.take_of_length_le (by rw [bc_length, hsz, Nat.min_self]; omega)]
          exact lspl_all (by rw [bc_length, bc_length]; omega)
        simp only [this] at hb3
        refine off_i (o := 0) (k := 2) (store1 (o := 0 + 2) hh3 rfl (by simp) rfl fun w4 e4 hh4 hz4 => ?_)
        refine off_i (o := 0) (k := 3) (store1 (o := 0 + 3) hh4 rfl (by simp) rfl fun w5 e5 hh5 hz5 => ?_)
        have hne1 := hD2.ne1
        have hne2 := hD2.ne2
        have hne3 := hD2.ne3
        have hok : (D.crash picks).ok := ⟨hl, hl, by simp [DiskM.crash], hD2.ok.n1, hD2.ok.n2, by simp [DiskM.crash], by simp [DiskM.crash]⟩
        refine hK [p, bl, bs] w5 ⟨bl, bs, zl, zs, .slice none 0 0, ⟨hh5, (hl3.keep e4 (by simpa using Ne.symm hne1)).keep e5 (by simpa using Ne.symm hne1), (hb3.keep e4 (by simpa using Ne.symm hne2)).keep e5 (by simpa using Ne.symm hne2), .inl ⟨rfl, rfl, rfl⟩,
          hok, hne1, hne2, hne3, by simp [slB], by simp [slB], by simp [slB]⟩, by simp [slB]⟩ ⟨?_, ?_⟩
        · exact ((((e1.mono (by simp)).step e2 (by intro x hx _; simp at hx; subst hx; simp)).step e3 (by intro x hx _; simp at hx; subst hx; simp)).step e4 (by intro x hx _; simp at hx; subst hx; simp)).step e5 (by intro x hx _; simp at hx; subst hx; simp)
        · intro x hx
          left
          simp at hx ⊢
          rcases hx with rfl | rfl | rfl <;> simp
  obtain ⟨a, c, hpv⟩ := hp.len
  subst hpv
  simp only [len_s, bin_eql]
  refine cond_b (fun hc => ?_) (fun hc => ?_)
  · have h0 : picks.length = 0 := by simp at hc; simp [hc]
    have hpn : picks = [] := List.length_eq_zero_iff.1 h0
    obtain ⟨ui, hui, huz, husz, huby⟩ := tyI_spec ty_u8
    refine buildSlice_i (vs := [bv 0]) und_u8s hui huz rfl (by intro v hv; simp at hv; subst hv; rw [husz]; rfl) (by rw [husz]; simp) fun b1 w1 hb1 e1 hk1 hs1 => ?_
    refine rest _ w1 (.slice (some ⟨b1, 0, none⟩) 1 1) [0] rfl rfl ⟨by simp [bc_length], .inr ⟨b1, 0, 1, _, rfl, hk1.r, by simp [flatV, bc, bv, Value.cells], by simp [flatV, bv, Value.cells]⟩⟩ (by simp) ?_ e1 (h.keep e1 (by simp)) ?_
    · intro b hb
      simp [slB] at hb
      subst hb
      refine ⟨fun hm => ?_, by omega⟩
      have := h.lt b hm; omega
    · intro k; subst hpn; simp [Nat.mod_one]
  · have hpos : 0 < picks.length := by
      simp at hc
      exact List.length_pos_iff.2 hc
    exact rest _ w _ picks rfl rfl hp hpos (hpd hpos) (Ext.refl _ _) h (fun _ => rfl)

end Go.Proofs.YtedebapgmfnflaaGreatDoor

/- The disk in hand; an area's sectors: walks. Condition: at most 10^6 writes are pending. -/
namespace Go.Proofs.YtedebapgmfnflaaGreatDoor
open Go
set_option maxRecDepth 100000

def rDk (p : Nat) (F : List Nat) (D : DiskM) : Res := ⟨F, fun w => Disk w p F D, fun h => h.lt, fun h e hd => h.keep e hd⟩

section
variable {S : List Nat} {w0 w : World} {L R : List Res} {K : VPost} {p : Nat} {F : List Nat} {D : DiskM}
theorem Sep.moved {F' : List Nat} {D' : DiskM} {w' : World} (s : Sep S w0 w L R) (i : Nat) (hL : L[i]? = some (rDk p F D)) (h : Disk w' p F' D') (m : Mv F w F' w') : Sep S w0 w' (L.set i (rDk p F' D')) R :=
  s.upd (T := rDk p F D) i hL (T' := rDk p F' D') h m.ext m.own
theorem Sep.dsize (s : Sep S w0 w L R) (i : Nat) (hL : L[i]? = some (rDk p F D)) (h : K (.int .i64 D.n) w) : fnW Tryz.prog 46 #[.pointer (some ⟨p, 0, none⟩)] w K :=
  fnW_of (by kernel_rfl) (size_c (s.at i hL) h)
theorem Sep.dread (s : Sep S w0 w L R) (i : Nat) (hL : L[i]? = some (rDk p F D)) (q : Int) (h : ∀ w', Sep S w0 w' L R → K (.tuple #[.agg (bc (D.read q).1).toArray, .int .i64 (D.read q).2]) w') : fnW Tryz.prog 61 #[.pointer (some ⟨p, 0, none⟩), .int .i64 q] w K :=
  fnW_of (by kernel_rfl) (read_c (s.at i hL) q fun w' e => h w' (s.ext0 e))
theorem Sep.dreadR (s : Sep S w0 w L R) (i : Nat) (hR : R[i]? = some (rDk p F D)) (q : Int) (h : ∀ w', Sep S w0 w' L R → K (.tuple #[.agg (bc (D.read q).1).toArray, .int .i64 (D.read q).2]) w') : fnW Tryz.prog 61 #[.pointer (some ⟨p, 0, none⟩), .int .i64 q] w K :=
  fnW_of (by kernel_rfl) (read_c (s.rat i hR) q fun w' e => h w' (s.ext0 e))
theorem Sep.dwrite (s : Sep S w0 w L R) (i : Nat) (hL : L[i]? = some (rDk p F D)) (q : Int) (b : Bytes) (hb : b.length = 64) (hp : D.pend.length ≤ 1000000) (h : ∀ F' w', Sep S w0 w' (L.set i (rDk p F' (D.write q b).1)) R → K (.int .i64 (D.write q b).2) w') :
    fnW Tryz.prog 64 #[.pointer (some ⟨p, 0, none⟩), .int .i64 q, .agg (bc b).toArray] w K :=
  fnW_of (by kernel_rfl) (write_c (s.at i hL) q b hb hp fun F' w' hd m => h F' w' (s.moved i hL hd m))
theorem Sep.dflush (s : Sep S w0 w L R) (i : Nat) (hL : L[i]? = some (rDk p F D)) (h : ∀ F' w', Sep S w0 w' (L.set i (rDk p F' D.flush)) R → K (.tuple #[]) w') : fnW Tryz.prog 52 #[.pointer (some ⟨p, 0, none⟩)] w K :=
  fnW_of (by kernel_rfl) (flush_c (s.at i hL) fun F' w' hd m => h F' w' (s.moved i hL hd m))
theorem Sep.dlimit (s : Sep S w0 w L R) (i : Nat) (hL : L[i]? = some (rDk p F D)) (k : Int) (hk : k ≤ 9223372036854775807) (h : ∀ F' w', Sep S w0 w' (L.set i (rDk p F' (D.limit k))) R → K (.tuple #[]) w') : fnW Tryz.prog 23 #[.pointer (some ⟨p, 0, none⟩), .int .i64 k] w K :=
  fnW_of (by kernel_rfl) (limit_c (s.at i hL) k hk fun F' w' hd m => h F' w' (s.moved i hL hd m))
end

theorem told_c {w : World} {K : VPost} {x : Value} {b : Bytes} (h : RdSl w x 1 (bc b) b.length) (hl : b.length ≤ 4) (hK : K (.int .i64 (beN b)) w) : Calls Tryz.prog 68 #[x] w (retK K) := by
  refine c68_calls _ w K ?_
  unfold c68
  refine bindX_i fun J0 h0 => bindX_i fun J1 h1 => ?_
  rw [h.lenw]
  refine bindX_i fun J2 h2 => ?_
  refine loop_i (fun m fr wr => ∃ i : Nat, m = b.length - i ∧ i ≤ b.length ∧ fr 3 = .int .i64 (beN (b.take i)) ∧ fr 6 = x ∧ fr 7 = .int .i64 b.length ∧ fr 8 = .int .i64 i ∧ wr = w) b.length ?_ ?_
  · exact ⟨0, rfl, by omega, rfl, rfl, rfl, rfl, rfl⟩
  · rintro m fr wr J ⟨i, rfl, hi, f3, f6, f7, f8, rfl⟩ hJ hX
    rw [f8, f7]
    refine nlss (cond_d (fun hlt => ?_) (fun hlt => ?_))
    · rw [f6, f3]
      obtain ⟨b1, o1, i1, l1⟩ := RdSl.elAt (f := bv) 0 h (k := i) hlt .i64
      refine i1 _ ?_
      refine l1 _ ?_
      have hb := beN_lt (b.take i)
      have hlen : (b.take i).length = i := by rw [List.length_take]; omega
      rw [hlen] at hb
      have hp : 256 ^ i ≤ 256 ^ 3 := Nat.pow_le_pow_right (by decide) (by omega)
      have h3 : (256 : Nat) ^ 3 = 16777216 := by decide
      refine nshl (s := 8) (by decide) (by omega) ?_
      have hg : b.getD i 0 = b[i] := by rw [List.getD_eq_getElem?_getD, List.getElem?_eq_getElem hlt]; rfl
      have hc := (b[i]).toNat_lt
      rw [hg, show bv b[i] = .int .u8 b[i].toNat from rfl, convN_i und_u8 und_int, i64_fit (by omega)]
      refine nor (by omega) (by omega) ?_
      rw [beN_or]
      refine nadd (y := 1) (by omega) ?_
      refine hJ (b.length - (i + 1)) _ _ (by omega) ⟨i + 1, rfl, by omega, ?_, f6, f7, rfl, rfl⟩
      show Value.int .i64 _ = _
      rw [List.take_succ_eq_append_getElem hlt]
    · obtain rfl : i = b.length := by omega
      refine hX _ _ _ (by simp) (h2 _ _ _ (h1 _ _ _ ?_))
      show K (fr 3) _
      rw [f3, List.take_length]
      exact hK

/-- What an area has in its block. -/
structure AreaH where
  disk : Nat
  first : Nat
  size : Nat
  gen : Nat
  next : Nat
  recs : Value
  stuck : Bool
def AreaH.cells (A : AreaH) : List Value := [.pointer (some ⟨A.disk, 0, none⟩), .int .i64 A.first, .int .i64 A.size, .int .i64 A.gen, .int .i64 A.next, A.recs, .bool A.stuck]

theorem areaStuck_c {w : World} {K : VPost} {a : Nat} {A : AreaH} {t : TypeId} (h : Blk w a A.cells t) (hK : K (.bool A.stuck) w) : Calls Tryz.prog 37 #[.pointer (some ⟨a, 0, none⟩)] w (retK K) := by
  refine c37_calls _ w K ?_
  unfold c37
  rw [nilW_e]
  exact off_i (load1 h.r rfl hK)
end Go.Proofs.YtedebapgmfnflaaGreatDoor

/- Sectors of a disk's bytes; what a crash makes of them: plain laws. -/
namespace Go.Proofs.YtedebapgmfnflaaGreatDoor
open Go
set_option maxRecDepth 100000

def sec (b : Bytes) (i : Nat) : Bytes := (b.drop (64 * i)).take 64
theorem sec_length {b : Bytes} {n i : Nat} (hb : b.length = 64 * n) (hi : i < n) : (sec b i).length = 64 := by
  rw [sec, List.length_take, List.length_drop, hb]; omega
theorem sec_get (b : Bytes) (i m : Nat) : (sec b i)[m]? = if m < 64 then b[64 * i + m]? else none := by
  rw [sec, List.getElem?_take]
  split
  · rw [List.getElem?_drop]
  · rfl
theorem bspl_get {l y : Bytes} {o : Nat} (h : o + y.length ≤ l.length) (m : Nat) : (bspl l o y)[m]? = if m < o then l[m]? else if m < o + y.length then y[m - o]? else l[m]? := by
  unfold bspl
  have ht : (l.take o).length = o := by rw [List.length_take]; omega
  rw [List.append_assoc]
  by_cases h1 : m < o
  · rw [if_pos h1, List.getElem?_append_left (by omega), List.getElem?_take, if_pos h1]
  · rw [if_neg h1, List.getElem?_append_right (by omega), ht]
    by_cases h2 : m < o + y.length
    · rw [if_pos h2, List.getElem?_append_left (by omega)]
    · rw [if_neg h2, List.getElem?_append_right (by omega), List.getElem?_drop]
      congr 1
      omega
theorem sec_spl {b y : Bytes} {n i t : Nat} (hb : b.length = 64 * n) (hi : i < n) (ht : t + y.length ≤ 64) (j : Nat) :
    sec (bspl b (64 * i + t) y) j = if j = i then (sec b i).take t ++ y ++ (sec b i).drop (t + y.length) else sec b j := by
  have hsl := sec_length hb hi
  by_cases hj : j = i
  · subst hj
    rw [if_pos rfl]
    apply List.ext_getElem?
    intro m
    have e : (sec b j).take t ++ y ++ (sec b j).drop (t + y.length) = bspl (sec b j) t y := rfl
    rw [e, sec_get, bspl_get (by omega), bspl_get (by omega), sec_get]
    by_cases h1 : m < 64
    · rw [if_pos h1, if_pos h1]
      by_cases h2 : m < t
      · rw [if_pos h2, if_pos (by omega)]
      · rw [if_neg h2, if_neg (by omega)]
        by_cases h3 : m < t + y.length
        · rw [if_pos h3, if_pos (by omega)]
          congr 1
          omega
        · rw [if_neg h3, if_neg (by omega)]
    · rw [if_neg h1, if_neg h1, if_neg (by omega), if_neg (by omega)]
  · rw [if_neg hj]
    apply List.ext_getElem?
    intro m
    rw [sec_get, sec_get]
    by_cases h1 : m < 64
    · rw [if_pos h1, if_pos h1, bspl_get (by omega)]
      by_cases h2 : 64 * j + m < 64 * i + t
      · rw [if_pos h2]
      · rw [if_neg h2, if_neg (by omega)]
    · rw [if_neg h1, if_neg h1]
theorem sec_put {b x : Bytes} {n i : Nat} (hb : b.length = 64 * n) (hi : i < n) (hx : x.length = 64) (j : Nat) : sec (bspl b (64 * i) x) j = if j = i then x else sec b j := by
  have h := sec_spl (t := 0) (y := x) hb hi (by omega) j
  rw [Nat.add_zero] at h
  rw [h]
  have hsl := sec_length hb hi
  congr 1
  rw [List.take_zero, List.nil_append, List.drop_of_length_le (by omega), List.append_nil]

/-- A part of a sector over another one. -/
def TornOf (old b x : Bytes) : Prop := ∃ k, k ≤ 64 ∧ (x = b.take k ++ old.drop k ∨ x = old.take k ++ b.drop k)
theorem TornOf.length {old b x : Bytes} (h : TornOf old b x) (ho : old.length = 64) (hb : b.length = 64) : x.length = 64 := by
  obtain ⟨k, hk, rfl | rfl⟩ := h
  · rw [List.length_append, List.length_take, List.length_drop]; omega
  · rw [List.length_append, List.length_take, List.length_drop]; omega
theorem tear_sec {last : Bytes} {n : Nat} (hl : last.length = 64 * n) {x : Nat × Bytes} (hx : x.1 < n) (hb : x.2.length = 64) (p : UInt8) : (∀ j, j ≠ x.1 → sec (tear last x p) j = sec last j) ∧ TornOf (sec last x.1) x.2 (sec (tear last x p) x.1) := by
  have hs := sec_length hl hx
  have hm := Nat.mod_lt p.toNat (show 0 < 64 by decide)
  unfold tear
  by_cases h0 : p.toNat / 64 = 0
  · rw [if_pos h0]
    exact ⟨fun _ _ => rfl, 0, by omega, .inl (by simp)⟩
  rw [if_neg h0]
  by_cases h1 : p.toNat / 64 = 1
  · rw [if_pos h1]
    refine ⟨fun j hj => by rw [sec_put hl hx hb, if_neg hj], 64, by omega, .inl ?_⟩
    rw [sec_put hl hx hb, if_pos rfl, List.take_of_length_le (by omega), List.drop_of_length_le (by omega), List.append_nil]
  rw [if_neg h1]
  by_cases h2 : p.toNat / 64 = 2
  · rw [if_pos h2]
    have htl : (x.2.take (p.toNat % 64)).length = p.toNat % 64 := by rw [List.length_take]; omega
    have h := fun j => sec_spl (t := 0) (y := x.2.take (p.toNat % 64)) hl hx (by omega) j
    simp only [Nat.add_zero] at h
    refine ⟨fun j hj => by rw [h, if_neg hj], p.toNat % 64, by omega, .inl ?_⟩
    rw [h, if_pos rfl, htl, List.take_zero, List.nil_append, Nat.zero_add]
  · rw [if_neg h2]
    have hdl : (x.2.drop (64 - p.toNat % 64)).length = p.toNat % 64 := by rw [List.length_drop]; omega
    have h := fun j => sec_spl (t := 64 - p.toNat % 64) (y := x.2.drop (64 - p.toNat % 64)) hl hx (by omega) j
    refine ⟨fun j hj => by rw [h, if_neg hj], 64 - p.toNat % 64, by omega, .inr ?_⟩
    have e0 : (sec last x.1).drop (64 - p.toNat % 64 + p.toNat % 64) = [] := List.drop_of_length_le (by omega)
    rw [h, if_pos rfl, hdl, e0, List.append_nil]

def pendOn (ps : List (Nat × Bytes)) (j : Nat) : List (Nat × Bytes) := ps.filter fun x => decide (x.1 = j)
theorem tears_sec (picks : Bytes) {n : Nat} : ∀ (ps : List (Nat × Bytes)) (k : Nat) (last : Bytes), last.length = 64 * n → (∀ x ∈ ps, x.1 < n ∧ x.2.length = 64) → ∀ j,
    (pendOn ps j = [] → sec (tears picks k ps last) j = sec last j) ∧ (∀ y, pendOn ps j = [y] → TornOf (sec last j) y.2 (sec (tears picks k ps last) j))
  | [], k, last, _, _, j => ⟨fun _ => rfl, fun y h => by cases h⟩
  | x :: r, k, last, hl, hx, j => by
    have h0 := hx x List.mem_cons_self
    have hr : ∀ y ∈ r, y.1 < n ∧ y.2.length = 64 := fun y hy => hx y (List.mem_cons_of_mem _ hy)
    obtain ⟨t1, t2⟩ := tear_sec hl h0.1 h0.2 (picks.getD (k % picks.length) 0)
    have ih := tears_sec picks r (k + 1) _ (tear_length hl h0.1 h0.2 (picks.getD (k % picks.length) 0)) hr j
    rw [tears]
    by_cases hj : x.1 = j
    · have e : pendOn (x :: r) j = x :: pendOn r j := by unfold pendOn; rw [List.filter_cons_of_pos (by simpa using hj)]
      rw [e]
      refine ⟨fun h => by (cases h), fun y h => ?_⟩
      obtain ⟨rfl, h2⟩ := List.cons.inj h
      rw [ih.1 h2]
      subst hj
      exact t2
    · have e : pendOn (x :: r) j = pendOn r j := by unfold pendOn; rw [List.filter_cons_of_neg (by simpa using hj)]
      have es := t1 j (fun h => hj h.symm)
      rw [e, ← es]
      exact ih
/-- What all sectors have, and what is torn has, all have behind a crash. -/
theorem tears_all (picks : Bytes) {n : Nat} (Q : Bytes → Prop) (hQ : ∀ old b x : Bytes, old.length = 64 → b.length = 64 → Q old → Q b → TornOf old b x → Q x) : ∀ (ps : List (Nat × Bytes)) (k : Nat) (last : Bytes), last.length = 64 * n → (∀ x ∈ ps, x.1 < n ∧ x.2.length = 64) →
    (∀ j, j < n → Q (sec last j)) → (∀ x ∈ ps, Q x.2) → ∀ j, j < n → Q (sec (tears picks k ps last) j)
  | [], k, last, _, _, h, _, j, hj => h j hj
  | x :: r, k, last, hl, hx, h, hp, j, hj => by
    have h0 := hx x List.mem_cons_self
    obtain ⟨t1, t2⟩ := tear_sec hl h0.1 h0.2 (picks.getD (k % picks.length) 0)
    refine tears_all picks Q hQ r (k + 1) _ (tear_length hl h0.1 h0.2 _) (fun y hy => hx y (List.mem_cons_of_mem _ hy)) (fun i hi => ?_) (fun y hy => hp y (List.mem_cons_of_mem _ hy)) j hj
    by_cases e : i = x.1
    · subst e
      exact hQ _ _ _ (sec_length hl h0.1) h0.2 (h _ h0.1) (hp x List.mem_cons_self) t2
    · rw [t1 i e]; exact h i hi

/-- Both ends have generations of at most so much. -/
def lowE (H : Nat) (b : Bytes) : Prop := (∃ g, g ≤ H ∧ b.take 4 = beP 4 g) ∧ ∃ g, g ≤ H ∧ (b.drop 56).take 4 = beP 4 g
theorem beP_small {g : Nat} (h : g < 256) : beP 4 g = [0, 0, 0, UInt8.ofNat g] := by
  unfold beP beP beP beP beP
  simp only [Nat.shiftRight_eq_div_pow]
  rw [Nat.div_eq_of_lt (show g < 2 ^ (8 * 3) by omega), Nat.div_eq_of_lt (show g < 2 ^ (8 * 2) by omega), Nat.div_eq_of_lt (show g < 2 ^ (8 * 1) by omega)]
  simp
theorem four_mix {H : Nat} (hH : H < 256) {a b : Bytes} (ha : ∃ g, g ≤ H ∧ a = beP 4 g) (hb : ∃ g, g ≤ H ∧ b = beP 4 g) (k : Nat) : ∃ g, g ≤ H ∧ a.take k ++ b.drop k = beP 4 g := by
  obtain ⟨g, h1, rfl⟩ := ha
  obtain ⟨g', h2, rfl⟩ := hb
  rw [beP_small (by omega), beP_small (by omega)]
  match k with
  | 0 => exact ⟨g', h2, by rw [beP_small (by omega)]; rfl⟩
  | 1 => exact ⟨g', h2, by rw [beP_small (by omega)]; rfl⟩
  | 2 => exact ⟨g', h2, by rw [beP_small (by omega)]; rfl⟩
  | 3 => exact ⟨g', h2, by rw [beP_small (by omega)]; rfl⟩
  | k + 4 => exact ⟨g, h1, by rw [beP_small (by omega)]; simp⟩
theorem mix_part (a b : Bytes) (k o : Nat) (hk : k ≤ 64) (ho : o ≤ 60) (ha : a.length = 64) (hb : b.length = 64) : ((a.take k ++ b.drop k).drop o).take 4 = ((a.drop o).take 4).take (k - o) ++ ((b.drop o).take 4).drop (k - o) := by
  apply List.ext_getElem?
  intro m
  have hla : (a.take k).length = k := by rw [List.length_take]; omega
  have hlp : (((a.drop o).take 4).take (k - o)).length = min (k - o) 4 := by rw [List.length_take, List.length_take, List.length_drop]; omega
  rw [List.getElem?_take]
  by_cases h4 : m < 4
  · rw [if_pos h4, List.getElem?_drop]
    by_cases h1 : o + m < k
    · rw [List.getElem?_append_left (by omega), List.getElem?_append_left (by omega), List.getElem?_take, if_pos h1, List.getElem?_take, if_pos (by omega), List.getElem?_take, if_pos h4, List.getElem?_drop]
    · rw [List.getElem?_append_right (by omega), List.getElem?_append_right (by omega), hla, hlp, List.getElem?_drop, List.getElem?_drop, List.getElem?_take, if_pos (by omega), List.getElem?_drop]
      congr 1
      omega
  · rw [if_neg h4]
    symm
    rw [List.getElem?_eq_none]
    rw [List.length_append, hlp, List.length_drop, List.length_take, List.length_drop]
    omega
theorem lowE_torn {H : Nat} (hH : H < 256) (old b x : Bytes) (ho : old.length = 64) (hb : b.length = 64) (h1 : lowE H old) (h2 : lowE H b) (h : TornOf old b x) : lowE H x := by
  obtain ⟨k, hk, rfl | rfl⟩ := h
  · constructor
    · have := mix_part b old k 0 hk (by omega) hb ho
      rw [List.drop_zero, List.drop_zero, List.drop_zero] at this
      rw [this]
      exact four_mix hH h2.1 h1.1 _
    · rw [mix_part b old k 56 hk (by omega) hb ho]
      exact four_mix hH h2.2 h1.2 _
  · constructor
    · have := mix_part old b k 0 hk (by omega) ho hb
      rw [List.drop_zero, List.drop_zero, List.drop_zero] at this
      rw [this]
      exact four_mix hH h1.1 h2.1 _
    · rw [mix_part old b k 56 hk (by omega) ho hb]
      exact four_mix hH h1.2 h2.2 _
theorem lowE_mono {H H' : Nat} (h : H ≤ H') {b : Bytes} (hb : lowE H b) : lowE H' b := by
  obtain ⟨⟨g, h1, h2⟩, g', h3, h4⟩ := hb
  exact ⟨⟨g, by omega, h2⟩, g', by omega, h4⟩
theorem lowE_sec {g n : Nat} {d : Bytes} (hd : d.length ≤ 46) : lowE g (secB g n d) := by
  obtain ⟨h1, h2, _⟩ := sec_back g n hd
  refine ⟨⟨g, Nat.le_refl _, ?_⟩, g, Nat.le_refl _, ?_⟩
  · have : (secB g n d).take 4 = ((secB g n d).take 8).take 4 := by rw [List.take_take]; rfl
    rw [this, h1]
    exact List.take_left' (beP_length 4 g)
  · rw [h2]
    exact List.take_left' (beP_length 4 g)
/-- A sector of whose ends none has a generation isn't whole with it. -/
theorem lowE_not {H g n : Nat} {b : Bytes} (hb : b.length = 64) (h : lowE H b) (hg : H < g) (hg2 : g < 2 ^ 32) : okS g n b = false := by
  cases hc : okS g n b with
  | false => rfl
  | true =>
    unfold okS at hc
    rw [Bool.and_eq_true, Bool.and_eq_true] at hc
    have hm := mark_gen hb hc.1
    have he := of_decide_eq_true hc.2.1
    obtain ⟨⟨x, h1, h2⟩, _⟩ := h
    rw [he, h2] at hm
    have := beP_inj (k := 4) (by omega) (by omega) hm
    omega
theorem okB_torn {H g n m : Nat} {old b x : Bytes} (ho : old.length = 64) (hb : b.length = 64) (hw : okS g m b = true) (h : lowE H old) (hH : H < g) (hg : g < 2 ^ 32) (ht : TornOf old b x) (hx : okS g n x = true) : x = b := by
  unfold okS at hw hx
  rw [Bool.and_eq_true, Bool.and_eq_true] at hw hx
  have hbm := mark_gen hb hw.1
  rw [of_decide_eq_true hw.2.1] at hbm
  have hxl := ht.length ho hb
  have hxm := mark_gen hxl hx.1
  rw [of_decide_eq_true hx.2.1] at hxm
  obtain ⟨k, hk, hxx⟩ := ht
  obtain ⟨⟨a, a1, a2⟩, c, c1, c2⟩ := h
  refine torn_whole ho hb hw.1 ?_ ?_ hk hxx hx.1 (hxm.trans hbm.symm)
  · rw [hbm, a2]
    intro e
    have := beP_inj (k := 4) (by omega) (by omega) e
    omega
  · rw [hbm, c2]
    intro e
    have := beP_inj (k := 4) (by omega) (by omega) e
    omega
end Go.Proofs.YtedebapgmfnflaaGreatDoor

/- Records on half a disk: what is told, as plain Lean; what is read of sectors that stand as they were to be, up to some. -/
namespace Go.Proofs.YtedebapgmfnflaaGreatDoor
open Go
set_option maxRecDepth 100000

structure AreaM where
  first : Nat
  size : Nat
  gen : Nat
  next : Nat
  recs : List Bytes
  stuck : Bool

def secsOf (b : Bytes) (first size : Nat) : List Bytes := (List.range size).map fun n => sec b (first + n)
def readL (l : List Bytes) (g want : Nat) : Nat → Nat → List Bytes → Bool → Nat × List Bytes × Bool
  | 0, next, recs, re => (next, recs, re)
  | f + 1, next, recs, re =>
    if next < l.length then
      match unpackB (l.drop next) g next with
      | none => (next, recs, re)
      | some (r, k) => readL l g want f (next + k) (recs ++ [r]) (re || decide (next + k = want))
    else (next, recs, re)
def readA (b : Bytes) (first size : Nat) : Option AreaM :=
  let l := secsOf b first size
  let g := (markB (l.getD 0 [])).1
  if g = 0 then none else
  match unpackB (l.take 1) g 0 with
  | none => none
  | some (hd, _) => if hd.length ≠ 4 then none else
    let p := readL l g (beN hd + 1) l.length 1 [] (decide (beN hd + 1 = 1))
    if p.2.2 then some ⟨first, size, g, p.1, p.2.1, true⟩ else none
def currentA (b : Bytes) (h : Nat) : Option AreaM :=
  match readA b 0 h, readA b h h with
  | none, x => x
  | some a, none => some a
  | some a, some c => if a.gen ≤ c.gen then some c else some a

def lenR (g : Nat) (rs : List Bytes) : Nat := (rowsB g 1 rs).length
theorem rowsB_length (g : Nat) : ∀ (n : Nat) (rs : List Bytes), (rowsB g n rs).length = (rs.map fun r => needN r.length).sum
  | _, [] => rfl
  | n, r :: rs => by rw [rowsB, List.length_append, packB_length, rowsB_length g _ rs]; rfl
def posR (rs : List Bytes) (i : Nat) : Nat := 1 + ((rs.take i).map fun r => needN r.length).sum
theorem posR_succ (rs : List Bytes) (i : Nat) (h : i < rs.length) : posR rs (i + 1) = posR rs i + needN rs[i].length := by
  unfold posR
  rw [List.take_succ_eq_append_getElem h, List.map_append, List.sum_append]
  simp
  omega
theorem posR_mono (rs : List Bytes) {i j : Nat} (h : i ≤ j) : posR rs i ≤ posR rs j := by
  obtain ⟨d, rfl⟩ : ∃ d, j = i + d := ⟨j - i, by omega⟩
  unfold posR
  rw [List.take_add, List.map_append, List.sum_append]
  omega

/-- What an area's sectors are to be. -/
def areaX (g : Nat) (head : Bytes) (rs : List Bytes) : List Bytes := head :: rowsB g 1 rs
theorem areaX_length (g : Nat) (head : Bytes) (rs : List Bytes) : (areaX g head rs).length = posR rs rs.length := by
  rw [areaX, List.length_cons, rowsB_length, posR, List.take_length]
  omega
theorem areaX_drop (g : Nat) (head : Bytes) (rs : List Bytes) (i : Nat) : (areaX g head rs).drop (posR rs i) = rowsB g (posR rs i) (rs.drop i) := by
  have h := rowsB_take g 1 rs i
  have hl := rowsB_length g 1 (rs.take i)
  rw [areaX, posR, Nat.add_comm, List.drop_succ_cons, h, ← hl, List.drop_left, Nat.add_comm]

structure Stands (g : Nat) (head : Bytes) (recs extra : List Bytes) (S : List Bytes) (F : Nat) : Prop where
  gen : 1 ≤ g
  gen2 : g < 2 ^ 32
  len : ∀ b ∈ S, b.length = 64
  some : ∀ j (h : j < S.length), okS g j S[j] = true → (areaX g head (recs ++ extra))[j]? = Option.some S[j]
  all : ∀ j, j < F → S[j]? = (areaX g head (recs ++ extra))[j]?
  more : extra = [] ∨ ∃ r, extra = [r] ∧ ∃ j, posR recs recs.length ≤ j ∧ j < posR (recs ++ extra) (recs ++ extra).length ∧ ∀ (h : j < S.length), okS g j S[j] = false
  fits : posR recs recs.length ≤ S.length
  short : ∀ r ∈ recs ++ extra, r.length ≤ 2000
  few : S.length ≤ 4096

theorem recOk_ok {l : List Bytes} {g n : Nat} {r : Bytes} (h : recOk l g n r) (hg : g < 2 ^ 32) : ∀ j, j < needN r.length → ∃ b, l[j]? = some b ∧ okS g (n + j) b = true := by
  intro j hj
  have hp := h.1.2.2
  have e : (l.take (needN r.length))[j]? = some (secB g (n + j) (partB (sealB r) j)) := by rw [hp]; simp [packB, hj]
  rw [List.getElem?_take, if_pos hj] at e
  refine ⟨_, e, ?_⟩
  have hle := partB_le (sealB r) j
  have := h.2
  unfold okS
  rw [sec_whole g _ hle, sec_mark hle hg (by omega)]
  simp

theorem posR_app (a b : List Bytes) {i : Nat} (h : i ≤ a.length) : posR (a ++ b) i = posR a i := by
  unfold posR
  rw [List.take_append_of_le_length h]

theorem Stands.next {g : Nat} {head : Bytes} {recs extra S : List Bytes} {F : Nat} (s : Stands g head recs extra S F) {i : Nat} (hi : i ≤ recs.length) {r : Bytes} {k : Nat} (h : unpackB (S.drop (posR recs i)) g (posR recs i) = Option.some (r, k)) :
    ∃ hi : i < recs.length, r = recs[i] ∧ k = needN r.length := by
  have hSd : ∀ b ∈ S.drop (posR recs i), b.length = 64 := fun b hb => s.len b (List.mem_of_mem_drop hb)
  obtain ⟨hr, rfl⟩ := (unpack_iff hSd s.gen2 r k).1 h
  have hX := areaX_drop g head (recs ++ extra) i
  rw [posR_app _ _ hi] at hX
  have hoks := recOk_ok hr s.gen2
  have hrl := hr.1.1
  obtain ⟨p1, p2, p3⟩ := need_pos hrl
  have hkl := hr.1.2.1
  rw [List.length_drop] at hkl
  have hsame : ∀ j, j < needN r.length → (S.drop (posR recs i))[j]? = (rowsB g (posR recs i) ((recs ++ extra).drop i))[j]? := by
    intro j hj
    obtain ⟨b, e1, e2⟩ := hoks j hj
    rw [List.getElem?_drop] at e1
    have hjl := (List.getElem?_eq_some_iff.1 e1).1
    have he := (List.getElem?_eq_some_iff.1 e1).2
    have h3 := s.some _ hjl (by rw [he]; exact e2)
    rw [← hX, List.getElem?_drop, List.getElem?_drop, h3, e1, he]
  have hXlen : needN r.length ≤ (rowsB g (posR recs i) ((recs ++ extra).drop i)).length := by
    have := hsame (needN r.length - 1) (by omega)
    obtain ⟨b, e1, e2⟩ := hoks (needN r.length - 1) (by omega)
    rw [e1] at this
    have := (List.getElem?_eq_some_iff.1 this.symm).1
    omega
  have htake : (rowsB g (posR recs i) ((recs ++ extra).drop i)).take (needN r.length) = packB g (posR recs i) r := by
    rw [← hr.1.2.2]
    apply List.ext_getElem?
    intro j
    rw [List.getElem?_take, List.getElem?_take]
    by_cases hj : j < needN r.length
    · rw [if_pos hj, if_pos hj, hsame j hj]
    · rw [if_neg hj, if_neg hj]
  have hrX : recAt (rowsB g (posR recs i) ((recs ++ extra).drop i)) g (posR recs i) r := ⟨hrl, hXlen, htake⟩
  cases hd : (recs ++ extra).drop i with
  | nil =>
    rw [hd, rowsB, List.length_nil] at hXlen
    omega
  | cons r' rest =>
    have hr'm : r' ∈ recs ++ extra := List.mem_of_mem_drop (by rw [hd]; simp)
    have hr' : recAt (rowsB g (posR recs i) ((recs ++ extra).drop i)) g (posR recs i) r' := by
      rw [hd, rowsB]
      have hpl := packB_length g (posR recs i) r'
      refine ⟨s.short _ hr'm, by rw [List.length_append]; omega, ?_⟩
      rw [← hpl, List.take_left]
    obtain rfl := recAt_inj hrX hr'
    have hge : (recs ++ extra)[i]? = Option.some r := by
      have := List.getElem?_drop (xs := recs ++ extra) (i := i) (j := 0)
      rw [hd, Nat.add_zero] at this
      rw [← this]; rfl
    by_cases hlt : i < recs.length
    · refine ⟨hlt, ?_, rfl⟩
      rw [List.getElem?_append_left hlt, List.getElem?_eq_getElem hlt] at hge
      exact (Option.some.inj hge).symm
    · exfalso
      obtain rfl : i = recs.length := by omega
      rcases s.more with he | ⟨r', he, j, j1, j2, j3⟩
      · rw [he, List.append_nil, List.getElem?_eq_none (Nat.le_refl _)] at hge
        cases hge
      · rw [List.getElem?_append_right (Nat.le_refl _), Nat.sub_self, he] at hge
        obtain rfl : r' = r := by simpa using hge
        have hpe : posR (recs ++ extra) (recs ++ extra).length = posR recs recs.length + needN r'.length := by
          rw [he, List.length_append, List.length_singleton, posR_succ _ _ (by simp), posR_app _ _ (Nat.le_refl _)]
          simp
        obtain ⟨b, e1, e2⟩ := hoks (j - posR recs recs.length) (by omega)
        rw [List.getElem?_drop] at e1
        have hjj : posR recs recs.length + (j - posR recs recs.length) = j := by omega
        rw [hjj] at e1 e2
        obtain ⟨q1, q2⟩ := List.getElem?_eq_some_iff.1 e1
        have := j3 q1
        rw [q2, e2] at this
        cases this
theorem Stands.yes {g : Nat} {head : Bytes} {recs extra S : List Bytes} {F : Nat} (s : Stands g head recs extra S F) {i : Nat} (hi : i < recs.length) (hF : posR recs (i + 1) ≤ F) : unpackB (S.drop (posR recs i)) g (posR recs i) = Option.some (recs[i], needN recs[i].length) := by
  have hSd : ∀ b ∈ S.drop (posR recs i), b.length = 64 := fun b hb => s.len b (List.mem_of_mem_drop hb)
  have hX := areaX_drop g head (recs ++ extra) i
  rw [posR_app _ _ (by omega)] at hX
  have hsl := s.short recs[i] (by simp)
  have hps := posR_succ recs i hi
  have hpl := packB_length g (posR recs i) recs[i]
  have hm := posR_mono recs (show i + 1 ≤ recs.length from hi)
  have hf := s.fits
  have hfew := s.few
  refine (unpack_iff hSd s.gen2 _ _).2 ⟨⟨⟨hsl, by rw [List.length_drop]; omega, ?_⟩, by omega⟩, rfl⟩
  have hd : (recs ++ extra).drop i = recs[i] :: (recs ++ extra).drop (i + 1) := by
    rw [List.drop_eq_getElem_cons (by rw [List.length_append]; omega), List.getElem_append_left hi]
  rw [hd, rowsB] at hX
  apply List.ext_getElem?
  intro j
  rw [List.getElem?_take]
  by_cases hj : j < needN recs[i].length
  · rw [if_pos hj, List.getElem?_drop, s.all _ (by omega), ← List.getElem?_drop, hX, List.getElem?_append_left (by omega)]
  · rw [if_neg hj, List.getElem?_eq_none (by omega)]
theorem Stands.read {g : Nat} {head : Bytes} {recs extra S : List Bytes} {F base m0 : Nat} (s : Stands g head recs extra S F) (hm0 : m0 ≤ recs.length) (hF : posR recs m0 ≤ F) (hb : base ≤ m0) : ∀ (f i : Nat) (re : Bool), i ≤ recs.length → S.length ≤ f + posR recs i → (re = true ∨ i < base) →
    ∃ m, i ≤ m ∧ m ≤ recs.length ∧ (m0 ≤ m ∨ m0 < i) ∧ readL S g (posR recs base) f (posR recs i) (recs.take i) re = (posR recs m, recs.take m, true)
  | 0, i, re, hi, hf, hre => by
    have h1 : ¬ i < m0 := by
      intro h
      have := posR_mono recs (show i + 1 ≤ m0 from h)
      have h2 := posR_succ recs i (by omega)
      have h3 := s.short recs[i] (by simp)
      have h4 := need_pos h3
      have h5 := s.fits
      have h6 := posR_mono recs hm0
      omega
    refine ⟨i, Nat.le_refl _, hi, by omega, ?_⟩
    rw [readL]
    rcases hre with h | h
    · rw [h]
    · omega
  | f + 1, i, re, hi, hf, hre => by
    rw [readL]
    by_cases hlt : posR recs i < S.length
    · rw [if_pos hlt]
      cases hu : unpackB (S.drop (posR recs i)) g (posR recs i) with
      | none =>
        have h1 : ¬ i < m0 := by
          intro h
          have := s.yes (i := i) (by omega) (Nat.le_trans (posR_mono recs (show i + 1 ≤ m0 from h)) hF)
          rw [hu] at this
          cases this
        refine ⟨i, Nat.le_refl _, hi, by omega, ?_⟩
        rcases hre with h | h
        · rw [h]
        · omega
      | some p =>
        obtain ⟨r, k⟩ := p
        obtain ⟨hi', rfl, rfl⟩ := s.next hi hu
        have hps := posR_succ recs i hi'
        have h3 := s.short recs[i] (by simp)
        have h4 := need_pos h3
        show ∃ m, i ≤ m ∧ m ≤ recs.length ∧ (m0 ≤ m ∨ m0 < i) ∧ readL S g (posR recs base) f (posR recs i + needN recs[i].length) (recs.take i ++ [recs[i]]) (re || decide (posR recs i + needN recs[i].length = posR recs base)) = (posR recs m, recs.take m, true)
        rw [← hps, ← List.take_succ_eq_append_getElem hi']
        obtain ⟨m, q1, q2, q3, q4⟩ := Stands.read s hm0 hF hb f (i + 1) (re || decide (posR recs (i + 1) = posR recs base)) hi' (by omega) (by
          rcases hre with h | h
          · left; rw [h]; rfl
          · by_cases he : i + 1 = base
            · left; rw [he]; simp
            · right; omega)
        refine ⟨m, by omega, q2, by omega, q4⟩
    · rw [if_neg hlt]
      have h1 : ¬ i < m0 := by
        intro h
        have := posR_mono recs (show i + 1 ≤ m0 from h)
        have h2 := posR_succ recs i (by omega)
        have h3 := s.short recs[i] (by simp)
        have h4 := need_pos h3
        have h5 := s.fits
        have h6 := posR_mono recs hm0
        omega
      refine ⟨i, Nat.le_refl _, hi, by omega, ?_⟩
      rcases hre with h | h
      · rw [h]
      · omega
end Go.Proofs.YtedebapgmfnflaaGreatDoor

/- An area that counts, over a disk whose writes may be lost: what holds behind each thing that is done to it. Plain laws. -/
namespace Go.Proofs.YtedebapgmfnflaaGreatDoor
open Go
set_option maxRecDepth 100000

def headB (g cnt : Nat) : Bytes := secB g 0 (sealB (beP 4 cnt))
theorem headB_pack (g cnt : Nat) : packB g 0 (beP 4 cnt) = [headB g cnt] := by
  have hl : (beP 4 cnt).length = 4 := beP_length 4 cnt
  have hs := sealB_length (beP 4 cnt)
  unfold packB
  rw [hl]
  show [secB g (0 + 0) (partB (sealB (beP 4 cnt)) 0)] = _
  have e : partB (sealB (beP 4 cnt)) 0 = sealB (beP 4 cnt) := by
    unfold partB
    rw [Nat.mul_zero, List.drop_zero, List.take_of_length_le (by omega)]
  rw [e]; rfl
theorem headB_len (cnt : Nat) : (sealB (beP 4 cnt)).length ≤ 46 := by rw [sealB_length, beP_length]; omega
theorem secsOf_length (b : Bytes) (f s : Nat) : (secsOf b f s).length = s := by simp [secsOf]
theorem secsOf_get (b : Bytes) (f s j : Nat) : (secsOf b f s)[j]? = if j < s then some (sec b (f + j)) else none := by
  unfold secsOf
  rw [List.getElem?_map]
  by_cases h : j < s
  · rw [List.getElem?_range h, if_pos h]; rfl
  · rw [List.getElem?_eq_none (by simp; omega), if_neg h]; rfl

theorem readA_ok {b : Bytes} {first size g cnt m0 base F : Nat} {recs extra : List Bytes} (s : Stands g (headB g cnt) recs extra (secsOf b first size) F) (h1 : 1 ≤ size) (hm0 : m0 ≤ recs.length) (hF : posR recs m0 ≤ F) (hb : base ≤ m0) (hc : cnt + 1 = posR recs base) (hc2 : cnt < 2 ^ 32) :
    ∃ m, m0 ≤ m ∧ m ≤ recs.length ∧ readA b first size = some ⟨first, size, g, posR recs m, recs.take m, true⟩ := by
  have hp0 : 1 ≤ posR recs m0 := by unfold posR; omega
  have h0 : (secsOf b first size)[0]? = some (headB g cnt) := by
    rw [s.all 0 (by omega)]; rfl
  have hg2 := s.gen2
  have hg1 := s.gen
  have hmk : markB (headB g cnt) = (g, 0, true) := sec_mark (headB_len cnt) hg2 (by omega)
  have hun : unpackB ((secsOf b first size).take 1) g 0 = some (beP 4 cnt, 1) := by
    have e : (secsOf b first size).take 1 = [headB g cnt] := by
      apply List.ext_getElem?
      intro j
      rw [List.getElem?_take]
      match j with
      | 0 => rw [if_pos (by omega), h0]; rfl
      | j + 1 => rw [if_neg (by omega)]; rfl
    have h := unpack_pack (g := g) (n := 0) (r := beP 4 cnt) (by rw [beP_length]; omega) hg2 (by rw [beP_length]; show 0 + 1 ≤ _; omega) [] (by simp)
    rw [headB_pack, List.append_nil] at h
    rw [e, h, beP_length]; rfl
  obtain ⟨m, q1, q2, q3, q4⟩ := s.read hm0 hF hb (secsOf b first size).length 0 (decide (cnt + 1 = 1)) (Nat.zero_le _) (by unfold posR; omega) (by
    by_cases hb0 : base = 0
    · left
      subst hb0
      have : posR recs 0 = 1 := by simp [posR]
      rw [decide_eq_true (by omega)]
    · right; omega)
  have hp00 : posR recs 0 = 1 := by simp [posR]
  rw [hp00, List.take_zero] at q4
  refine ⟨m, by omega, q2, ?_⟩
  simp only [readA]
  rw [List.getD_eq_getElem?_getD, h0, Option.getD_some, hmk]
  rw [if_neg (by omega), hun]
  simp only
  rw [if_neg (by rw [beP_length]; omega), beN_beP, Nat.mod_eq_of_lt (by omega), hc, ← hc] 
  rw [← hc] at q4
  rw [q4]
  rfl
theorem readA_gen {b : Bytes} {f s H n : Nat} {c : AreaM} (hb : b.length = 64 * n) (hf : f < n) (hs : 1 ≤ s) (h : readA b f s = some c) (hl : lowE H (sec b f)) (hH : H < 2 ^ 32) : c.gen ≤ H := by
  simp only [readA] at h
  have h0 : (secsOf b f s).getD 0 [] = sec b f := by
    rw [List.getD_eq_getElem?_getD, secsOf_get, if_pos (by omega)]; rfl
  rw [h0] at h
  by_cases hg : (markB (sec b f)).1 = 0
  · rw [if_pos hg] at h; cases h
  rw [if_neg hg] at h
  have hw : wholeB (sec b f) = true := by
    cases hw : wholeB (sec b f) with
    | true => rfl
    | false => exfalso; apply hg; unfold markB; rw [hw]; rfl
  have hm := mark_gen (sec_length hb hf) hw
  obtain ⟨⟨x, x1, x2⟩, _⟩ := hl
  have hlt : (markB (sec b f)).1 < 2 ^ 32 := by
    unfold markB
    rw [if_pos hw]
    have := beN_lt ((sec b f).take 4)
    rw [List.length_take, sec_length hb hf] at this
    exact this
  rw [x2] at hm
  have he := beP_inj (k := 4) (by omega) (by omega) hm
  cases hu : unpackB ((secsOf b f s).take 1) (markB (sec b f)).1 0 with
  | none => rw [hu] at h; cases h
  | some p =>
    obtain ⟨hd, k⟩ := p
    rw [hu] at h
    simp only at h
    by_cases h4 : hd.length ≠ 4
    · rw [if_pos h4] at h; cases h
    rw [if_neg h4] at h
    split at h
    · obtain rfl := Option.some.inj h
      show (markB (sec b f)).1 ≤ H
      omega
    · cases h
/-- Which area counts. -/
theorem currentA_ok {b : Bytes} {h n first : Nat} {c : AreaM} (hb : b.length = 64 * n) (hh : 1 ≤ h) (hn : 2 * h ≤ n) (hf : first = 0 ∨ first = h) (hc : readA b first h = some c) (hl : lowE (c.gen - 1) (sec b (h - first))) (hg : 1 ≤ c.gen) (hg2 : c.gen < 2 ^ 32) : currentA b h = some c := by
  unfold currentA
  rcases hf with rfl | rfl
  · rw [hc]
    cases h2 : readA b h h with
    | none => rfl
    | some d =>
      have := readA_gen hb (by omega) hh h2 hl (by omega)
      show (if c.gen ≤ d.gen then some d else some c) = _
      rw [if_neg (by omega)]
  · rw [hc]
    cases h2 : readA b 0 first with
    | none => rfl
    | some d =>
      have := readA_gen hb (by omega) hh h2 (by rw [Nat.sub_self] at hl; exact hl) (by omega)
      show (if d.gen ≤ c.gen then some c else some d) = _
      rw [if_pos (by omega)]

def areaOf (g base : Nat) (rs : List Bytes) : List Bytes := areaX g (headB g (posR rs base - 1)) rs
/-- An area that counts: its first F sectors last, those behind up to W are written, all behind these are of no generation so high. -/
structure Area (D : DiskM) (first size g H : Nat) (rs : List Bytes) (F W base : Nat) : Prop where
  dok : D.ok
  two : 2 ≤ size
  half : size = D.n / 2
  ends : first = 0 ∨ first = size
  g1 : 1 ≤ g
  gH : g ≤ H
  H256 : H < 256
  low : ∀ j, j < D.n → lowE H (sec D.last j) ∧ lowE H (sec D.seen j)
  lowp : ∀ x ∈ D.pend, lowE H x.2
  short : ∀ r ∈ rs, r.length ≤ 2000
  b1 : base ≤ rs.length
  bF : posR rs base ≤ F
  FW : F ≤ W
  WX : W ≤ (areaOf g base rs).length
  Ws : W ≤ size
  lasts : ∀ j, j < F → some (sec D.last (first + j)) = (areaOf g base rs)[j]? ∧ some (sec D.seen (first + j)) = (areaOf g base rs)[j]? ∧ pendOn D.pend (first + j) = []
  mid : ∀ j, F ≤ j → j < W → lowE (g - 1) (sec D.last (first + j)) ∧ ∃ x, (areaOf g base rs)[j]? = some x ∧ sec D.seen (first + j) = x ∧ pendOn D.pend (first + j) = [(first + j, x)]
  free : ∀ j, W ≤ j → j < size → lowE (g - 1) (sec D.last (first + j)) ∧ lowE (g - 1) (sec D.seen (first + j)) ∧ pendOn D.pend (first + j) = []
  other : lowE (g - 1) (sec D.last (size - first)) ∧ sec D.seen (size - first) = sec D.last (size - first) ∧ pendOn D.pend (size - first) = []
end Go.Proofs.YtedebapgmfnflaaGreatDoor

/- An area's sectors; its walk. Condition: the area lies within the disk, the disk has at most 10^6 sectors. -/
namespace Go.Proofs.YtedebapgmfnflaaGreatDoor
open Go
set_option maxRecDepth 100000

theorem read_sec {D : DiskM} {q : Nat} (h : q < D.n) : D.read (q : Int) = (sec D.seen q, 0) := by
  unfold DiskM.read
  rw [if_pos (by omega)]
  rfl
theorem secsOf_take_succ (b : Bytes) (f s k : Nat) : (List.range k).map (fun n => sec b (f + n)) ++ [sec b (f + k)] = (List.range (k + 1)).map (fun n => sec b (f + n)) := by
  rw [List.range_succ, List.map_append]; rfl
theorem secs_snoc (b : Bytes) (f k i : Nat) : (List.range i).map (fun n => sec b (f + (k + n))) ++ [sec b (f + (k + i))] = (List.range (i + 1)).map (fun n => sec b (f + (k + n))) := by
  rw [List.range_succ, List.map_append]; rfl
theorem secs_drop (b : Bytes) (f s k : Nat) (h : k ≤ s) : (List.range (s - k)).map (fun n => sec b (f + (k + n))) = (secsOf b f s).drop k := by
  apply List.ext_getElem?
  intro j
  rw [List.getElem?_drop, secsOf_get, List.getElem?_map]
  by_cases hj : j < s - k
  · rw [List.getElem?_range hj, if_pos (by omega)]; rfl
  · rw [List.getElem?_eq_none (by simp; omega), if_neg (by omega)]; rfl

abbrev rA (a : Nat) (A : AreaH) (t : TypeId) : Res := rB a A.cells t

set_option maxHeartbeats 1000000 in
theorem sectors_c {w : World} {K : VPost} {a : Nat} {A : AreaH} {t : TypeId} {F : List Nat} {D : DiskM} {k : Nat} (h : (rA a A t).holds w) (hd : Disk w A.disk F D) (hfit : A.first + A.size ≤ D.n) (hn : D.n ≤ 1000000) (hseen : D.seen.length = 64 * D.n) (hk : k ≤ A.size)
    (hK : ∀ v w', OwnAt w' v 79 64 (bc ((secsOf D.seen A.first A.size).drop k).flatten) ((secsOf D.seen A.first A.size).drop k).length → Ext [] w w' → (∀ b ∈ slB v, w.heap.size ≤ b) → K v w') :
    Calls Tryz.prog 65 #[.pointer (some ⟨a, 0, none⟩), .int .i64 k] w (retK K) := by
  refine c65_calls _ _ w K ?_
  unfold c65
  refine bindX_i fun J0 h0 => bindX_i fun J1 h1 => bindX_i fun J2 h2 => ?_
  have s := (Sep.zero1 (U := rDk A.disk F D) hd).addR (T := rA a A t) h (by simp)
  have s := s.add (T := rK (.slice none 0 0) []) (.inl ⟨rfl, rfl, rfl⟩) (Ext.refl _ _) (by simp [rO, slB])
  refine loop_i (fun m fr wr => ∃ (i : Nat) (v : Value), m = A.size - k - i ∧ k + i ≤ A.size ∧ fr 0 = .pointer (some ⟨a, 0, none⟩) ∧ fr 5 = v ∧ fr 6 = .int .i64 ((k + i : Nat) : Int) ∧ Sep [] w wr [rK v ((List.range i).map fun n => sec D.seen (A.first + (k + n)))] [rA a A t, rDk A.disk F D]) (A.size - k) ?_ ?_
  · exact ⟨0, _, rfl, by omega, rfl, rfl, rfl, s⟩
  · rintro m fr wr J ⟨i, v, rfl, hi, f0, f5, f6, s⟩ hJ hX
    rw [f0, f6, nilW_e]
    refine off_i ?_
    refine load1 (Blk.r (s.rat 0 rfl)) rfl ?_
    refine nlss (cond_d (fun hlt => ?_) (fun hlt => ?_))
    · have s := s.drew
      generalize wr.drew = wr at *
      rw [nilW_e]
      refine off_i ?_
      refine load1 (Blk.r (s.rat 0 rfl)) rfl ?_
      rw [nilW_e]
      refine off_i ?_
      refine load1 (Blk.r (s.rat 0 rfl)) rfl ?_
      refine nadd (by omega) ?_
      refine bindV_i fun J hJ' => ?_
      have hr : D.read ((A.first + (k + i) : Nat) : Int) = _ := read_sec (by omega)
      have hsl : (sec D.seen (A.first + (k + i))).length = 64 := sec_length hseen (by omega)
      have hfin : ∀ (x1 x2 x3 : Value) (b : Nat) (f : Fr) (w' : World), f 0 = .pointer (some ⟨a, 0, none⟩) → f 5 = v → f 6 = .int .i64 ((k + i : Nat) : Int) → Sep [] w w' [rB b (bc (List.replicate 64 0)) 79, rK v ((List.range i).map fun n => sec D.seen (A.first + (k + n)))] [rA a A t, rDk A.disk F D] →
          J x1 x2 (.agg (bc (sec D.seen (A.first + (k + i)))).toArray) x3 (.pointer (some ⟨b, 0, none⟩)) f w' := by
        intro x1 x2 x3 b f w' g0 g5 g6 s
        subst hJ'
        have hl : (bc (sec D.seen (A.first + (k + i)))).length = 64 := by rw [bc_length, hsl]
        refine s.storeAll 0 rfl hl (by rw [bc_length]; rfl) (bc_one _) fun w3 s _ => ?_
        refine s.loadAll 0 rfl hl ?_
        refine s.litK hsl fun vl w4 s => ?_
        rw [g5]
        have hrd := OwnAt.rd (s.at 0 rfl)
        refine s.apK 2 rfl hrd (by simp; omega) fun v' w5 s => ?_
        rw [g6]
        refine nadd (y := 1) (by omega) ?_
        have s := (s.drop 0).drop 0
        have s : Sep [] w w5 [rK v' ((List.range i).map (fun n => sec D.seen (A.first + (k + n))) ++ [sec D.seen (A.first + (k + i))])] [rA a A t, rDk A.disk F D] := s
        rw [secs_snoc] at s
        exact hJ (A.size - k - (i + 1)) _ _ (by omega) ⟨i + 1, v', rfl, by omega, g0, rfl, rfl, s⟩
      refine ⟨?_, ?_⟩
      · refine s.dreadR 1 rfl _ fun w1 s => ?_
        rw [hr, extr0, extr1]
        refine s.alloc zero_blk cellsK fun b w2 s _ => ?_
        refine ⟨?_, ?_, ?_⟩
        · refine load1 (Blk.r (s.rat 0 rfl)) rfl ?_
          exact ⟨rfl, rfl⟩
        · refine load1 (Blk.r (s.rat 0 rfl)) rfl ?_
          exact ⟨rfl, rfl⟩
        exact hfin _ _ _ _ _ _ f0 f5 f6 s
      · refine s.alloc zero_blk cellsK fun b w1 s _ => ?_
        refine ⟨?_, ?_, ?_⟩
        · refine load1 (Blk.r (s.rat 0 rfl)) rfl ?_
          exact ⟨rfl, rfl⟩
        · refine load1 (Blk.r (s.rat 0 rfl)) rfl ?_
          exact ⟨rfl, rfl⟩
        refine s.dreadR 1 rfl _ fun w2 s => ?_
        rw [hr, extr0, extr1]
        exact hfin _ _ _ _ _ _ f0 f5 f6 s
    · obtain rfl : i = A.size - k := by omega
      refine hX _ _ _ (by simp) (h2 _ _ _ (h1 _ _ _ ?_))
      rw [secs_drop D.seen A.first A.size k hk] at s
      show K (fr 5) _
      rw [f5]
      exact hK v wr (s.at 0 rfl) s.ext (s.fresh 0 rfl)
end Go.Proofs.YtedebapgmfnflaaGreatDoor

/- A new generation; its walk. -/
namespace Go.Proofs.YtedebapgmfnflaaGreatDoor
open Go
set_option maxRecDepth 100000

theorem max2_e {P : Program} {ts : Array TypeId} {ty : TypeId} {k : IntKind} {x y : Int} {w : World} {K : VPost} (h : K (.int k (max x y)) w) : insW P (Builtin.max_ ts ty #[.int k x, .int k y]) w K := by
  unfold insW Builtin.max_
  simp only [List.foldlM_cons, List.foldlM_nil, Builtin.max2, Sem.run_bind, Sem.run_pure, Result.andThen_ok, okW]
  have e1 : (if y > x then y else x) = max x y := by
    rw [Int.max_def]; split <;> split <;> omega
  rw [e1]
  exact h
theorem highB_snoc (ls : List Bytes) (b : Bytes) : highB (ls ++ [b]) = max (highB ls) (highB [b]) := by
  unfold highB
  rw [List.foldl_append]
  simp only [List.foldl_cons, List.foldl_nil]
  omega

theorem foldl_high (ls : List Bytes) : ∀ m, m < 4294967296 → ls.foldl (fun m b => max (max m (beN (b.take 4))) (beN ((b.drop 56).take 4))) m < 4294967296 := by
  induction ls with
  | nil => exact fun m h => h
  | cons b r ih =>
    intro m h
    refine ih _ ?_
    have h1 := beN_lt (b.take 4)
    have h2 := beN_lt ((b.drop 56).take 4)
    have h3 : (b.take 4).length ≤ 4 := List.length_take_le 4 b
    have h4 : ((b.drop 56).take 4).length ≤ 4 := List.length_take_le 4 _
    have h5 : 256 ^ (b.take 4).length ≤ 256 ^ 4 := Nat.pow_le_pow_right (by decide) h3
    have h6 : 256 ^ ((b.drop 56).take 4).length ≤ 256 ^ 4 := Nat.pow_le_pow_right (by decide) h4
    have h7 : (256 : Nat) ^ 4 = 4294967296 := by decide
    show max (max m (beN (b.take 4))) (beN ((b.drop 56).take 4)) < 4294967296
    omega
theorem highB_lt (ls : List Bytes) : highB ls < 4294967296 := foldl_high ls 0 (by decide)

set_option maxHeartbeats 1000000 in
theorem generation_c {w : World} {K : VPost} {p : Nat} {F : List Nat} {D : DiskM} (hd : Disk w p F D) (hn : D.n ≤ 1000000) (hseen : D.seen.length = 64 * D.n)
    (hK : ∀ w', Ext [] w w' → K (.int .i64 ((highB (secsOf D.seen 0 D.n) + 1 : Nat) : Int)) w') :
    Calls Tryz.prog 50 #[.pointer (some ⟨p, 0, none⟩)] w (retK K) := by
  refine c50_calls _ w K ?_
  unfold c50
  refine bindX_i fun J0 h0 => bindX_i fun J1 h1 => ?_
  have s := Sep.zero1 (U := rDk p F D) hd
  refine fnW_of (by kernel_rfl) (size_c (s.rat 0 rfl) ?_)
  refine bindX_i fun J2 h2 => ?_
  refine loop_i (fun m fr wr => ∃ i : Nat, m = D.n - i ∧ i ≤ D.n ∧ fr 0 = .pointer (some ⟨p, 0, none⟩) ∧ fr 3 = .int .i64 (highB ((List.range i).map fun n => sec D.seen n)) ∧ fr 8 = .int .i64 D.n ∧ fr 9 = .int .i64 i ∧ Sep [] w wr [] [rDk p F D]) D.n ?_ ?_
  · exact ⟨0, rfl, by omega, rfl, rfl, rfl, rfl, s⟩
  · rintro m fr wr J ⟨i, rfl, hi, f0, f3, f8, f9, s⟩ hJ hX
    rw [f0, f3, f8, f9]
    refine nlss (cond_d (fun hlt => ?_) (fun hlt => ?_))
    · have hsl : (sec D.seen i).length = 64 := sec_length hseen hlt
      refine s.dreadR 0 rfl _ fun w1 s => ?_
      rw [read_sec hlt, extr0, extr1]
      refine s.alloc zero_blk cellsK fun b w2 s _ => ?_
      have hl : (bc (sec D.seen i)).length = 64 := by rw [bc_length, hsl]
      refine s.storeAll 0 rfl hl (by rw [bc_length]; rfl) (bc_one _) fun w3 s _ => ?_
      refine s.loadAll 0 rfl hl ?_
      refine s.litK hsl fun vl w4 s => ?_
      have hrd : RdSl w4 vl 64 (bc [sec D.seen i].flatten) [sec D.seen i].length := by
        have := OwnAt.rd (s.at 0 rfl)
        rwa [List.flatten_singleton]
      refine fnW_of (by kernel_rfl) (highest_c hrd (by simpa using hsl) (by simp) fun w5 e => ?_)
      refine max2_e ?_
      have s := s.ext0 e
      have em : (max (highB ((List.range i).map fun n => sec D.seen n) : Int) (highB [sec D.seen i] : Int)) = ((highB ((List.range (i + 1)).map fun n => sec D.seen n) : Nat) : Int) := by
        rw [List.range_succ, List.map_append, List.map_singleton, highB_snoc]
        omega
      rw [em]
      refine nadd (y := 1) (by omega) ?_
      have s := (s.drop 0).drop 0
      exact hJ (D.n - (i + 1)) _ _ (by omega) ⟨i + 1, rfl, by omega, f0, rfl, f8, rfl, s⟩
    · obtain rfl : i = D.n := by omega
      refine hX _ _ _ (by simp) (h2 _ _ _ (h1 _ _ _ ?_))
      show binN _ _ _ _ (fr 3) _ _ _
      rw [f3]
      have es : (List.range D.n).map (fun n => sec D.seen n) = secsOf D.seen 0 D.n := by
        unfold secsOf
        exact List.map_congr_left fun n _ => by rw [Nat.zero_add]
      rw [es]
      have := highB_lt (secsOf D.seen 0 D.n)
      exact nadd (y := 1) (by omega) (hK wr s.ext)
end Go.Proofs.YtedebapgmfnflaaGreatDoor

/- Whether records find room; its walk. -/
namespace Go.Proofs.YtedebapgmfnflaaGreatDoor
open Go
set_option maxRecDepth 100000

def roomB (size : Nat) (rs : List Bytes) : Int := if (rs.all fun r => decide (needN r.length ≠ 0)) then (if size < posR rs rs.length then 15 else 0) else 10

set_option maxHeartbeats 1000000 in
theorem room_c {w : World} {K : VPost} {v : Value} {hs : List Value} {size : Nat} {rs : List Bytes} (hv : RowsR w v hs rs) (hn : posR rs rs.length < 2 ^ 62) (hl : rs.length ≤ 1073741824) (hK : ∀ w', Ext [] w w' → K (.int .i64 (roomB size rs)) w') :
    Calls Tryz.prog 49 #[.int .i64 size, v] w (retK K) := by
  refine c49_calls _ _ w K ?_
  unfold c49
  have hvl : ∀ (w : World) (K : VPost), lenW Tryz.prog (some true) #[71] 3 #[v] w K = K (.int .i64 rs.length) w := fun w K => by obtain ⟨a, c, rfl⟩ := hv.len; exact len_s
  refine bindX_i fun J0 h0 => bindX_i fun J1 h1 => ?_
  rw [hvl]
  refine bindX_i fun J2 h2 => ?_
  refine loop_i (fun m fr wr => ∃ i : Nat, m = rs.length - i ∧ i ≤ rs.length ∧ (∀ r ∈ rs.take i, needN r.length ≠ 0) ∧ fr 0 = .int .i64 size ∧ fr 5 = .int .i64 (posR rs i) ∧ fr 9 = v ∧ fr 10 = .int .i64 rs.length ∧ fr 11 = .int .i64 i ∧ w = wr) rs.length ?_ ?_
  · refine ⟨0, rfl, by omega, by simp, rfl, ?_, rfl, rfl, rfl, rfl⟩
    have : posR rs 0 = 1 := by simp [posR]
    rw [this]; rfl
  · rintro m fr wr J ⟨i, rfl, hi, hpos, f0, f5, f9, f10, f11, rfl⟩ hJ hX
    rw [f10, f11]
    refine nlss (cond_d (fun hlt => ?_) (fun hlt => ?_))
    · rw [f9, f5]
      obtain ⟨b, o, r, hix, hld, hr, hc, hf⟩ := hv.elem hlt .i64
      refine hix _ ?_
      refine hld _ ?_
      rw [hr.lenw]
      refine fnW_of (by kernel_rfl) (need_c ?_)
      rw [needI_nat]
      have ps := posR_succ rs i hlt
      have pm := posR_mono rs (show i + 1 ≤ rs.length from hlt)
      refine neql (y := 0) (cond_d (fun h5 => ?_) (fun h5 => ?_))
      · refine hX _ _ _ (by simp) (h2 _ _ _ (h1 _ _ _ (h0 _ _ _ ?_)))
        have e : roomB size rs = 10 := by
          unfold roomB
          rw [if_neg ?_]
          intro ha
          rw [List.all_eq_true] at ha
          have := ha rs[i] (by simp)
          simp [h5] at this
        have := hK w (Ext.refl _ _)
        rw [e] at this
        exact this
      · refine nadd (by omega) ?_
        refine nadd (y := 1) (by omega) ?_
        refine hJ (rs.length - (i + 1)) _ _ (by omega) ⟨i + 1, rfl, by omega, ?_, f0, ?_, f9, f10, rfl, rfl⟩
        · intro r hr
          rw [List.take_succ_eq_append_getElem hlt, List.mem_append, List.mem_singleton] at hr
          rcases hr with hr | rfl
          · exact hpos r hr
          · exact h5
        · rw [ps]; rfl
    · obtain rfl : i = rs.length := by omega
      refine hX _ _ _ (by simp) (h2 _ _ _ (h1 _ _ _ ?_))
      show binN _ _ _ _ (fr 5) (fr 0) _ _
      rw [f5, f0, igtr]
      have ha : (rs.all fun r => decide (needN r.length ≠ 0)) = true := by
        rw [List.all_eq_true]
        intro r hr
        rw [List.take_length] at hpos
        exact decide_eq_true (hpos r hr)
      refine cond_d (fun h5 => ?_) (fun h5 => ?_)
      · have := hK w (Ext.refl _ _)
        unfold roomB at this
        rw [if_pos ha, if_pos (by omega)] at this
        exact this
      · have := hK w (Ext.refl _ _)
        unfold roomB at this
        rw [if_pos ha, if_neg (by omega)] at this
        exact this
end Go.Proofs.YtedebapgmfnflaaGreatDoor

/- What an area's head tells; its walk. -/
namespace Go.Proofs.YtedebapgmfnflaaGreatDoor
open Go
set_option maxRecDepth 100000

theorem head_c {w : World} {K : VPost} {n : Nat} (hK : ∀ v w', OwnAt w' v 5 1 (bc (beP 4 n)) 4 → Ext [] w w' → (∀ b ∈ slB v, w.heap.size ≤ b) → K v w') : Calls Tryz.prog 54 #[.int .i64 n] w (retK K) := by
  refine c54_calls _ w K ?_
  unfold c54
  refine nshr (by decide) ?_
  have e3 : ∀ m : Nat, IntKind.u8.wrap (m : Int) = ((UInt8.ofNat m).toNat : Int) := fun m => wrap_u8n m
  rw [convN_i und_int und_u8, e3]
  refine nshr (by decide) ?_
  rw [convN_i und_int und_u8, e3]
  refine nshr (by decide) ?_
  rw [convN_i und_int und_u8, e3]
  rw [convN_i und_int und_u8, e3]
  have el : beP 4 n = [UInt8.ofNat (n >>> 24), UInt8.ofNat (n >>> 16), UInt8.ofNat (n >>> 8), UInt8.ofNat n] := by simp [beP]
  refine (Sep.nil w).litB (beP 4 n) (by rw [el]; rfl) (by rw [beP_length]; decide) fun v w1 s e1 _ => ?_
  have h := s.at 0 rfl
  rw [beP_length] at h
  exact hK v w1 h s.ext (s.fresh 0 rfl)
end Go.Proofs.YtedebapgmfnflaaGreatDoor

/- A record's sectors laid on the disk; the walk. -/
namespace Go.Proofs.YtedebapgmfnflaaGreatDoor
open Go
set_option maxRecDepth 100000

/-- Sectors written from a number on, up to the first refusal. -/
def layD (D : DiskM) (q : Nat) (ls : List Bytes) : DiskM × Bool :=
  (ls.foldl (fun (p : (DiskM × Bool) × Nat) b => (if p.1.2 then ((p.1.1.write p.2 b).1, decide ((p.1.1.write p.2 b).2 = 0)) else p.1, p.2 + 1)) ((D, true), q)).1
theorem layD_idx (D : DiskM) (q : Nat) (ls : List Bytes) : (ls.foldl (fun (p : (DiskM × Bool) × Nat) b => (if p.1.2 then ((p.1.1.write p.2 b).1, decide ((p.1.1.write p.2 b).2 = 0)) else p.1, p.2 + 1)) ((D, true), q)).2 = q + ls.length := by
  have h : ∀ (x : (DiskM × Bool) × Nat), (ls.foldl (fun (p : (DiskM × Bool) × Nat) b => (if p.1.2 then ((p.1.1.write p.2 b).1, decide ((p.1.1.write p.2 b).2 = 0)) else p.1, p.2 + 1)) x).2 = x.2 + ls.length := by
    induction ls with
    | nil => exact fun x => rfl
    | cons b r ih =>
      intro x
      rw [List.foldl_cons, ih, List.length_cons]
      show x.2 + 1 + r.length = _
      omega
  exact h _
theorem layD_snoc (D : DiskM) (q : Nat) (ls : List Bytes) (b : Bytes) : layD D q (ls ++ [b]) = if (layD D q ls).2 then (((layD D q ls).1.write ((q + ls.length : Nat) : Int) b).1, decide (((layD D q ls).1.write ((q + ls.length : Nat) : Int) b).2 = 0)) else layD D q ls := by
  have h := layD_idx D q ls
  unfold layD
  rw [List.foldl_append, List.foldl_cons, List.foldl_nil]
  simp only
  rw [h]
theorem write_pend (D : DiskM) (i : Int) (b : Bytes) : (D.write i b).1.pend.length ≤ D.pend.length + 1 := by
  unfold DiskM.write
  split
  · exact Nat.le_succ _
  · split
    · exact Nat.le_succ _
    · simp

section
variable {S : List Nat} {w0 w : World} {L R : List Res} {K : VPost} {F : List Nat} {D : DiskM}
set_option maxHeartbeats 1000000 in
theorem Sep.lay {a : Nat} {A : AreaH} {t : TypeId} {x : Value} {num : Nat} {r : Bytes} (s : Sep S w0 w L R) (i : Nat) (hL : L[i]? = some (rDk A.disk F D)) (j : Nat) (hji : j ≠ i) (hA : L[j]? = some (rA a A t)) (hx : RdSl w x 1 (bc r) r.length)
    (hp : D.pend.length + needN r.length ≤ 1000000) (hq : A.first + num + needN r.length ≤ 1000000)
    (hno : ¬ packOk A.gen num (needN r.length) → ∀ w', Sep S w0 w' L R → K (.bool false) w')
    (hyes : packOk A.gen num (needN r.length) → ∀ F' w', Sep S w0 w' (L.set i (rDk A.disk F' (layD D (A.first + num) (packB A.gen num r)).1)) R → K (.bool (layD D (A.first + num) (packB A.gen num r)).2) w') :
    fnW Tryz.prog 53 #[.pointer (some ⟨a, 0, none⟩), .int .i64 num, x] w K := by
  refine fnW_of (by kernel_rfl) (c53_calls _ _ _ w K ?_)
  unfold c53
  rw [nilW_e]
  refine off_i ?_
  refine s.load1 j hA rfl ?_
  refine fnW_of (by kernel_rfl) (pack_c hx (fun hn w1 e => ?_) (fun hok v w1 hv e hf => ?_))
  · rw [extr0, extr1]
    have s := s.ext0 e
    refine bindX_i fun J0 h0 => bindX_i fun J1 h1 => ?_
    rw [len_s]
    refine bindX_i fun J2 h2 => ?_
    refine loop_i (fun m fr wr => fr 8 = .bool false ∧ fr 22 = .int .i64 (0 : Nat) ∧ fr 23 = .int .i64 (0 : Nat) ∧ wr = w1) 0 ⟨rfl, rfl, rfl, rfl⟩ ?_
    rintro m fr wr J ⟨f8, f22, f23, rfl⟩ hJ hX
    rw [f22, f23]
    refine nlss (cond_d (fun h => absurd h (by decide)) fun _ => ?_)
    refine hX _ _ _ (by simp) (h2 _ _ _ (h1 _ _ _ ?_))
    show K (fr 8) _
    rw [f8]
    exact hno hn _ s
  · rw [extr0, extr1]
    have s := s.add (T := rK v (packB A.gen num r)) hv e hf
    have h64 := packB_64 A.gen num r
    have hpl := packB_length A.gen num r
    generalize packB A.gen num r = ls at *
    have hvl : ∀ (w : World) (K : VPost), lenW Tryz.prog (some true) #[60] 3 #[v] w K = K (.int .i64 ls.length) w := fun w K => by obtain ⟨a, c, rfl⟩ := (OwnAt.rd (s.at 0 rfl)).len; exact len_s
    refine bindX_i fun J0 h0 => bindX_i fun J1 h1 => ?_
    rw [hvl]
    refine bindX_i fun J2 h2 => ?_
    refine loop_i (fun m fr wr => ∃ (k : Nat) (F' : List Nat), m = ls.length - k ∧ k ≤ ls.length ∧ fr 0 = .pointer (some ⟨a, 0, none⟩) ∧ fr 1 = .int .i64 num ∧ fr 8 = .bool (layD D (A.first + num) (ls.take k)).2 ∧ fr 21 = v ∧ fr 22 = .int .i64 ls.length ∧ fr 23 = .int .i64 k ∧ (layD D (A.first + num) (ls.take k)).1.pend.length ≤ D.pend.length + k ∧
      Sep S w0 wr (rK v ls :: L.set i (rDk A.disk F' (layD D (A.first + num) (ls.take k)).1)) R) ls.length ?_ ?_
    · refine ⟨0, F, rfl, by omega, rfl, rfl, rfl, rfl, rfl, rfl, Nat.le_refl _, ?_⟩
      have e0 : L.set i (rDk A.disk F D) = L := by
        obtain ⟨hlt, he⟩ := List.getElem?_eq_some_iff.1 hL
        rw [← he, List.set_getElem_self]
      show Sep S w0 w1 (rK v ls :: L.set i (rDk A.disk F D)) R
      rw [e0]
      exact s
    · rintro m fr wr J ⟨k, F', rfl, hk, f0, f1, f8, f21, f22, f23, hpe, s⟩ hJ hX
      rw [f22, f23]
      refine nlss (cond_d (fun hlt => ?_) (fun hlt => ?_))
      · rw [f21]
        obtain ⟨b0, o0, hix, hld⟩ := RdSl.secAt (OwnAt.rd (s.at 0 rfl)) h64 hlt .i64
        refine hix _ ?_
        refine hld _ ?_
        have hl : (bc ls[k]).length = 64 := by rw [bc_length, h64 _ (List.getElem_mem hlt)]
        refine s.alloc zero_blk cellsK fun b w2 s _ => ?_
        refine s.storeAll 0 rfl hl (by rw [bc_length]; rfl) (bc_one _) fun w3 s _ => ?_
        have s := s.drew
        generalize w3.drew = w3 at *
        have esn := layD_snoc D (A.first + num) (ls.take k) ls[k]
        rw [← List.take_succ_eq_append_getElem hlt] at esn
        have hkl : (ls.take k).length = k := by rw [List.length_take]; omega
        rw [hkl] at esn
        rw [f8]
        cases hok2 : (layD D (A.first + num) (ls.take k)).2 with
        | false =>
          rw [hok2] at esn
          repeat with_reducible refine gs_ft ?_
          refine pick_fi ?_
          refine nadd (y := 1) (by omega) ?_
          have s := s.drop 0
          refine hJ (ls.length - (k + 1)) _ _ (by omega) ⟨k + 1, F', rfl, by omega, f0, f1, ?_, f21, f22, rfl, ?_, ?_⟩
          · rw [esn, if_neg (by decide), hok2]; rfl
          · rw [esn, if_neg (by decide)]; omega
          · rw [esn, if_neg (by decide)]; exact s
        | true =>
          rw [hok2, if_pos rfl] at esn
          generalize hD' : (layD D (A.first + num) (ls.take k)).1 = D' at *
          have hA' : ∀ (x y : Res), (x :: y :: L.set i (rDk A.disk F' D'))[j + 2]? = some (rA a A t) := fun x y => by
            show (L.set i (rDk A.disk F' D'))[j]? = _
            rw [List.getElem?_set_ne (Ne.symm hji), hA]
          have hD2 : ∀ (x y : Res), (x :: y :: L.set i (rDk A.disk F' D'))[i + 2]? = some (rDk A.disk F' D') := fun x y => by
            show (L.set i (rDk A.disk F' D'))[i]? = _
            rw [List.getElem?_set_self (List.getElem?_eq_some_iff.1 hL).1]
          refine gs_t ?_
          rw [f0]
          refine gs_t ?_
          rw [nilW_e]
          refine gs_t (off_i ?_)
          refine gs_t (s.load1 (j + 2) (hA' _ _) rfl ?_)
          refine gs_t ?_
          refine gs_t ?_
          rw [nilW_e]
          refine gs_t (off_i ?_)
          refine gs_t (s.load1 (j + 2) (hA' _ _) rfl ?_)
          refine gs_t ?_
          rw [f1]
          refine gs_t (nadd (by omega) ?_)
          refine gs_t ?_
          refine gs_t (nadd (by omega) ?_)
          refine gs_t (s.loadAll 0 rfl hl ?_)
          refine gs_t (s.dwrite (i + 2) (hD2 _ _) _ _ (h64 _ (List.getElem_mem hlt)) (by omega) fun F2 w4 s => ?_)
          refine gs_t ?_
          rw [ieql]
          refine pick_ti ?_
          refine nadd (y := 1) (by omega) ?_
          have s := s.drop 0
          refine hJ (ls.length - (k + 1)) _ _ (by omega) ⟨k + 1, F2, rfl, by omega, f0, f1, ?_, f21, f22, rfl, ?_, ?_⟩
          · rw [esn]; rfl
          · rw [esn]; exact Nat.le_trans (write_pend D' _ ls[k]) (by omega)
          · have s : Sep S w0 w4 (rK v ls :: (L.set i (rDk A.disk F' D')).set i (rDk A.disk F2 (D'.write ((A.first + num + k : Nat) : Int) ls[k]).1)) R := s
            rw [List.set_set] at s
            rw [esn]; exact s
      · obtain rfl : k = ls.length := by omega
        refine hX _ _ _ (by simp) (h2 _ _ _ (h1 _ _ _ ?_))
        show K (fr 8) _
        rw [f8]
        rw [List.take_length] at s ⊢
        exact hyes hok F' wr (s.drop 0)
end
end Go.Proofs.YtedebapgmfnflaaGreatDoor

/- Both areas of a disk; the walk. -/
namespace Go.Proofs.YtedebapgmfnflaaGreatDoor
open Go
set_option maxRecDepth 100000

theorem str_area : strI Tryz.prog 89 = some ([(0, 1), (1, 1), (2, 1), (3, 1), (4, 1), (5, 1), (6, 1)], [.pointer none, .int .i64 0, .int .i64 0, .int .i64 0, .int .i64 0, .slice none 0 0, .bool false]) := by kernel_rfl
theorem und_both : Tryz.prog.underlying 98 = some (.array 2 64) := by kernel_rfl
theorem ty_both : tyI Tryz.prog 98 = some (.agg #[.pointer none, .pointer none], 2, 16) := by kernel_rfl
theorem ty_areaP : tyI Tryz.prog 64 = some (.pointer none, 1, 8) := by kernel_rfl
theorem zero_both : zeroO Tryz.prog 98 = some (.agg #[.pointer none, .pointer none]) := by kernel_rfl

/-- An area that has not been read. -/
def newA (p first size : Nat) : AreaH := ⟨p, first, size, 0, 0, .slice none 0 0, true⟩
abbrev ptrA (a : Nat) : Value := .pointer (some ⟨a, 0, none⟩)

theorem fill_area0 (p n : Nat) : fillL [(0, 1), (1, 1), (2, 1), (3, 1), (4, 1), (5, 1), (6, 1)] [.pointer none, .int .i64 0, .int .i64 0, .int .i64 0, .int .i64 0, .slice none 0 0, .bool false] [(0, ptrA p), (2, .int .i64 n), (6, .bool true)] = some (newA p 0 n).cells := by
  have h1 : (ptrA p).cells = #[ptrA p] := rfl
  have h2 : (Value.int .i64 n).cells = #[.int .i64 n] := rfl
  have h3 : (Value.bool true).cells = #[.bool true] := rfl
  simp [fillL, h1, h2, h3, lspl, newA, AreaH.cells]
theorem fill_area1 (p n : Nat) : fillL [(0, 1), (1, 1), (2, 1), (3, 1), (4, 1), (5, 1), (6, 1)] [.pointer none, .int .i64 0, .int .i64 0, .int .i64 0, .int .i64 0, .slice none 0 0, .bool false] [(0, ptrA p), (1, .int .i64 n), (2, .int .i64 n), (6, .bool true)] = some (newA p n n).cells := by
  have h1 : (ptrA p).cells = #[ptrA p] := rfl
  have h2 : (Value.int .i64 n).cells = #[.int .i64 n] := rfl
  have h3 : (Value.bool true).cells = #[.bool true] := rfl
  simp [fillL, h1, h2, h3, lspl, newA, AreaH.cells]

section
variable {S : List Nat} {w0 w : World} {L R : List Res} {K : VPost} {F : List Nat} {D : DiskM}
theorem Sep.halves {p : Nat} (s : Sep S w0 w L R) (hn : D.n ≤ 1000000) (hd : Disk w p F D) (hk : ∀ w', Sep S w0 w' L R → Disk w' p F D)
    (h : ∀ a b w', Sep S w0 w' (rA b (newA p (D.n / 2) (D.n / 2)) 89 :: rA a (newA p 0 (D.n / 2)) 89 :: L) R → K (.agg #[ptrA a, ptrA b]) w') :
    fnW Tryz.prog 59 #[ptrA p] w K := by
  refine fnW_of (by kernel_rfl) (c59_calls _ w K ?_)
  unfold c59
  refine s.alloc zero_both rfl fun b0 w1 s1 _ => ?_
  have hd1 : Disk w1 p F D := hk w1 (s1.drop 0)
  refine fnW_of (by kernel_rfl) (size_c hd1 ?_)
  refine nquo (y := 2) (by decide) (by omega) ?_
  refine build_i str_area (fill_area0 p (D.n / 2)) ?_
  refine s1.box fun a w2 s2 _ => ?_
  refine build_i str_area (fill_area1 p (D.n / 2)) ?_
  refine s2.box fun b w3 s3 _ => ?_
  have s3 : Sep S w0 w3 (rA b (newA p (D.n / 2) (D.n / 2)) 89 :: rA a (newA p 0 (D.n / 2)) 89 :: rB b0 [.pointer none, .pointer none] 98 :: L) R := s3
  obtain ⟨ti, hti, htz, hts, htb⟩ := tyI_spec ty_both
  obtain ⟨ui, hui, huz, hus, hub⟩ := tyI_spec ty_areaP
  refine buildA_i (out := [ptrA a, ptrA b]) und_both hti htz hui (by rw [hus]; rfl) ?_
  refine s3.storeAll 2 rfl rfl rfl (by simp [Value.oneCell']) fun w4 s4 _ => ?_
  refine s4.loadAll 2 rfl rfl ?_
  exact h a b w4 (s4.drop 2)
end
end Go.Proofs.YtedebapgmfnflaaGreatDoor

/- Free, Flush; their walks. -/
namespace Go.Proofs.YtedebapgmfnflaaGreatDoor
open Go
set_option maxRecDepth 100000

theorem areaFree_c {w : World} {K : VPost} {a : Nat} {A : AreaH} {t : TypeId} (h : Blk w a A.cells t) (h1 : A.next ≤ A.size) (h2 : A.size ≤ 1000000) (hK : ∀ w', Ext [] w w' → K (.int .i64 ((A.size - A.next : Nat) : Int)) w') : Calls Tryz.prog 33 #[.pointer (some ⟨a, 0, none⟩)] w (retK K) := by
  refine c33_calls _ w K ?_
  unfold c33
  have s := (Sep.zero1 (U := rA a A t) h).drew
  have he := s.ext
  generalize w.drew = w1 at *
  rw [nilW_e]
  refine off_i (load1 (Blk.r (s.rat 0 rfl)) rfl ?_)
  rw [nilW_e]
  refine off_i (load1 (Blk.r (s.rat 0 rfl)) rfl ?_)
  exact nsub h1 (by omega) (hK w1 he)

section
variable {S : List Nat} {w0 w : World} {L R : List Res} {K : VPost} {F : List Nat} {D : DiskM}
theorem Sep.areaFlush {a : Nat} {A : AreaH} {t : TypeId} (s : Sep S w0 w L R) (i : Nat) (hL : L[i]? = some (rDk A.disk F D)) (j : Nat) (hA : L[j]? = some (rA a A t)) (h : ∀ F' w', Sep S w0 w' (L.set i (rDk A.disk F' D.flush)) R → K (.int .i64 0) w') :
    fnW Tryz.prog 39 #[.pointer (some ⟨a, 0, none⟩)] w K := by
  refine fnW_of (by kernel_rfl) (c39_calls _ w K ?_)
  unfold c39
  rw [nilW_e]
  refine off_i ?_
  refine s.load1 j hA rfl ?_
  exact s.dflush i hL fun F' w' s => h F' w' s
end
end Go.Proofs.YtedebapgmfnflaaGreatDoor

/- Rows whose contents are read alone, and grow; the records of an area: walks. -/
namespace Go.Proofs.YtedebapgmfnflaaGreatDoor
open Go
set_option maxRecDepth 100000

theorem Sep.swap {S : List Nat} {w0 w : World} {L R : List Res} {T1 T2 : Res} (s : Sep S w0 w (T1 :: T2 :: L) R) : Sep S w0 w (T2 :: T1 :: L) R := by
  have hp := List.pairwise_cons.1 s.dis
  have hp2 := List.pairwise_cons.1 hp.2
  have hm : ∀ T ∈ T2 :: T1 :: L, T ∈ T1 :: T2 :: L := fun T h => by
    simp only [List.mem_cons] at h ⊢
    rcases h with h | h | h <;> simp [h]
  refine ⟨s.ext, fun T h => s.own T (hm T h), s.rd, fun T h => s.old T (hm T h), List.pairwise_cons.2 ⟨fun U hU b hb hn => ?_, List.pairwise_cons.2 ⟨fun U hU => hp.1 U (by simp [hU]), hp2.2⟩⟩, fun T h => s.disR T (hm T h)⟩
  rcases List.mem_cons.1 hU with rfl | hU
  · exact hp.1 T2 (by simp) b hn hb
  · exact hp2.1 U hU b hb hn

section
variable {S : List Nat} {w0 w : World} {L R : List Res} {K : VPost}
/-- A row of one's own more, that won't change any more. -/
theorem Sep.growR {v : Value} {l : Bytes} {hs : List Value} {ls : List Bytes} (s : Sep S w0 w (rDb v l :: L) R) (hr : rL hs ls ∈ R) : Sep S w0 w L (rL (hs ++ [v]) (ls ++ [l]) :: R) := by
  have hv : OwnAt w v 5 1 (bc l) l.length := s.at 0 rfl
  have hrl : RowsL w hs ls := s.rd _ hr
  have s' : Sep S w0 w L (rR v 1 (bc l) l.length :: R) := s.freeze 0 rfl (T' := rR v 1 (bc l) l.length) hv.rd (fun b hb => rdB_slB (ys := bc l) hb)
  have s2 : Sep S w0 w L (rL (hs ++ [v]) (ls ++ [l]) :: rR v 1 (bc l) l.length :: R) := s'.addR (T := rL (hs ++ [v]) (ls ++ [l])) (RowsL.append hv.rd hv.cap hrl) (fun U hU b hb hm => by
    have hm : b ∈ rowsF (hs ++ [v]) (ls ++ [l]) := hm
    rw [rowsF_snoc hrl.length] at hm
    rcases List.mem_append.1 hm with h | h
    · exact s'.disR U hU (rL hs ls) (by simp [hr]) b hb h
    · exact s'.disR U hU (rR v 1 (bc l) l.length) (by simp) b hb h)
  exact s2.sub (List.Sublist.refl _) (fun T hT => by
    rcases List.mem_cons.1 hT with rfl | hT
    · simp
    · simp [hT])
/-- A row that is read more. -/
theorem Sep.growRd {v : Value} {l : Bytes} {hs : List Value} {ls : List Bytes} {U : Res} (s : Sep S w0 w L R) (hr : rL hs ls ∈ R) (hv : RdSl w v 1 (bc l) l.length) (hc : capOk v) (hU : U ∈ R) (hf : ∀ b ∈ rdB v (bc l), b ∈ U.foot) : Sep S w0 w L (rL (hs ++ [v]) (ls ++ [l]) :: R) := by
  have hrl : RowsL w hs ls := s.rd _ hr
  exact s.addR (T := rL (hs ++ [v]) (ls ++ [l])) (RowsL.append hv hc hrl) (fun V hV b hb hm => by
    have hm : b ∈ rowsF (hs ++ [v]) (ls ++ [l]) := hm
    rw [rowsF_snoc hrl.length] at hm
    rcases List.mem_append.1 hm with h | h
    · exact s.disR V hV (rL hs ls) hr b hb h
    · exact s.disR V hV U hU b hb (hf b h))
theorem Sep.noRows (s : Sep S w0 w L R) : Sep S w0 w L (rL [] [] :: R) := s.addR (T := rL [] []) trivial (by intro U _ b _ hm; simp [rL, rowsF] at hm)
/-- Fewer things that are read. -/
theorem Sep.less {R' : List Res} (s : Sep S w0 w L R) (h : ∀ T ∈ R', T ∈ R) : Sep S w0 w L R' := s.sub (List.Sublist.refl _) h

/-- A row appended. -/
theorem Sep.apRow {v x r : Value} {hs : List Value} {n : Nat} (s : Sep S w0 w L R) (i : Nat) (hL : L[i]? = some (rO v 36 1 hs n)) (hx : RdSl w x 1 [r] 1) (hr : r.oneCell' = true) (hn : n ≤ 2 ^ 30)
    (h : ∀ v' w', Sep S w0 w' (L.set i (rO v' 36 1 (hs ++ [r]) (n + 1))) R → K v' w') : insW Tryz.prog (Builtin.append_ #[71, 71] 71 #[v, x]) w K := by
  obtain ⟨ui, hui, huz, husz, huby⟩ := tyI_spec ty_row
  refine s.appendO (v := v) (n := n) (m := 1) (ys := [r]) (xs := hs) i (by rw [husz]; exact hL) und_rows und_rows hui huz (by rw [husz]; rfl) (by rw [huby]; decide) (by rw [husz]; exact hx) (by intro y hy; simp at hy; subst hy; exact hr) (by rw [huby]; omega) fun v' w2 s2 => ?_
  rw [husz] at s2
  exact h v' w2 s2
end

set_option maxHeartbeats 1000000 in
theorem records_c {w : World} {K : VPost} {a : Nat} {A : AreaH} {t : TypeId} {hs : List Value} {rs : List Bytes} (h : Blk w a A.cells t) (hv : RowsR w A.recs hs rs) (hl : rs.length ≤ 2 ^ 30) (hb : ∀ r ∈ rs, r.length ≤ 2 ^ 30)
    (hK : ∀ v hs' w', OwnAt w' v 36 1 hs' rs.length → RowsL w' hs' rs → Ext [] w w' → (∀ b ∈ slB v, w.heap.size ≤ b) → (∀ b ∈ rowsF hs' rs, w.heap.size ≤ b) → (∀ b ∈ slB v, b ∉ rowsF hs' rs) → K v w') :
    Calls Tryz.prog 30 #[.pointer (some ⟨a, 0, none⟩)] w (retK K) := by
  refine c30_calls _ w K ?_
  unfold c30
  refine bindX_i fun J0 h0 => bindX_i fun J1 h1 => ?_
  rw [nilW_e]
  refine off_i ?_
  refine load1 h.r rfl ?_
  have hvl : ∀ (w : World) (K : VPost), lenW Tryz.prog (some true) #[71] 3 #[A.recs] w K = K (.int .i64 rs.length) w := fun w K => by obtain ⟨xa, xc, hx⟩ := hv.len; rw [hx]; exact len_s
  rw [hvl]
  refine bindX_i fun J2 h2 => ?_
  have s := Sep.zero1 (U := rW A.recs hs rs) hv
  have s := s.add (T := rO (.slice none 0 0) 36 1 [] 0) (.inl ⟨rfl, rfl, rfl⟩) (Ext.refl _ _) (by simp [rO, slB])
  have s := s.add (T := rL [] []) trivial (Ext.refl _ _) (by simp [rL, rowsF])
  have s : Sep [] w w [rL [] [], rO (.slice none 0 0) 36 1 [] 0] [rW A.recs hs rs] := s
  refine loop_i (fun m fr wr => ∃ (i : Nat) (v1 : Value) (hs1 : List Value), m = rs.length - i ∧ i ≤ rs.length ∧ hs1.length = i ∧ fr 3 = v1 ∧ fr 9 = A.recs ∧ fr 10 = .int .i64 rs.length ∧ fr 11 = .int .i64 i ∧ Sep [] w wr [rL hs1 (rs.take i), rO v1 36 1 hs1 i] [rW A.recs hs rs]) rs.length ?_ ?_
  · exact ⟨0, _, [], rfl, by omega, rfl, rfl, rfl, rfl, rfl, s⟩
  · rintro m fr wr J ⟨i, v1, hs1, rfl, hi, hhs, f3, f9, f10, f11, s⟩ hJ hX
    rw [f10, f11]
    refine nlss (cond_d (fun hlt => ?_) (fun hlt => ?_))
    · rw [f9]
      have hrw : RowsR wr A.recs hs rs := s.rat 0 rfl
      obtain ⟨b, o, r, hix, hld, hr, hc, hf⟩ := hrw.elem hlt .i64
      refine hix _ ?_
      refine hld _ ?_
      refine fnW_of (by kernel_rfl) (bytesClone_c hr (hb _ (List.getElem_mem hlt)) fun v4 w5 hv4 e3 hf4 => ?_)
      have s := s.add (T := rDb v4 rs[i]) hv4 e3 hf4
      have hrl : RowsL w5 hs1 (rs.take i) := s.at 1 rfl
      have htk : rs.take (i + 1) = rs.take i ++ [rs[i]] := List.take_succ_eq_append_getElem hlt
      have hhl : hs1.length = (rs.take i).length := by rw [List.length_take]; omega
      have s := s.join (T := rL (hs1 ++ [v4]) (rs.take (i + 1))) (by rw [htk]; exact RowsL.append (OwnAt.rd hv4) (OwnAt.cap hv4) hrl) (by
        intro b hb
        rw [htk] at hb
        have hb : b ∈ rowsF (hs1 ++ [v4]) (rs.take i ++ [rs[i]]) := hb
        rw [rowsF_snoc hhl] at hb
        rcases List.mem_append.1 hb with h | h
        · exact .inr h
        · exact .inl (rdB_slB (ys := bc rs[i]) h))
      rw [f3]
      obtain ⟨ra, rc, hra⟩ := (OwnAt.rd hv4).len
      refine s.addRow (v := v1) (hs := hs1) (n := i) 1 rfl hra (by omega) fun t v2 w6 s => ?_
      refine nadd (y := 1) (by omega) ?_
      exact hJ (rs.length - (i + 1)) _ _ (by omega) ⟨i + 1, v2, hs1 ++ [v4], rfl, by omega, by simp [hhs], rfl, f9, f10, rfl, s⟩
    · obtain rfl : i = rs.length := by omega
      refine hX _ _ _ (by simp) (h2 _ _ _ (h1 _ _ _ ?_))
      show K (fr 3) _
      rw [f3]
      rw [List.take_length] at s
      have hd := (List.pairwise_cons.1 s.dis).1 _ (List.mem_singleton.2 rfl)
      exact hK v1 hs1 wr (s.at 1 rfl) (s.at 0 rfl) s.ext (s.fresh 1 rfl) (s.fresh 0 rfl) (fun b hb hm => hd b hm hb)

section
variable {S : List Nat} {w0 w : World} {L R : List Res} {K : VPost} {F : List Nat} {D : DiskM}
theorem Sep.areaRecords {a : Nat} {A : AreaH} {t : TypeId} {hs : List Value} {rs : List Bytes} (s : Sep S w0 w L R) (j : Nat) (hA : L[j]? = some (rA a A t)) (i : Nat) (hv : L[i]? = some (rO A.recs 36 1 hs rs.length)) (hr : rL hs rs ∈ R) (hl : rs.length ≤ 2 ^ 30) (hb : ∀ r ∈ rs, r.length ≤ 2 ^ 30)
    (h : ∀ v hs' w', Sep S w0 w' (rO v 36 1 hs' rs.length :: L) (rL hs' rs :: R) → K v w') : fnW Tryz.prog 30 #[ptrA a] w K := by
  have hrl : RowsL w hs rs := s.rd _ hr
  have hov : OwnAt w A.recs 36 1 hs rs.length := s.at i hv
  refine fnW_of (by kernel_rfl) (records_c (s.at j hA) ⟨by rw [hrl.length]; exact hov.rd, hrl⟩ hl hb fun v hs' w' hv' hr' e hf hg hd => ?_)
  have s := s.add2 (T := rO v 36 1 hs' rs.length) (U := rL hs' rs) hv' hr' e hf hg hd
  exact h v hs' w' (s.freeze 1 rfl (T' := rL hs' rs) hr' (fun b hb => hb))

set_option maxHeartbeats 1000000 in
theorem Sep.areaPut {a : Nat} {A : AreaH} {t : TypeId} {x : Value} {r : Bytes} {hs : List Value} {rs : List Bytes} (s : Sep S w0 w (rA a A t :: rO A.recs 36 1 hs rs.length :: rDk A.disk F D :: L) R) (hr : rL hs rs ∈ R) (hx : rR x 1 (bc r) r.length ∈ R)
    (hok : packOk A.gen A.next (needN r.length)) (hp : D.pend.length + needN r.length ≤ 1000000) (hq : A.first + A.next + needN r.length ≤ 1000000) (hn : rs.length ≤ 2 ^ 30)
    (hno : (layD D (A.first + A.next) (packB A.gen A.next r)).2 = false → ∀ F' w', Sep S w0 w' (rA a { A with stuck := true } t :: rO A.recs 36 1 hs rs.length :: rDk A.disk F' (layD D (A.first + A.next) (packB A.gen A.next r)).1 :: L) R → K (.bool false) w')
    (hyes : (layD D (A.first + A.next) (packB A.gen A.next r)).2 = true → ∀ F' v h w', Sep S w0 w' (rA a { A with next := A.next + needN r.length, recs := v } t :: rO v 36 1 (hs ++ [h]) (rs ++ [r]).length :: rDk A.disk F' (layD D (A.first + A.next) (packB A.gen A.next r)).1 :: L) (rL (hs ++ [h]) (rs ++ [r]) :: R) → K (.bool true) w') :
    fnW Tryz.prog 51 #[ptrA a, x] w K := by
  have hrl : r.length ≤ 2000 := by
    rcases Nat.lt_or_ge 2000 r.length with h1 | h1
    · exact absurd (need_zero.2 h1) hok.1
    · exact h1
  refine fnW_of (by kernel_rfl) (c51_calls _ _ w K ?_)
  unfold c51
  rw [nilW_e]
  refine off_i ?_
  refine s.load1 0 rfl rfl ?_
  have hxr : RdSl w x 1 (bc r) r.length := s.rd _ hx
  refine s.lay 2 rfl 0 (by decide) rfl hxr hp hq (fun hn => absurd hok hn) (fun _ F1 w1 s => ?_)
  have s : Sep S w0 w1 (rA a A t :: rO A.recs 36 1 hs rs.length :: rDk A.disk F1 (layD D (A.first + A.next) (packB A.gen A.next r)).1 :: L) R := s
  generalize layD D (A.first + A.next) (packB A.gen A.next r) = D' at *
  refine not_ti ?_
  cases hb : D'.2 with
  | false =>
    refine cndT ?_
    rw [nilW_e]
    refine off_i ?_
    refine s.store1 0 rfl rfl (by show 6 < 7; decide) rfl fun w2 s _ => ?_
    exact hno hb F1 w2 s
  | true =>
    refine cndF ?_
    have s := s.drew
    generalize w1.drew = w1 at *
    rw [nilW_e]
    refine off_i ?_
    refine s.load1 0 rfl rfl ?_
    have hxr : RdSl w1 x 1 (bc r) r.length := s.rd _ hx
    rw [hxr.lenw]
    refine fnW_of (by kernel_rfl) (need_c ?_)
    rw [needI_nat]
    refine ⟨s.load1 0 rfl rfl ⟨rfl, rfl⟩, ?_⟩
    refine nadd (by omega) ?_
    rw [nilW_e]
    refine off_i ?_
    refine s.store1 0 rfl rfl (by show 4 < 7; decide) rfl fun w2 s _ => ?_
    have s : Sep S w0 w2 (rA a { A with next := A.next + needN r.length } t :: rO A.recs 36 1 hs rs.length :: rDk A.disk F1 D'.1 :: L) R := s
    have s := s.drew
    generalize w2.drew = w2 at *
    rw [nilW_e]
    refine off_i ?_
    refine s.load1 0 rfl rfl ?_
    have hxr : RdSl w2 x 1 (bc r) r.length := s.rd _ hx
    refine fnW_of (by kernel_rfl) (bytesClone_c hxr (by omega) fun v4 w3 hv4 e3 hf4 => ?_)
    have s := s.add (T := rDb v4 r) hv4 e3 hf4
    refine ⟨s.load1 1 rfl rfl ⟨rfl, rfl⟩, ?_⟩
    obtain ⟨ra, rc, hra⟩ := (OwnAt.rd hv4).len
    subst hra
    refine s.litR fun vl w4 s => ?_
    refine ⟨s.load1 2 rfl rfl ⟨rfl, rfl⟩, ?_⟩
    refine s.apRow (v := A.recs) (hs := hs) (n := rs.length) 3 rfl (OwnAt.rd (s.at 0 rfl)) rfl hn fun v5 w5 s => ?_
    rw [nilW_e]
    refine off_i ?_
    refine s.store1 2 rfl (by
      have hv5 : OwnAt w5 v5 36 1 (hs ++ [_]) (rs.length + 1) := s.at 3 rfl
      obtain ⟨qa, qc, hq⟩ := hv5.rd.len
      rw [hq]; rfl) (by show 5 < 7; decide) (by
      have hv5 : OwnAt w5 v5 36 1 (hs ++ [_]) (rs.length + 1) := s.at 3 rfl
      obtain ⟨qa, qc, hq⟩ := hv5.rd.len
      rw [hq]; rfl) fun w6 s _ => ?_
    have s := s.drop 0
    have s := s.growR hr
    have el : (rs ++ [r]).length = rs.length + 1 := by simp
    have := hyes hb F1 v5 (.slice ra r.length rc) w6
    rw [el] at this
    exact this s
end
end Go.Proofs.YtedebapgmfnflaaGreatDoor

/- An area read off its sectors; the walk. Condition: the area lies within the disk, the disk has at most 10^6 sectors. -/
namespace Go.Proofs.YtedebapgmfnflaaGreatDoor
open Go
set_option maxRecDepth 100000

theorem drop64 {ls : List Bytes} (h : ∀ l ∈ ls, l.length = 64) {k : Nat} (hk : k ≤ ls.length) : ls.flatten.drop (k * 64) = (ls.drop k).flatten := by
  have h1 : (ls.take k).flatten.length = k * 64 := by
    rw [flat64 (fun l hl => h l (List.mem_of_mem_take hl)), List.length_take, Nat.min_eq_left hk, Nat.mul_comm]
  have h2 : ls.flatten = (ls.take k).flatten ++ (ls.drop k).flatten := by rw [← List.flatten_append, List.take_append_drop]
  rw [h2, List.drop_left' h1]
theorem bc_drop (l : Bytes) (k : Nat) : (bc l).drop k = bc (l.drop k) := by simp [bc]
theorem secsOf_64 {b : Bytes} {n f s : Nat} (hb : b.length = 64 * n) (hf : f + s ≤ n) : ∀ l ∈ secsOf b f s, l.length = 64 := by
  intro l hl
  unfold secsOf at hl
  obtain ⟨i, hi, rfl⟩ := List.mem_map.1 hl
  rw [List.mem_range] at hi
  exact sec_length hb (by omega)
theorem Disk.okD {w : World} {p : Nat} {F : List Nat} {D : DiskM} (h : Disk w p F D) : D.ok := by
  obtain ⟨bl, bs, zl, zs, pv, h, _⟩ := h
  exact h.ok
theorem mark_lt {b : Bytes} (hb : b.length = 64) : (markB b).1 < 4294967296 := by
  unfold markB
  split
  · have := beN_lt (b.take 4)
    rw [List.length_take, hb] at this
    exact this
  · decide
theorem unpack_need {l : List Bytes} {g n : Nat} (hl : ∀ b ∈ l, b.length = 64) (hg : g < 2 ^ 32) {r : Bytes} {k : Nat} (h : unpackB l g n = some (r, k)) : 0 < k ∧ k ≤ l.length ∧ r.length ≤ 2000 := by
  obtain ⟨h1, rfl⟩ := (unpack_iff hl hg r k).1 h
  have := need_pos h1.1.1
  exact ⟨this.1, h1.1.2.1, h1.1.1⟩

section
variable {S : List Nat} {w0 w : World} {L R : List Res} {K : VPost} {F : List Nat} {D : DiskM}
set_option maxHeartbeats 2000000 in
theorem Sep.areaRead {a p first size : Nat} {t : TypeId} (s : Sep S w0 w (rA a (newA p first size) t :: L) R) (i : Nat) (hD : L[i]? = some (rDk p F D)) (hfit : first + size ≤ D.n) (h1 : 1 ≤ size) (hn : D.n ≤ 1000000)
    (hno : readA D.seen first size = none → ∀ w', Sep S w0 w' L R → K (.bool false) w')
    (hyes : ∀ B, readA D.seen first size = some B → ∀ v hs w', Sep S w0 w' (rA a ⟨p, first, size, B.gen, B.next, v, true⟩ t :: rO v 36 1 hs B.recs.length :: L) (rL hs B.recs :: R) → K (.bool true) w') :
    fnW Tryz.prog 60 #[ptrA a] w K := by
  have hD1 : (rA a (newA p first size) t :: L)[i + 1]? = some (rDk p F D) := by simpa using hD
  have hdisk : Disk w p F D := s.at (i + 1) hD1
  have hseen := hdisk.okD.slen
  refine fnW_of (by kernel_rfl) (c60_calls _ w K ?_)
  unfold c60
  refine fnW_of (by kernel_rfl) (sectors_c (A := newA p first size) (k := 0) (D := D) (F := F) (s.at 0 rfl) hdisk hfit hn hseen (Nat.zero_le _) fun v w1 hv e1 hf1 => ?_)
  have hv : OwnAt w1 v 79 64 (bc (secsOf D.seen first size).flatten) (secsOf D.seen first size).length := hv
  have s := s.add (T := rK v (secsOf D.seen first size)) hv e1 hf1
  have h64 := secsOf_64 hseen hfit
  have hlen := secsOf_length D.seen first size
  have hrd : readA D.seen first size = (if (markB ((secsOf D.seen first size).getD 0 [])).1 = 0 then none else
    match unpackB ((secsOf D.seen first size).take 1) (markB ((secsOf D.seen first size).getD 0 [])).1 0 with
    | none => none
    | some (hd, _) => if hd.length ≠ 4 then none else
      if (readL (secsOf D.seen first size) (markB ((secsOf D.seen first size).getD 0 [])).1 (beN hd + 1) (secsOf D.seen first size).length 1 [] (decide (beN hd + 1 = 1))).2.2 then some ⟨first, size, (markB ((secsOf D.seen first size).getD 0 [])).1, (readL (secsOf D.seen first size) (markB ((secsOf D.seen first size).getD 0 [])).1 (beN hd + 1) (secsOf D.seen first size).length 1 [] (decide (beN hd + 1 = 1))).1, (readL (secsOf D.seen first size) (markB ((secsOf D.seen first size).getD 0 [])).1 (beN hd + 1) (secsOf D.seen first size).length 1 [] (decide (beN hd + 1 = 1))).2.1, true⟩ else none) := rfl
  rw [hrd] at hno hyes
  clear hrd
  generalize secsOf D.seen first size = ls at *
  obtain ⟨b0, o0, hix, hld⟩ := RdSl.secAt (OwnAt.rd (s.at 0 rfl)) h64 (i := 0) (by omega) .i64
  refine hix _ ?_
  refine hld _ ?_
  have hm0 : ls.getD 0 [] = ls[0] := by rw [List.getD_eq_getElem?_getD, List.getElem?_eq_getElem (by omega)]; rfl
  rw [hm0] at hno hyes
  have h064 : ls[0].length = 64 := h64 _ (List.getElem_mem _)
  refine fnW_of (by kernel_rfl) (mark_c h064 fun w2 e2 => ?_)
  have s := s.ext0 e2
  have hglt := mark_lt h064
  generalize markB ls[0] = mk at *
  refine extrW_e (vs := [_, _, _]) rfl ?_
  refine extrW_e (vs := [_, _, _]) rfl ?_
  refine extrW_e (vs := [_, _, _]) rfl ?_
  have hvr : RdSl w2 v 64 (bc ls.flatten) ls.length := OwnAt.rd (s.at 0 rfl)
  have hcapv : capOk v := OwnAt.cap (s.at 0 rfl)
  refine hvr.cut (l := 0) (h := 1) hcapv rfl rfl (by omega) (by omega) fun v1 hv1 hc1 hf1 _ => ?_
  rw [Nat.zero_mul, List.drop_zero, Nat.sub_zero, ← List.drop_zero (l := bc _), bc_part, List.drop_zero, take64 h64 (by omega)] at hv1
  have hl1 : (ls.take 1).length = 1 := by rw [List.length_take]; omega
  have h641 : ∀ l ∈ ls.take 1, l.length = 64 := fun l hl => h64 l (List.mem_of_mem_take hl)
  have hv1 : RdSl w2 v1 64 (bc (ls.take 1).flatten) (ls.take 1).length := by rw [hl1]; exact hv1
  have hui : unpackI (ls.take 1) (mk.1 : Nat) 0 = if mk.1 = 0 then none else unpackB (ls.take 1) mk.1 0 := by
    by_cases h0 : mk.1 = 0
    · rw [if_pos h0]; unfold unpackI; rw [if_pos (.inr (.inl (by omega)))]
    · rw [if_neg h0]; exact unpackI_nat (n := 0) (by omega) (by omega) (by omega)
  refine fnW_of (by kernel_rfl) (unpack_c hv1 hc1 h641 (by omega) (fun hu w3 e3 => ?_) (fun hd k hu vh w3 hvh e3 hfh => ?_))
  · have s := s.ext0 e3
    refine extrW_e (vs := [_, _, _]) rfl ?_
    refine extrW_e (vs := [_, _, _]) rfl ?_
    refine extrW_e (vs := [_, _, _]) rfl ?_
    refine not_ti ?_
    rw [Bool.not_false]
    repeat with_reducible refine gs_tf ?_
    refine pick_ti ?_
    refine cndT ?_
    rw [hui] at hu
    refine hno ?_ w3 ((s.drop 0).drop 0)
    by_cases h0 : mk.1 = 0
    · rw [if_pos h0]
    · rw [if_neg h0] at hu ⊢
      rw [hu]
  rw [hui] at hu
  have h0 : mk.1 ≠ 0 := fun h0 => by rw [if_pos h0] at hu; cases hu
  rw [if_neg h0] at hu
  simp only [if_neg h0, hu] at hno hyes
  have s := s.add (T := rDb vh hd) hvh e3 hfh
  refine extrW_e (vs := [_, _, _]) rfl ?_
  refine extrW_e (vs := [_, _, _]) rfl ?_
  refine extrW_e (vs := [_, _, _]) rfl ?_
  refine not_ti ?_
  rw [Bool.not_true]
  refine gs_f ?_
  refine gs_f ?_
  rw [hvh.rd.lenw]
  refine gs_f ?_
  refine nneq (y := 4) ?_
  refine pick_fi ?_
  refine cond_d (fun h4 => hno (by rw [if_pos h4]) w3 (((s.drop 0).drop 0).drop 0)) (fun h4 => ?_)
  simp only [if_neg h4] at hno hyes
  have h4 : hd.length = 4 := by omega
  rw [nilW_e]
  refine off_i ?_
  refine s.store1 2 rfl rfl (by show 3 < 7; decide) rfl fun w4 s _ => ?_
  rw [nilW_e]
  refine off_i ?_
  refine s.store1 2 rfl rfl (by show 4 < 7; decide) rfl fun w5 s _ => ?_
  have s : Sep S w0 w5 (rDb vh hd :: rK v ls :: rA a ⟨p, first, size, mk.1, 1, .slice none 0 0, true⟩ t :: L) R := s
  refine fnW_of (by kernel_rfl) (told_c (OwnAt.rd (s.at 0 rfl)) (by omega) ?_)
  have hbl := beN_lt hd
  rw [h4] at hbl
  generalize beN hd = cnt at *
  refine nadd (y := 1) (by omega) ?_
  rw [nilW_e]
  refine off_i ?_
  refine s.load1 2 rfl rfl ?_
  refine neql (y := 1) ?_
  refine bindX_i fun J0 h0' => bindX_i fun J1 h1' => bindX_i fun J2 h2' => ?_
  have s := s.drop 0
  have s := s.add (T := rO (.slice none 0 0) 36 1 [] 0) (.inl ⟨rfl, rfl, rfl⟩) (Ext.refl _ _) (by simp [rO, slB])
  have s := s.noRows
  have s : Sep S w0 w5 (rO (.slice none 0 0) 36 1 [] ([] : List Bytes).length :: rK v ls :: rA a ⟨p, first, size, mk.1, 1, .slice none 0 0, true⟩ t :: L) (rL [] [] :: R) := s
  generalize hfin : readL ls mk.1 (cnt + 1) ls.length 1 [] (decide (cnt + 1 = 1)) = fin at *
  have tail : ∀ (fr : Fr) (wr : World) (hs : List Value) (v1 : Value), fr 11 = .bool fin.2.2 → Sep S w0 wr (rO v1 36 1 hs fin.2.1.length :: rK v ls :: rA a ⟨p, first, size, mk.1, fin.1, v1, true⟩ t :: L) (rL hs fin.2.1 :: R) → K (fr 11) wr := by
    intro fr wr hs v1 f11 s
    rw [f11]
    cases hre : fin.2.2 with
    | false =>
      rw [hre] at hno
      exact hno rfl wr ((((s.drop 0).drop 0).drop 0).less (fun T hT => by simp [hT]))
    | true =>
      rw [hre] at hyes
      have s := s.drop 1
      have s : Sep S w0 wr (rO v1 36 1 hs fin.2.1.length :: rA a ⟨p, first, size, mk.1, fin.1, v1, true⟩ t :: L) (rL hs fin.2.1 :: R) := s
      exact hyes _ rfl v1 hs wr s.swap
  refine loop_i (fun m fr wr => ∃ (next : Nat) (recs : List Bytes) (re : Bool) (hs : List Value) (v1 : Value), readL ls mk.1 (cnt + 1) m next recs re = fin ∧ ls.length ≤ m + next ∧ recs.length ≤ next ∧ next ≤ ls.length ∧ fr 0 = ptrA a ∧ fr 3 = v ∧ fr 4 = .int .i64 mk.1 ∧ fr 10 = .int .i64 (cnt + 1 : Nat) ∧ fr 11 = .bool re ∧
    Sep S w0 wr (rO v1 36 1 hs recs.length :: rK v ls :: rA a ⟨p, first, size, mk.1, next, v1, true⟩ t :: L) (rL hs recs :: R)) ls.length ?_ ?_
  · exact ⟨1, [], _, [], _, hfin, by omega, by simp, by omega, rfl, rfl, rfl, rfl, rfl, s⟩
  · rintro m fr wr J ⟨next, recs, re, hs, v1, hrl, hml, hrn, hnl, f0, f3, f4, f10, f11, s⟩ hJ hX
    rw [f0]
    have s := s.drew
    generalize wr.drew = wr at *
    rw [nilW_e]
    refine off_i ?_
    refine s.load1 2 rfl rfl ?_
    rw [nilW_e]
    refine off_i ?_
    refine s.load1 2 rfl rfl ?_
    refine nlss (cond_d (fun hlt => ?_) (fun hlt => ?_))
    · have hlt : next < size := hlt
      have s := s.drew
      generalize wr.drew = wr at *
      obtain ⟨m, rfl⟩ : ∃ k, m = k + 1 := ⟨m - 1, by omega⟩
      rw [readL, if_pos (by omega)] at hrl
      rw [nilW_e]
      refine off_i ?_
      refine s.load1 2 rfl rfl ?_
      rw [f3, f4]
      have hvr : RdSl wr v 64 (bc ls.flatten) ls.length := OwnAt.rd (s.at 1 rfl)
      refine hvr.cut (l := next) (h := ls.length) hcapv rfl rfl (by omega) (by omega) fun v2 hv2 hc2 _ _ => ?_
      have ep : ((bc ls.flatten).drop (next * 64)).take ((ls.length - next) * 64) = bc (ls.drop next).flatten := by
        rw [bc_drop, drop64 h64 (by omega), List.take_of_length_le]
        rw [bc_length, flat64 (fun l hl => h64 l (List.mem_of_mem_drop hl)), List.length_drop, Nat.mul_comm]
        exact Nat.le_refl _
      have hdl : (ls.drop next).length = ls.length - next := List.length_drop
      rw [ep, ← hdl] at hv2
      have h64d : ∀ l ∈ ls.drop next, l.length = 64 := fun l hl => h64 l (List.mem_of_mem_drop hl)
      rw [nilW_e]
      refine off_i ?_
      refine s.load1 2 rfl rfl ?_
      have hun : unpackI (ls.drop next) (mk.1 : Nat) (next : Nat) = unpackB (ls.drop next) mk.1 next := unpackI_nat (by omega) (by omega) (by omega)
      refine fnW_of (by kernel_rfl) (unpack_c hv2 hc2 h64d (by omega) (fun hu w6 e6 => ?_) (fun r k hu vr w6 hvr6 e6 hf6 => ?_))
      · rw [hun] at hu
        rw [hu] at hrl
        have s := s.ext0 e6
        refine extrW_e (vs := [_, _, _]) rfl ?_
        refine extrW_e (vs := [_, _, _]) rfl ?_
        refine extrW_e (vs := [_, _, _]) rfl ?_
        refine not_ti (cndT ?_)
        refine hX _ _ _ (by simp) (h2' _ _ _ (h1' _ _ _ ?_))
        subst hrl
        exact tail _ w6 hs v1 f11 s
      · rw [hun] at hu
        rw [hu] at hrl
        obtain ⟨hk0, hkl, hr2⟩ := unpack_need h64d (by omega) hu
        have s := s.add (T := rDb vr r) hvr6 e6 hf6
        refine extrW_e (vs := [_, _, _]) rfl ?_
        refine extrW_e (vs := [_, _, _]) rfl ?_
        refine extrW_e (vs := [_, _, _]) rfl ?_
        refine not_ti (cndF ?_)
        rw [nilW_e]
        refine off_i ?_
        refine s.load1 3 rfl rfl ?_
        obtain ⟨ra, rc, hra⟩ := (OwnAt.rd hvr6).len
        subst hra
        refine s.litR fun vl w7 s => ?_
        refine s.apRow (v := v1) (hs := hs) (n := recs.length) 2 rfl (OwnAt.rd (s.at 0 rfl)) rfl (by omega) fun v5 w8 s => ?_
        obtain ⟨qa, qc, hq⟩ := (OwnAt.rd (s.at 2 rfl)).len
        rw [nilW_e]
        refine off_i ?_
        refine s.store1 4 rfl (by rw [hq]; rfl) (by show 5 < 7; decide) (by rw [hq]; rfl) fun w9 s _ => ?_
        have s := s.drop 0
        have s := s.growR (ls := recs) (hs := hs) (by simp)
        have s : Sep S w0 w9 (rO v5 36 1 (hs ++ [.slice ra r.length rc]) (recs.length + 1) :: rK v ls :: rA a ⟨p, first, size, mk.1, next, v5, true⟩ t :: L) (rL (hs ++ [.slice ra r.length rc]) (recs ++ [r]) :: rL hs recs :: R) := s
        have s := s.less (R' := rL (hs ++ [.slice ra r.length rc]) (recs ++ [r]) :: R) (fun T hT => by
          rcases List.mem_cons.1 hT with rfl | hT
          · simp
          · simp [hT])
        rw [nilW_e]
        refine off_i ?_
        refine s.load1 2 rfl rfl ?_
        refine nadd (x := next) (y := k) (by omega) ?_
        rw [nilW_e]
        refine off_i ?_
        refine s.store1 2 rfl rfl (by show 4 < 7; decide) rfl fun w10 s _ => ?_
        have s : Sep S w0 w10 (rO v5 36 1 (hs ++ [.slice ra r.length rc]) (recs.length + 1) :: rK v ls :: rA a ⟨p, first, size, mk.1, next + k, v5, true⟩ t :: L) (rL (hs ++ [.slice ra r.length rc]) (recs ++ [r]) :: R) := s
        have el : (recs ++ [r]).length = recs.length + 1 := by simp
        rw [f11, f10]
        have hfin2 : ∀ re2 : Bool, re2 = (re || decide (next + k = cnt + 1)) → ∀ fr', fr' 0 = ptrA a → fr' 3 = v → fr' 4 = .int .i64 mk.1 → fr' 10 = .int .i64 (cnt + 1 : Nat) → fr' 11 = .bool re2 → J .normal fr' w10 := by
          rintro re2 rfl fr' g0 g3 g4 g10 g11
          refine hJ m fr' w10 (by omega) ⟨next + k, recs ++ [r], _, hs ++ [.slice ra r.length rc], v5, hrl, by omega, by rw [el]; omega, by omega, g0, g3, g4, g10, g11, ?_⟩
          rw [el]
          exact s
        cases re with
        | true =>
          repeat with_reducible refine gs_tf ?_
          refine pick_ti ?_
          exact hfin2 true rfl _ f0 f3 f4 f10 rfl
        | false =>
          refine gs_f ?_
          refine gs_f ?_
          rw [nilW_e]
          refine gs_f (off_i ?_)
          refine gs_f (s.load1 2 rfl rfl ?_)
          refine gs_f ?_
          refine gs_f ?_
          refine neql ?_
          refine pick_fi ?_
          exact hfin2 _ rfl _ f0 f3 f4 f10 rfl
    · have hlt : ¬ next < size := hlt
      have hnl : next = ls.length := by omega
      have hrl2 : readL ls mk.1 (cnt + 1) m next recs re = (next, recs, re) := by
        cases m with
        | zero => rfl
        | succ m => rw [readL, if_neg (by omega)]
      rw [hrl2] at hrl
      refine hX _ _ _ (by simp) (h2' _ _ _ (h1' _ _ _ ?_))
      subst hrl
      exact tail _ wr hs v1 f11 s
end
end Go.Proofs.YtedebapgmfnflaaGreatDoor

/- The disk's current area; Open; the area that a new one is begun in: walks. Condition: the disk has at least 2 and at most 10^6 sectors. -/
namespace Go.Proofs.YtedebapgmfnflaaGreatDoor
open Go
set_option maxRecDepth 100000

theorem gs_u {A : VPost → Prop} {K : VPost} {w : World} {b : Bool} (h : K undef w) : gstep undef b w A K := h

section
variable {S : List Nat} {w0 w : World} {L R : List Res} {K : VPost} {F : List Nat} {D : DiskM}
theorem Sep.perm {L' : List Res} (s : Sep S w0 w L R) (h : L.Perm L') : Sep S w0 w L' R :=
  ⟨s.ext, fun T hT => s.own T (h.mem_iff.2 hT), s.rd, fun T hT => s.old T (h.mem_iff.2 hT), (List.Perm.pairwise_iff (fun hxy b hb hm => hxy b hm hb) h).1 s.dis, fun T hT => s.disR T (h.mem_iff.2 hT)⟩
theorem Sep.toFront (s : Sep S w0 w L R) (i : Nat) {T : Res} (h : L[i]? = some T) : Sep S w0 w (T :: L.eraseIdx i) R := by
  obtain ⟨hi, hT⟩ := List.getElem?_eq_some_iff.1 h
  refine s.perm ?_
  have e : L = L.take i ++ T :: L.drop (i + 1) := by rw [← hT, ← List.drop_eq_getElem_cons hi, List.take_append_drop]
  rw [List.eraseIdx_eq_take_drop_succ]
  refine (List.Perm.of_eq e).trans ?_
  exact List.perm_middle

theorem readA_is {b : Bytes} {f h : Nat} {B : AreaM} (hr : readA b f h = some B) : B.first = f ∧ B.size = h := by
  simp only [readA] at hr
  split at hr
  · cases hr
  · split at hr
    · cases hr
    · split at hr
      · cases hr
      · split at hr
        · obtain rfl := Option.some.inj hr
          exact ⟨rfl, rfl⟩
        · cases hr

theorem nil_neq_nilA {P : Program} {w : World} {K : VPost} {t : TypeId} {c : Bool} {e : TypeId} (hu : P.underlying t = some (.pointer e)) : binW P .neq t c (.pointer none) (.pointer none) w K = K (.bool false) w :=
  bin_nequal (fun _ => by cases c <;> rfl) rfl (equal_nil_nil hu)
theorem ptr_area : Tryz.prog.underlying 64 = some (.pointer 89) := by kernel_rfl

/-- An area that was read, in hand. -/
abbrev foundL (p : Nat) (B : AreaM) (a : Nat) (v : Value) (hs : List Value) : List Res := [rA a ⟨p, B.first, B.size, B.gen, B.next, v, true⟩ 89, rO v 36 1 hs B.recs.length]

set_option maxHeartbeats 2000000 in
theorem Sep.areaCurrent {p : Nat} (s : Sep S w0 w L R) (i : Nat) (hD : L[i]? = some (rDk p F D)) (h2n : 2 ≤ D.n) (hn : D.n ≤ 1000000)
    (hno : currentA D.seen (D.n / 2) = none → ∀ w', Sep S w0 w' L R → K (.pointer none) w')
    (hyes : ∀ B, currentA D.seen (D.n / 2) = some B → ∀ a v hs w', Sep S w0 w' (foundL p B a v hs ++ L) (rL hs B.recs :: R) → K (ptrA a) w') :
    fnW Tryz.prog 47 #[ptrA p] w K := by
  refine fnW_of (by kernel_rfl) (c47_calls _ w K ?_)
  unfold c47
  refine bindX_i fun J0 h0 => bindX_i fun J1 h1 => ?_
  refine s.halves hn (s.at i hD) (fun w' s => s.at i hD) fun a b w1 s => ?_
  generalize hh : D.n / 2 = h at *
  refine bindX_i fun J2 h2 => ?_
  refine loop_i (fun m fr wr => ∃ (i : Nat) (out : Value), m = 2 - i ∧ fr 3 = out ∧ fr 7 = .agg #[ptrA a, ptrA b] ∧ fr 8 = .int .i64 i ∧
    ((i = 0 ∧ out = .pointer none ∧ Sep S w0 wr (rA b (newA p h h) 89 :: rA a (newA p 0 h) 89 :: L) R) ∨
     (i = 1 ∧ out = .pointer none ∧ readA D.seen 0 h = none ∧ Sep S w0 wr (rA b (newA p h h) 89 :: L) R) ∨
     (i = 1 ∧ ∃ B v hs, out = ptrA a ∧ readA D.seen 0 h = some B ∧ Sep S w0 wr (rA b (newA p h h) 89 :: (foundL p B a v hs ++ L)) (rL hs B.recs :: R)) ∨
     (i = 2 ∧ out = .pointer none ∧ currentA D.seen h = none ∧ Sep S w0 wr L R) ∨
     (i = 2 ∧ ∃ B c v hs, out = ptrA c ∧ currentA D.seen h = some B ∧ Sep S w0 wr (foundL p B c v hs ++ L) (rL hs B.recs :: R)))) 2 ?_ ?_
  · exact ⟨0, _, rfl, rfl, rfl, rfl, .inl ⟨rfl, rfl, s⟩⟩
  · rintro m fr wr J ⟨k, out, rfl, f3, f7, f8, hst⟩ hJ hX
    rw [f8]
    have hend : ¬ k < 2 → ∀ x : Value, J2 (.exit 0) (pf 31 fr 9 x) wr := by
      intro hk x
      refine h2 _ _ _ (h1 _ _ _ ?_)
      show K (fr 3) _
      rw [f3]
      rcases hst with ⟨rfl, _⟩ | ⟨rfl, _⟩ | ⟨rfl, _⟩ | ⟨rfl, rfl, hc, s⟩ | ⟨rfl, B, c, v, hs, rfl, hc, s⟩
      · omega
      · omega
      · omega
      · exact hno hc wr s
      · exact hyes B hc c v hs wr s
    refine nlss (y := 2) (cond_d (fun hlt => ?_) (fun hlt => hX _ _ _ (by simp) (hend hlt _)))
    refine bindX_i fun J3 h3 => bindX_i fun J4 h4 => ?_
    have step : ∀ (fr' : Fr) (wr' : World) (out' : Value), fr' 3 = out' → fr' 7 = .agg #[ptrA a, ptrA b] → fr' 8 = .int .i64 k →
        ((k + 1 = 1 ∧ out' = .pointer none ∧ readA D.seen 0 h = none ∧ Sep S w0 wr' (rA b (newA p h h) 89 :: L) R) ∨
         (k + 1 = 1 ∧ ∃ B v hs, out' = ptrA a ∧ readA D.seen 0 h = some B ∧ Sep S w0 wr' (rA b (newA p h h) 89 :: (foundL p B a v hs ++ L)) (rL hs B.recs :: R)) ∨
         (k + 1 = 2 ∧ out' = .pointer none ∧ currentA D.seen h = none ∧ Sep S w0 wr' L R) ∨
         (k + 1 = 2 ∧ ∃ B c v hs, out' = ptrA c ∧ currentA D.seen h = some B ∧ Sep S w0 wr' (foundL p B c v hs ++ L) (rL hs B.recs :: R))) → J3 .normal fr' wr' := by
      intro fr' wr' out' g3 g7 g8 hst
      refine seq_n h3 ?_
      rw [g8]
      refine nadd (y := 1) (by omega) ?_
      exact hJ (2 - (k + 1)) _ _ (by omega) ⟨k + 1, out', rfl, g3, g7, rfl, .inr hst⟩
    rw [f3, f7]
    rcases hst with ⟨rfl, rfl, s⟩ | ⟨rfl, rfl, hr0, s⟩ | ⟨rfl, B, v, hs, rfl, hr0, s⟩ | ⟨rfl, _⟩ | ⟨rfl, _⟩
    · refine ixv1 (k := 0) (v := ptrA a) (by decide) rfl ?_
      have s := s.drew.swap
      refine s.areaRead (i + 1) (by simpa using hD) (by omega) (by omega) hn (fun hr w3 s => ?_) (fun B hr v hs w3 s => ?_)
      · refine gs_ft ?_
        refine gs_ft ?_
        refine ⟨rfl, ?_⟩
        refine gs_ft ?_
        iterate 9 refine gs_u ?_
        refine gs_ft ?_
        refine pick_fi ?_
        refine cndF ?_
        exact step _ w3 _ f3 f7 f8 (.inl ⟨rfl, rfl, hr, s⟩)
      · refine gs_t ?_
        refine gs_t ?_
        rw [nil_eql_nil ptr_area]
        refine ⟨rfl, ?_⟩
        refine gs_t ?_
        iterate 9 refine gs_tf ?_
        refine gs_t ?_
        refine pick_ti ?_
        refine pick_ti ?_
        refine cndT ?_
        obtain ⟨e1, e2⟩ := readA_is hr
        refine step _ w3 _ rfl f7 f8 (.inr (.inl ⟨rfl, B, v, hs, rfl, hr, ?_⟩))
        have s : Sep S w0 w3 (rA a ⟨p, 0, h, B.gen, B.next, v, true⟩ 89 :: rO v 36 1 hs B.recs.length :: rA b (newA p h h) 89 :: L) (rL hs B.recs :: R) := s
        show Sep S w0 w3 (rA b (newA p h h) 89 :: rA a ⟨p, B.first, B.size, B.gen, B.next, v, true⟩ 89 :: rO v 36 1 hs B.recs.length :: L) (rL hs B.recs :: R)
        rw [e1, e2]
        exact s.toFront 2 rfl
    · refine ixv1 (k := 1) (v := ptrA b) (by decide) rfl ?_
      have s := s.drew
      refine s.areaRead i hD (by omega) (by omega) hn (fun hr w3 s => ?_) (fun B hr v hs w3 s => ?_)
      · refine gs_ft ?_
        refine gs_ft ?_
        refine ⟨rfl, ?_⟩
        refine gs_ft ?_
        iterate 9 refine gs_u ?_
        refine gs_ft ?_
        refine pick_fi ?_
        refine cndF ?_
        refine step _ w3 _ f3 f7 f8 (.inr (.inr (.inl ⟨rfl, rfl, ?_, s⟩)))
        unfold currentA
        rw [hr0]
        exact hr
      · refine gs_t ?_
        refine gs_t ?_
        rw [nil_eql_nil ptr_area]
        refine ⟨rfl, ?_⟩
        refine gs_t ?_
        iterate 9 refine gs_tf ?_
        refine gs_t ?_
        refine pick_ti ?_
        refine pick_ti ?_
        refine cndT ?_
        obtain ⟨e1, e2⟩ := readA_is hr
        refine step _ w3 _ rfl f7 f8 (.inr (.inr (.inr ⟨rfl, B, b, v, hs, rfl, ?_, ?_⟩)))
        · unfold currentA
          rw [hr0]
          exact hr
        · have s : Sep S w0 w3 (rA b ⟨p, h, h, B.gen, B.next, v, true⟩ 89 :: rO v 36 1 hs B.recs.length :: L) (rL hs B.recs :: R) := s
          show Sep S w0 w3 (rA b ⟨p, B.first, B.size, B.gen, B.next, v, true⟩ 89 :: rO v 36 1 hs B.recs.length :: L) (rL hs B.recs :: R)
          rw [e1, e2]
          exact s
    · refine ixv1 (k := 1) (v := ptrA b) (by decide) rfl ?_
      have s := s.drew
      refine s.areaRead (i + 2) (by simpa using hD) (by omega) (by omega) hn (fun hr w3 s => ?_) (fun C hr v2 hs2 w3 s => ?_)
      · refine gs_ft ?_
        refine gs_ft ?_
        refine ⟨rfl, ?_⟩
        refine gs_ft ?_
        iterate 9 refine gs_u ?_
        refine gs_ft ?_
        refine pick_fi ?_
        refine cndF ?_
        refine step _ w3 _ f3 f7 f8 (.inr (.inr (.inr ⟨rfl, B, a, v, hs, rfl, ?_, s⟩)))
        unfold currentA
        rw [hr0, hr]
      · have s : Sep S w0 w3 (rA b ⟨p, h, h, C.gen, C.next, v2, true⟩ 89 :: rO v2 36 1 hs2 C.recs.length :: rA a ⟨p, B.first, B.size, B.gen, B.next, v, true⟩ 89 :: rO v 36 1 hs B.recs.length :: L) (rL hs2 C.recs :: rL hs B.recs :: R) := s
        refine gs_t ?_
        refine gs_t ?_
        rw [ptr_eql_nil ptr_area]
        refine ⟨rfl, ?_⟩
        refine gs_t ?_
        refine gs_f ?_
        refine gs_f ?_
        rw [nilW_e]
        refine gs_f (off_i ?_)
        refine gs_f (s.load1 0 rfl rfl ?_)
        refine gs_f ?_
        refine gs_f ?_
        rw [nilW_e]
        refine gs_f (off_i ?_)
        refine gs_f (s.load1 2 rfl rfl ?_)
        refine gs_f ?_
        rw [igeq]
        refine gs_t ?_
        refine pick_fi ?_
        refine pick_ti ?_
        refine cond_d (fun hge => ?_) (fun hge => ?_)
        · have hge : (B.gen : Int) ≤ C.gen := hge
          obtain ⟨e1, e2⟩ := readA_is hr
          refine step _ w3 _ rfl f7 f8 (.inr (.inr (.inr ⟨rfl, C, b, v2, hs2, rfl, ?_, ?_⟩)))
          · unfold currentA
            rw [hr0, hr]
            show (if B.gen ≤ C.gen then some C else some B) = _
            rw [if_pos (by omega)]
          · have s := (s.drop 2).drop 2
            have s : Sep S w0 w3 (rA b ⟨p, h, h, C.gen, C.next, v2, true⟩ 89 :: rO v2 36 1 hs2 C.recs.length :: L) (rL hs2 C.recs :: rL hs B.recs :: R) := s
            show Sep S w0 w3 (rA b ⟨p, C.first, C.size, C.gen, C.next, v2, true⟩ 89 :: rO v2 36 1 hs2 C.recs.length :: L) (rL hs2 C.recs :: R)
            rw [e1, e2]
            exact s.less (fun T hT => by
              rcases List.mem_cons.1 hT with rfl | hT
              · simp
              · simp [hT])
        · have hge : ¬ (B.gen : Int) ≤ C.gen := hge
          refine step _ w3 _ f3 f7 f8 (.inr (.inr (.inr ⟨rfl, B, a, v, hs, rfl, ?_, ?_⟩)))
          · unfold currentA
            rw [hr0, hr]
            show (if B.gen ≤ C.gen then some C else some B) = _
            rw [if_neg (by omega)]
          · have s := (s.drop 0).drop 0
            exact s.less (fun T hT => by simp [hT])
    · omega
    · omega

theorem Sep.areaOpen {p : Nat} (s : Sep S w0 w L R) (i : Nat) (hD : L[i]? = some (rDk p F D)) (h4 : 4 ≤ D.n) (hn : D.n ≤ 1000000)
    (hno : currentA D.seen (D.n / 2) = none → ∀ w', Sep S w0 w' L R → K (.tuple #[.pointer none, .int .i64 12]) w')
    (hyes : ∀ B, currentA D.seen (D.n / 2) = some B → ∀ a v hs w', Sep S w0 w' (foundL p B a v hs ++ L) (rL hs B.recs :: R) → K (.tuple #[ptrA a, .int .i64 0]) w') :
    fnW Tryz.prog 28 #[ptrA p] w K := by
  refine fnW_of (by kernel_rfl) (c28_calls _ w K ?_)
  unfold c28
  refine s.dsize i hD ?_
  refine nlss (y := 4) (cond_d (fun hlt => absurd hlt (by omega)) (fun _ => ?_))
  refine s.areaCurrent i hD (by omega) hn (fun hc w1 s => ?_) (fun B hc a v hs w1 s => ?_)
  · rw [nil_eql_nil ptr_area]
    exact cndT (hno hc w1 s)
  · rw [ptr_eql_nil ptr_area]
    exact cndF (hyes B hc a v hs w1 s)

/-- Where a new area is begun. -/
def firstB (D : DiskM) : Nat := match currentA D.seen (D.n / 2) with
  | some B => if B.first = 0 then D.n / 2 else 0
  | none => 0
set_option maxHeartbeats 1000000 in
theorem Sep.areaOther {p : Nat} (s : Sep S w0 w L R) (i : Nat) (hD : L[i]? = some (rDk p F D)) (h2n : 2 ≤ D.n) (hn : D.n ≤ 1000000)
    (h : ∀ c w', Sep S w0 w' (rA c (newA p (firstB D) (D.n / 2)) 89 :: L) R → K (ptrA c) w') : fnW Tryz.prog 48 #[ptrA p] w K := by
  refine fnW_of (by kernel_rfl) (c48_calls _ w K ?_)
  unfold c48
  refine s.halves hn (s.at i hD) (fun w' s => s.at i hD) fun a b w1 s => ?_
  refine s.alloc zero_both rfl fun q w2 s _ => ?_
  refine s.storeAll (vs := [ptrA a, ptrA b]) 0 rfl rfl rfl (by simp [Value.oneCell']) fun w3 s _ => ?_
  have s : Sep S w0 w3 (rB q [ptrA a, ptrA b] 98 :: rA b (newA p (D.n / 2) (D.n / 2)) 89 :: rA a (newA p 0 (D.n / 2)) 89 :: L) R := s
  refine s.areaCurrent (i + 3) (by simpa using hD) h2n hn (fun hc w4 s => ?_) (fun B hc c v hs w4 s => ?_)
  · rw [nil_neq_nilA ptr_area]
    iterate 5 refine gs_ft ?_
    refine pick_fi ?_
    refine cndF ?_
    refine idxA1 (i := 0) (by decide) ?_
    refine s.load1 0 rfl rfl ?_
    have e : firstB D = 0 := by unfold firstB; rw [hc]
    have := h a w4
    rw [e] at this
    exact this ((s.drop 0).drop 0)
  · have s : Sep S w0 w4 (rA c ⟨p, B.first, B.size, B.gen, B.next, v, true⟩ 89 :: rO v 36 1 hs B.recs.length :: rB q [ptrA a, ptrA b] 98 :: rA b (newA p (D.n / 2) (D.n / 2)) 89 :: rA a (newA p 0 (D.n / 2)) 89 :: L) (rL hs B.recs :: R) := s
    rw [ptr_neq_nil ptr_area]
    refine gs_t ?_
    refine gs_t ?_
    rw [nilW_e]
    refine gs_t (off_i ?_)
    refine gs_t (s.load1 0 rfl rfl ?_)
    refine gs_t ?_
    refine neql (y := 0) ?_
    refine pick_ti ?_
    have s := s.less (R' := R) (fun T hT => by simp [hT])
    refine cond_d (fun hz => ?_) (fun hz => ?_)
    · have hz : B.first = 0 := hz
      refine idxA1 (i := 1) (by decide) ?_
      refine s.load1 2 rfl rfl ?_
      have e : firstB D = D.n / 2 := by unfold firstB; rw [hc]; exact if_pos hz
      have := h b w4
      rw [e] at this
      exact this ((((s.drop 0).drop 0).drop 0).drop 1)
    · have hz : ¬ B.first = 0 := hz
      refine idxA1 (i := 0) (by decide) ?_
      refine s.load1 2 rfl rfl ?_
      have e : firstB D = 0 := by unfold firstB; rw [hc]; exact if_neg hz
      have := h a w4
      rw [e] at this
      exact this ((((s.drop 0).drop 0).drop 0).drop 0)
end
end Go.Proofs.YtedebapgmfnflaaGreatDoor

/- What an area is behind a crash: plain law. -/
namespace Go.Proofs.YtedebapgmfnflaaGreatDoor
open Go
set_option maxRecDepth 100000

theorem okS_sec {g n : Nat} {d : Bytes} (hd : d.length ≤ 46) (hg : g < 2 ^ 32) (hn : n < 2 ^ 32) : okS g n (secB g n d) = true := by
  unfold okS
  rw [sec_whole g n hd, sec_mark hd hg hn]
  simp
theorem rowsB_ok {g : Nat} (hg : g < 2 ^ 32) : ∀ (rs : List Bytes) (n j : Nat) (x : Bytes), n + (rowsB g n rs).length ≤ 2 ^ 32 → (rowsB g n rs)[j]? = some x → okS g (n + j) x = true
  | [], n, j, x, _, h => by simp [rowsB] at h
  | r :: rs, n, j, x, hn, h => by
    rw [rowsB] at h hn
    have hpl := packB_length g n r
    rw [List.length_append, hpl] at hn
    by_cases hj : j < needN r.length
    · rw [List.getElem?_append_left (by omega)] at h
      have hle := partB_le (sealB r) j
      have : x = secB g (n + j) (partB (sealB r) j) := by
        unfold packB at h
        rw [List.getElem?_map, List.getElem?_range hj] at h
        exact (Option.some.inj h).symm
      rw [this]
      exact okS_sec hle hg (by omega)
    · rw [List.getElem?_append_right (by omega), hpl] at h
      have := rowsB_ok hg rs (n + needN r.length) (j - needN r.length) x (by omega) h
      rwa [show n + needN r.length + (j - needN r.length) = n + j by omega] at this
theorem areaOf_ok {g base : Nat} {rs : List Bytes} (hg : g < 2 ^ 32) (hl : (areaOf g base rs).length ≤ 2 ^ 32) {j : Nat} {x : Bytes} (h : (areaOf g base rs)[j]? = some x) : okS g j x = true := by
  unfold areaOf areaX at h hl
  rw [List.length_cons] at hl
  match j with
  | 0 =>
    obtain rfl : headB g (posR rs base - 1) = x := by simpa using h
    exact okS_sec (headB_len _) hg (by decide)
  | j + 1 =>
    rw [List.getElem?_cons_succ] at h
    have := rowsB_ok hg rs 1 j x (by omega) h
    rwa [Nat.add_comm] at this

theorem Area.crashed {D : DiskM} {first size g H : Nat} {rs : List Bytes} {F W base : Nat} (a : Area D first size g H rs F W base) (hn : D.n ≤ 4096) (hfit : first + size ≤ D.n) (hlen : (areaOf g base rs).length ≤ 2 ^ 32) (picks : Bytes) :
    (∀ j, j < F → some (sec (D.crash picks).seen (first + j)) = (areaOf g base rs)[j]?) ∧
    ∀ j, j < size → okS g j (sec (D.crash picks).seen (first + j)) = true → (areaOf g base rs)[j]? = some (sec (D.crash picks).seen (first + j)) := by
  have hg1 := a.g1
  have hgH := a.gH
  have hH := a.H256
  have hFW := a.FW
  have hWs := a.Ws
  have ht := fun j => tears_sec picks D.pend 0 D.last a.dok.llen a.dok.plen j
  have hone : ∀ j, j < F → some (sec (D.crash picks).seen (first + j)) = (areaOf g base rs)[j]? := by
    intro j hj
    obtain ⟨h1, _, h3⟩ := a.lasts j hj
    rw [← h1]
    congr 1
    exact (ht (first + j)).1 h3
  refine ⟨hone, fun j hj hok => ?_⟩
  by_cases h1 : j < F
  · exact (hone j h1).symm
  by_cases h2 : j < W
  · obtain ⟨hlow, x, hx, _, hpd⟩ := a.mid j (by omega) h2
    have hT := (ht (first + j)).2 _ hpd
    have hxo := areaOf_ok (by omega) hlen hx
    have hxl : x.length = 64 := (a.dok.plen (first + j, x) (by
      have : (first + j, x) ∈ pendOn D.pend (first + j) := by rw [hpd]; simp
      unfold pendOn at this
      exact (List.mem_filter.1 this).1)).2
    have := okB_torn (H := g - 1) (sec_length a.dok.llen (by omega)) hxl hxo hlow (by omega) (by omega) hT hok
    rw [hx]
    congr 1
    exact this.symm
  · exfalso
    obtain ⟨hlow, _, hpd⟩ := a.free j (by omega) hj
    have he : sec (D.crash picks).seen (first + j) = sec D.last (first + j) := (ht (first + j)).1 hpd
    rw [he] at hok
    have := lowE_not (n := j) (sec_length a.dok.llen (by omega)) hlow (show g - 1 < g by omega) (by omega)
    rw [this] at hok
    cases hok
theorem Area.free_no {D : DiskM} {first size g H : Nat} {rs : List Bytes} {F W base : Nat} (a : Area D first size g H rs F W base) (hfit : first + size ≤ D.n) (picks : Bytes) {j : Nat} (h1 : W ≤ j) (h2 : j < size) : okS g j (sec (D.crash picks).seen (first + j)) = false := by
  have hg1 := a.g1
  have hgH := a.gH
  have hH := a.H256
  obtain ⟨hlow, _, hpd⟩ := a.free j h1 h2
  have he : sec (D.crash picks).seen (first + j) = sec D.last (first + j) := (tears_sec picks D.pend 0 D.last a.dok.llen a.dok.plen (first + j)).1 hpd
  rw [he]
  exact lowE_not (n := j) (sec_length a.dok.llen (by omega)) hlow (show g - 1 < g by omega) (by omega)

/-- What stands behind a crash: whole records, and maybe one that was not wholly written. -/
theorem Area.stands {D : DiskM} {first size g H : Nat} {recs extra : List Bytes} {F W base : Nat} (a : Area D first size g H (recs ++ extra) F W base) (hn : D.n ≤ 4096) (hfit : first + size ≤ D.n) (hlen : (areaOf g base (recs ++ extra)).length ≤ 2 ^ 32)
    (hR : posR recs recs.length ≤ W) (hx : extra = [] ∨ ∃ r, extra = [r] ∧ W < posR (recs ++ extra) (recs ++ extra).length) (hlast : W < posR (recs ++ extra) (recs ++ extra).length → W < size) (picks : Bytes) :
    Stands g (headB g (posR (recs ++ extra) base - 1)) recs extra (secsOf (D.crash picks).seen first size) F := by
  have hg1 := a.g1
  have hgH := a.gH
  have hH := a.H256
  have hFW := a.FW
  have hWs := a.Ws
  obtain ⟨c1, c2⟩ := a.crashed hn hfit hlen picks
  have hsl := secsOf_length (D.crash picks).seen first size
  have hget : ∀ j (h : j < (secsOf (D.crash picks).seen first size).length), (secsOf (D.crash picks).seen first size)[j] = sec (D.crash picks).seen (first + j) := by
    intro j h
    have := secsOf_get (D.crash picks).seen first size j
    rw [if_pos (by omega), List.getElem?_eq_getElem h] at this
    exact Option.some.inj this
  have hl2 : (D.crash picks).seen.length = 64 * D.n := tears_length D.pend 0 D.last a.dok.llen a.dok.plen
  refine ⟨hg1, by omega, ?_, ?_, ?_, ?_, by omega, a.short, by omega⟩
  · intro b hb
    unfold secsOf at hb
    obtain ⟨n, hn1, rfl⟩ := List.mem_map.1 hb
    rw [List.mem_range] at hn1
    exact sec_length hl2 (by omega)
  · intro j h hok
    rw [hget j h] at hok ⊢
    exact c2 j (by omega) hok
  · intro j hj
    rw [secsOf_get, if_pos (by omega)]
    exact c1 j hj
  · rcases hx with h | ⟨r, h, hW⟩
    · exact .inl h
    · refine .inr ⟨r, h, W, hR, hW, fun hlt => ?_⟩
      rw [hget W hlt]
      exact a.free_no hfit picks (Nat.le_refl _) (by omega)
end Go.Proofs.YtedebapgmfnflaaGreatDoor

/- What Open finds behind a crash: plain law. -/
namespace Go.Proofs.YtedebapgmfnflaaGreatDoor
open Go
set_option maxRecDepth 100000

/-- Behind a crash the area counts; it has at least the records of which all sectors were flushed, and none that was not wholly written. -/
theorem Area.opens {D : DiskM} {first size g H : Nat} {recs extra : List Bytes} {F W base m0 : Nat} (a : Area D first size g H (recs ++ extra) F W base) (hn : D.n ≤ 4096)
    (hR : posR recs recs.length ≤ W) (hx : extra = [] ∨ ∃ r, extra = [r] ∧ W < posR (recs ++ extra) (recs ++ extra).length) (hlast : W < posR (recs ++ extra) (recs ++ extra).length → W < size)
    (hlen : (areaOf g base (recs ++ extra)).length ≤ 2 ^ 32) (hb : base ≤ m0) (hm0 : m0 ≤ recs.length) (hF : posR recs m0 ≤ F) (picks : Bytes) :
    ∃ m, m0 ≤ m ∧ m ≤ recs.length ∧ currentA (D.crash picks).seen (D.n / 2) = some ⟨first, size, g, posR recs m, recs.take m, true⟩ := by
  have hg1 := a.g1
  have hgH := a.gH
  have hH := a.H256
  have hWs := a.Ws
  have htwo := a.two
  have hhalf := a.half
  have hends := a.ends
  have hfit : first + size ≤ D.n := by omega
  have s := a.stands hn hfit hlen hR hx hlast picks
  have hpb : posR (recs ++ extra) base = posR recs base := posR_app _ _ (by omega)
  rw [hpb] at s
  have hp1 : 1 ≤ posR recs base := by unfold posR; omega
  have hpm := posR_mono recs (show base ≤ recs.length by omega)
  obtain ⟨m, q1, q2, q3⟩ := readA_ok s (by omega) hm0 hF hb (by omega) (by omega)
  refine ⟨m, q1, q2, ?_⟩
  have hl2 : (D.crash picks).seen.length = 64 * D.n := tears_length D.pend 0 D.last a.dok.llen a.dok.plen
  rw [← hhalf]
  refine currentA_ok (n := D.n) hl2 (by omega) (by omega) hends q3 ?_ hg1 (by show g < _; omega)
  obtain ⟨o1, o2, o3⟩ := a.other
  have he : sec (D.crash picks).seen (size - first) = sec D.last (size - first) := (tears_sec picks D.pend 0 D.last a.dok.llen a.dok.plen (size - first)).1 o3
  rw [he]
  exact o1
end Go.Proofs.YtedebapgmfnflaaGreatDoor

/- An area behind a Flush, behind a sector more: plain laws. -/
namespace Go.Proofs.YtedebapgmfnflaaGreatDoor
open Go
set_option maxRecDepth 100000

theorem Area.flushed {D : DiskM} {first size g H : Nat} {rs : List Bytes} {F W base : Nat} (a : Area D first size g H rs F W base) : Area D.flush first size g H rs W W base := by
  have hFW := a.FW
  refine { dok := ?_, two := a.two, half := a.half, ends := a.ends, g1 := a.g1, gH := a.gH, H256 := a.H256, low := ?_, lowp := ?_, short := a.short, b1 := a.b1, bF := Nat.le_trans a.bF hFW, FW := Nat.le_refl _, WX := a.WX, Ws := a.Ws, lasts := ?_, mid := ?_, free := ?_, other := ?_ }
  · exact { llen := a.dok.slen, slen := a.dok.slen, plen := fun x hx => (by cases hx), n1 := a.dok.n1, n2 := a.dok.n2, l1 := a.dok.l1, l2 := a.dok.l2 }
  · exact fun j hj => ⟨(a.low j hj).2, (a.low j hj).2⟩
  · exact fun x hx => by cases hx
  · intro j hj
    by_cases h : j < F
    · obtain ⟨h1, h2, h3⟩ := a.lasts j h
      exact ⟨h2, h2, rfl⟩
    · obtain ⟨h1, x, hx, hs, _⟩ := a.mid j (by omega) hj
      have e : some (sec D.seen (first + j)) = (areaOf g base rs)[j]? := by rw [hs, hx]
      exact ⟨e, e, rfl⟩
  · exact fun j h1 h2 => absurd h2 (by omega)
  · intro j h1 h2
    obtain ⟨_, q2, _⟩ := a.free j h1 h2
    exact ⟨q2, q2, rfl⟩
  · obtain ⟨o1, o2, o3⟩ := a.other
    refine ⟨?_, rfl, rfl⟩
    show lowE (g - 1) (sec D.seen (size - first))
    rw [o2]
    exact o1

theorem areaOf_app {g base : Nat} {rs : List Bytes} (r : Bytes) (hb : base ≤ rs.length) : areaOf g base (rs ++ [r]) = areaOf g base rs ++ packB g (areaOf g base rs).length r := by
  unfold areaOf
  rw [posR_app rs [r] hb]
  unfold areaX
  rw [rowsB_snoc, List.length_cons, List.cons_append, Nat.add_comm 1]

/-- A record more, of which nothing is written. -/
theorem Area.more {D : DiskM} {first size g H : Nat} {rs : List Bytes} {F W base : Nat} (a : Area D first size g H rs F W base) {r : Bytes} (hr : r.length ≤ 2000) : Area D first size g H (rs ++ [r]) F W base := by
  have hb := a.b1
  have hWX := a.WX
  have hFW := a.FW
  have happ := areaOf_app (g := g) r hb
  have hget : ∀ j, j < W → (areaOf g base (rs ++ [r]))[j]? = (areaOf g base rs)[j]? := fun j hj => by
    rw [happ, List.getElem?_append_left (by omega)]
  refine { dok := a.dok, two := a.two, half := a.half, ends := a.ends, g1 := a.g1, gH := a.gH, H256 := a.H256, low := a.low, lowp := a.lowp, short := ?_, b1 := (by rw [List.length_append]; omega), bF := (by rw [posR_app rs [r] hb]; exact a.bF), FW := a.FW, WX := (by rw [happ, List.length_append]; omega), Ws := a.Ws, lasts := ?_, mid := ?_, free := a.free, other := a.other }
  · intro x hx
    rw [List.mem_append, List.mem_singleton] at hx
    rcases hx with hx | rfl
    · exact a.short x hx
    · exact hr
  · intro j hj
    rw [hget j (by omega)]
    exact a.lasts j hj
  · intro j h1 h2
    rw [hget j h2]
    exact a.mid j h1 h2
end Go.Proofs.YtedebapgmfnflaaGreatDoor

/- An area behind a sector written: plain law. -/
namespace Go.Proofs.YtedebapgmfnflaaGreatDoor
open Go
set_option maxRecDepth 100000

theorem rowsB_is (g : Nat) : ∀ (rs : List Bytes) (n j : Nat) (x : Bytes), (rowsB g n rs)[j]? = some x → ∃ d, d.length ≤ 46 ∧ x = secB g (n + j) d
  | [], n, j, x, h => by simp [rowsB] at h
  | r :: rs, n, j, x, h => by
    rw [rowsB] at h
    have hpl := packB_length g n r
    by_cases hj : j < needN r.length
    · rw [List.getElem?_append_left (by omega)] at h
      refine ⟨partB (sealB r) j, partB_le _ _, ?_⟩
      unfold packB at h
      rw [List.getElem?_map, List.getElem?_range hj] at h
      exact (Option.some.inj h).symm
    · rw [List.getElem?_append_right (by omega), hpl] at h
      obtain ⟨d, h1, h2⟩ := rowsB_is g rs (n + needN r.length) (j - needN r.length) x h
      exact ⟨d, h1, by rw [h2]; congr 1; omega⟩
theorem areaOf_is {g base : Nat} {rs : List Bytes} {j : Nat} {x : Bytes} (h : (areaOf g base rs)[j]? = some x) : ∃ d, d.length ≤ 46 ∧ x = secB g j d := by
  unfold areaOf areaX at h
  match j with
  | 0 =>
    obtain rfl : headB g (posR rs base - 1) = x := by simpa using h
    exact ⟨_, headB_len _, rfl⟩
  | j + 1 =>
    rw [List.getElem?_cons_succ] at h
    obtain ⟨d, h1, h2⟩ := rowsB_is g rs 1 j x h
    exact ⟨d, h1, by rw [h2, Nat.add_comm]⟩
theorem pendOn_snoc (ps : List (Nat × Bytes)) (q : Nat) (x : Bytes) (j : Nat) : pendOn (ps ++ [(q, x)]) j = pendOn ps j ++ if q = j then [(q, x)] else [] := by
  unfold pendOn
  rw [List.filter_append]
  congr 1
  by_cases h : q = j
  · rw [if_pos h, List.filter_cons_of_pos (by simpa using h)]; rfl
  · rw [if_neg h, List.filter_cons_of_neg (by simpa using h)]; rfl

theorem Area.refused {D : DiskM} (q : Nat) (x : Bytes) (h : ¬ (q < D.n) ∨ D.left = 0) : (D.write (q : Int) x).1 = D ∧ (D.write (q : Int) x).2 ≠ 0 := by
  unfold DiskM.write
  by_cases h1 : q < D.n
  · rw [if_neg (by omega)]
    rw [if_pos (by omega)]
    exact ⟨rfl, by show (15 : Int) ≠ 0; decide⟩
  · rw [if_pos (by omega)]
    exact ⟨rfl, by show (11 : Int) ≠ 0; decide⟩

theorem Area.wrote {D : DiskM} {first size g H : Nat} {rs : List Bytes} {F W base : Nat} (a : Area D first size g H rs F W base) (hfit : first + size ≤ D.n) {x : Bytes} (hx : (areaOf g base rs)[W]? = some x) (hW : W < size) (hleft : D.left ≠ 0) :
    Area (D.write ((first + W : Nat) : Int) x).1 first size g H rs F (W + 1) base ∧ (D.write ((first + W : Nat) : Int) x).2 = 0 := by
  obtain ⟨d, hd, hxd⟩ := areaOf_is hx
  have hxl : x.length = 64 := by rw [hxd]; exact secB_length g W hd
  have hgH := a.gH
  have hFW := a.FW
  have hends := a.ends
  have hlow : lowE H x := by rw [hxd]; exact lowE_mono hgH (lowE_sec hd)
  have hXl := (List.getElem?_eq_some_iff.1 hx).1
  have hwr : D.write ((first + W : Nat) : Int) x = ({ D with seen := bspl D.seen (64 * (first + W)) x, pend := D.pend ++ [(first + W, x)], left := if 0 < D.left then D.left - 1 else D.left }, 0) := by
    unfold DiskM.write
    rw [if_neg (by omega), if_neg hleft, Int.toNat_natCast]
  rw [hwr]
  refine ⟨?_, rfl⟩
  have hsec := fun j => sec_put a.dok.slen (show first + W < D.n by omega) hxl j
  have hl1 := a.dok.l1
  have hl2 := a.dok.l2
  refine { dok := ?_, two := a.two, half := a.half, ends := a.ends, g1 := a.g1, gH := a.gH, H256 := a.H256, low := ?_, lowp := ?_, short := a.short, b1 := a.b1, bF := a.bF, FW := Nat.le_succ_of_le a.FW, WX := hXl, Ws := hW, lasts := ?_, mid := ?_, free := ?_, other := ?_ }
  · refine { llen := a.dok.llen, slen := ?_, plen := ?_, n1 := a.dok.n1, n2 := a.dok.n2, l1 := ?_, l2 := ?_ }
    · show (bspl D.seen (64 * (first + W)) x).length = _
      have := a.dok.slen
      rw [bspl_length (by omega)]
      exact this
    · intro y hy
      rcases List.mem_append.1 hy with hy | hy
      · exact a.dok.plen y hy
      · rw [List.mem_singleton] at hy
        subst hy
        exact ⟨by show first + W < D.n; omega, hxl⟩
    · show -1 ≤ if 0 < D.left then D.left - 1 else D.left
      split <;> omega
    · show (if 0 < D.left then D.left - 1 else D.left) ≤ _
      split <;> omega
  · intro j hj
    refine ⟨(a.low j hj).1, ?_⟩
    show lowE H (sec (bspl D.seen (64 * (first + W)) x) j)
    rw [hsec]
    split
    · exact hlow
    · exact (a.low j hj).2
  · intro y hy
    rcases List.mem_append.1 hy with hy | hy
    · exact a.lowp y hy
    · rw [List.mem_singleton] at hy
      subst hy
      exact hlow
  · intro j hj
    obtain ⟨h1, h2, h3⟩ := a.lasts j hj
    refine ⟨h1, ?_, ?_⟩
    · show some (sec (bspl D.seen (64 * (first + W)) x) (first + j)) = _
      rw [hsec, if_neg (by omega)]
      exact h2
    · show pendOn (D.pend ++ [(first + W, x)]) (first + j) = []
      rw [pendOn_snoc, if_neg (by omega), h3]; rfl
  · intro j h1 h2
    by_cases e : j = W
    · subst e
      obtain ⟨f1, f2, f3⟩ := a.free j (Nat.le_refl _) hW
      refine ⟨f1, x, hx, ?_, ?_⟩
      · show sec (bspl D.seen (64 * (first + j)) x) (first + j) = x
        rw [hsec, if_pos rfl]
      · show pendOn (D.pend ++ [(first + j, x)]) (first + j) = _
        rw [pendOn_snoc, if_pos rfl, f3]; rfl
    · obtain ⟨m1, y, m2, m3, m4⟩ := a.mid j h1 (by omega)
      refine ⟨m1, y, m2, ?_, ?_⟩
      · show sec (bspl D.seen (64 * (first + W)) x) (first + j) = y
        rw [hsec, if_neg (by omega)]
        exact m3
      · show pendOn (D.pend ++ [(first + W, x)]) (first + j) = _
        rw [pendOn_snoc, if_neg (by omega), m4]; rfl
  · intro j h1 h2
    obtain ⟨f1, f2, f3⟩ := a.free j (by omega) h2
    refine ⟨f1, ?_, ?_⟩
    · show lowE (g - 1) (sec (bspl D.seen (64 * (first + W)) x) (first + j))
      rw [hsec, if_neg (by omega)]
      exact f2
    · show pendOn (D.pend ++ [(first + W, x)]) (first + j) = []
      rw [pendOn_snoc, if_neg (by omega), f3]; rfl
  · obtain ⟨o1, o2, o3⟩ := a.other
    refine ⟨o1, ?_, ?_⟩
    · show sec (bspl D.seen (64 * (first + W)) x) (size - first) = sec D.last (size - first)
      rw [hsec, if_neg (by omega)]
      exact o2
    · show pendOn (D.pend ++ [(first + W, x)]) (size - first) = []
      rw [pendOn_snoc, if_neg (by omega), o3]; rfl
end Go.Proofs.YtedebapgmfnflaaGreatDoor

/- An area behind a record laid: plain law. -/
namespace Go.Proofs.YtedebapgmfnflaaGreatDoor
open Go
set_option maxRecDepth 100000

theorem Area.laid {D : DiskM} {first size g H : Nat} {rs : List Bytes} {F W base : Nat} (a : Area D first size g H rs F W base) (hfit : first + size ≤ D.n) (ls : List Bytes) (hls : ∀ i (h : i < ls.length), (areaOf g base rs)[W + i]? = some ls[i]) (hWl : W + ls.length ≤ size) :
    ∀ n, n ≤ ls.length → (layD D (first + W) (ls.take n)).1.n = D.n ∧ ∃ k, k ≤ n ∧ Area (layD D (first + W) (ls.take n)).1 first size g H rs F (W + k) base ∧ ((layD D (first + W) (ls.take n)).2 = true → k = n) ∧ ((layD D (first + W) (ls.take n)).2 = false → k < n)
  | 0, _ => ⟨rfl, 0, Nat.le_refl _, a, fun _ => rfl, fun h => by cases h⟩
  | n + 1, hn => by
    obtain ⟨hDn, k, h1, h2, h3, h4⟩ := Area.laid a hfit ls hls hWl n (by omega)
    have hsn := layD_snoc D (first + W) (ls.take n) ls[n]
    rw [← List.take_succ_eq_append_getElem (show n < ls.length by omega)] at hsn
    have hlen : (ls.take n).length = n := by rw [List.length_take]; omega
    rw [hlen] at hsn
    rw [hsn]
    cases hok : (layD D (first + W) (ls.take n)).2 with
    | false =>
      rw [if_neg (by decide)]
      have := h4 hok
      exact ⟨hDn, k, by omega, h2, fun h => by (rw [hok] at h; cases h), fun _ => by omega⟩
    | true =>
      rw [if_pos rfl]
      have hk := h3 hok
      subst hk
      rw [show first + W + k = first + (W + k) by omega]
      have hD := hDn
      generalize (layD D (first + W) (ls.take k)).1 = D' at *
      by_cases hl : D'.left = 0
      · obtain ⟨r1, r2⟩ := Area.refused (D := D') (first + (W + k)) ls[k] (.inr hl)
        rw [r1]
        exact ⟨hDn, k, by omega, h2, fun h => absurd (of_decide_eq_true h) r2, fun _ => by omega⟩
      · obtain ⟨w1, w2⟩ := h2.wrote (by omega) (hls k (by omega)) (by omega) hl
        refine ⟨?_, k + 1, Nat.le_refl _, w1, fun _ => rfl, fun h => absurd w2 (of_decide_eq_false h)⟩
        unfold DiskM.write
        split
        · exact hDn
        · split
          · exact hDn
          · exact hDn
end Go.Proofs.YtedebapgmfnflaaGreatDoor

/- The highest generation that is told: plain law. -/
namespace Go.Proofs.YtedebapgmfnflaaGreatDoor
open Go
set_option maxRecDepth 100000

theorem highB_bound {H : Nat} (hH : H < 256) : ∀ (n : Nat) (ls : List Bytes), ls.length = n → (∀ b ∈ ls, lowE H b) → highB ls ≤ H
  | 0, ls, hn, h => by
    obtain rfl : ls = [] := List.length_eq_zero_iff.1 hn
    exact Nat.zero_le _
  | n + 1, ls, hn, h => by
    rcases List.eq_nil_or_concat ls with rfl | ⟨l, b, rfl⟩
    · exact Nat.zero_le _
    rw [List.concat_eq_append] at h hn ⊢
    have ih := highB_bound hH n l (by simpa using hn) fun x hx => h x (by simp [hx])
    obtain ⟨⟨g, h1, h2⟩, g', h3, h4⟩ := h b (by simp)
    rw [high_snoc, h2, h4, beN_beP, beN_beP, Nat.mod_eq_of_lt (by omega), Nat.mod_eq_of_lt (by omega)]
    omega
theorem highB_mem : ∀ (n : Nat) (ls : List Bytes), ls.length = n → ∀ b ∈ ls, b.length = 64 → lowE (highB ls) b
  | 0, ls, hn, b, hb, _ => by
    obtain rfl : ls = [] := List.length_eq_zero_iff.1 hn
    cases hb
  | n + 1, ls, hn, b, hb, h64 => by
    rcases List.eq_nil_or_concat ls with rfl | ⟨l, c, rfl⟩
    · cases hb
    rw [List.concat_eq_append] at hb hn ⊢
    rw [high_snoc]
    rcases List.mem_append.1 hb with hb | hb
    · exact lowE_mono (by omega) (highB_mem n l (by simpa using hn) b hb h64)
    · rw [List.mem_singleton] at hb
      subst hb
      refine ⟨⟨beN (b.take 4), by omega, (beP_beN (by rw [List.length_take]; omega)).symm⟩, beN ((b.drop 56).take 4), by omega, (beP_beN (by rw [List.length_take, List.length_drop]; omega)).symm⟩
end Go.Proofs.YtedebapgmfnflaaGreatDoor

/- Writes beside an area; an area begun: plain laws. -/
namespace Go.Proofs.YtedebapgmfnflaaGreatDoor
open Go
set_option maxRecDepth 100000

theorem layD_appN (D : DiskM) (q : Nat) (xs ys : List Bytes) : ∀ n, n ≤ ys.length → layD D q (xs ++ ys.take n) = if (layD D q xs).2 then layD (layD D q xs).1 (q + xs.length) (ys.take n) else layD D q xs
  | 0, _ => by
    rw [List.take_zero, List.append_nil]
    cases h : (layD D q xs).2 with
    | false => rfl
    | true =>
      rw [if_pos rfl]
      show layD D q xs = (((layD D q xs).1, true) : DiskM × Bool)
      rw [← h]
  | n + 1, hn => by
    have ih := layD_appN D q xs ys n (by omega)
    rw [List.take_succ_eq_append_getElem (show n < ys.length by omega), ← List.append_assoc, layD_snoc, ih]
    cases h : (layD D q xs).2 with
    | false =>
      simp only [Bool.false_eq_true, if_false, h]
    | true =>
      simp only [if_true]
      rw [layD_snoc, List.length_append, Nat.add_assoc]
theorem layD_app (D : DiskM) (q : Nat) (xs ys : List Bytes) : layD D q (xs ++ ys) = if (layD D q xs).2 then layD (layD D q xs).1 (q + xs.length) ys else layD D q xs := by
  have := layD_appN D q xs ys ys.length (Nat.le_refl _)
  rwa [List.take_length] at this

theorem write_n (D : DiskM) (q : Int) (x : Bytes) : (D.write q x).1.n = D.n := by
  unfold DiskM.write
  split
  · rfl
  · split <;> rfl
theorem layD_n (D : DiskM) (q : Nat) (ls : List Bytes) : ∀ n, n ≤ ls.length → (layD D q (ls.take n)).1.n = D.n
  | 0, _ => rfl
  | n + 1, hn => by
    have ih := layD_n D q ls n (by omega)
    rw [List.take_succ_eq_append_getElem (show n < ls.length by omega), layD_snoc]
    split
    · exact (write_n _ _ _).trans ih
    · exact ih
theorem layD_pend (D : DiskM) (q : Nat) (ls : List Bytes) : ∀ n, n ≤ ls.length → (layD D q (ls.take n)).1.pend.length ≤ D.pend.length + n
  | 0, _ => Nat.le_refl _
  | n + 1, hn => by
    have ih := layD_pend D q ls n (by omega)
    rw [List.take_succ_eq_append_getElem (show n < ls.length by omega), layD_snoc]
    split
    · exact Nat.le_trans (write_pend _ _ _) (by omega)
    · omega
theorem layD_pendA (D : DiskM) (q : Nat) (ls : List Bytes) : (layD D q ls).1.pend.length ≤ D.pend.length + ls.length := by
  have := layD_pend D q ls ls.length (Nat.le_refl _)
  rwa [List.take_length] at this
/-- Where there is no limit, all is laid. -/
theorem layD_all (D : DiskM) (q : Nat) (ls : List Bytes) (hl : D.left < 0) (hq : q + ls.length ≤ D.n) : ∀ n, n ≤ ls.length → (layD D q (ls.take n)).2 = true ∧ (layD D q (ls.take n)).1.left = D.left
  | 0, _ => ⟨rfl, rfl⟩
  | n + 1, hn => by
    obtain ⟨h1, h2⟩ := layD_all D q ls hl hq n (by omega)
    have h3 := layD_n D q ls n (by omega)
    have hlen : (ls.take n).length = n := by rw [List.length_take]; omega
    rw [List.take_succ_eq_append_getElem (show n < ls.length by omega), layD_snoc, if_pos h1, hlen]
    unfold DiskM.write
    rw [if_neg (by omega), if_neg (by omega)]
    refine ⟨rfl, ?_⟩
    show (if 0 < (layD D q (ls.take n)).1.left then _ else (layD D q (ls.take n)).1.left) = _
    rw [if_neg (by omega), h2]

theorem Area.high {D : DiskM} {first size g H H' : Nat} {rs : List Bytes} {F W base : Nat} (a : Area D first size g H rs F W base) (h : H ≤ H') (h2 : H' < 256) : Area D first size g H' rs F W base :=
  { a with gH := Nat.le_trans a.gH h, H256 := h2, low := fun j hj => ⟨lowE_mono h (a.low j hj).1, lowE_mono h (a.low j hj).2⟩, lowp := fun x hx => lowE_mono h (a.lowp x hx) }

theorem write_is {D : DiskM} {q : Nat} {x : Bytes} (h : q < D.n) (hl : D.left ≠ 0) : D.write (q : Int) x = ({ D with seen := bspl D.seen (64 * q) x, pend := D.pend ++ [(q, x)], left := if 0 < D.left then D.left - 1 else D.left }, 0) := by
  unfold DiskM.write
  rw [if_neg (by omega), if_neg hl, Int.toNat_natCast]
theorem write_ok {D : DiskM} (ok : D.ok) {q : Nat} {x : Bytes} (h : q < D.n) (hx : x.length = 64) : (D.write (q : Int) x).1.ok := by
  by_cases hl : D.left = 0
  · rw [(Area.refused q x (.inr hl)).1]; exact ok
  rw [write_is h hl]
  have hl1 := ok.l1
  have hl2 := ok.l2
  refine { llen := ok.llen, slen := ?_, plen := ?_, n1 := ok.n1, n2 := ok.n2, l1 := ?_, l2 := ?_ }
  · show (bspl D.seen (64 * q) x).length = _
    have := ok.slen
    rw [bspl_length (by omega)]
    exact this
  · intro y hy
    rcases List.mem_append.1 hy with hy | hy
    · exact ok.plen y hy
    · rw [List.mem_singleton] at hy
      subst hy
      exact ⟨h, hx⟩
  · show -1 ≤ if 0 < D.left then D.left - 1 else D.left
    split <;> omega
  · show (if 0 < D.left then D.left - 1 else D.left) ≤ _
    split <;> omega

/-- A sector written beside an area. -/
theorem Area.aside {D : DiskM} {first size g H : Nat} {rs : List Bytes} {F W base : Nat} (a : Area D first size g H rs F W base) {q : Nat} {x : Bytes} (hx : x.length = 64) (hlow : lowE H x) (hq : q < first ∨ first + size ≤ q) (hq2 : q ≠ size - first) :
    Area (D.write (q : Int) x).1 first size g H rs F W base := by
  by_cases h' : ¬ q < D.n
  · rw [(Area.refused q x (.inl h')).1]; exact a
  have h : q < D.n := by omega
  by_cases hleft : D.left = 0
  · rw [(Area.refused q x (.inr hleft)).1]; exact a
  have hok := write_ok a.dok h hx
  have hwr := write_is (x := x) h hleft
  rw [hwr] at hok ⊢
  have hFW := a.FW
  have hWs := a.Ws
  have hsec := fun j => sec_put a.dok.slen h hx j
  refine { dok := hok, two := a.two, half := a.half, ends := a.ends, g1 := a.g1, gH := a.gH, H256 := a.H256, low := ?_, lowp := ?_, short := a.short, b1 := a.b1, bF := a.bF, FW := a.FW, WX := a.WX, Ws := a.Ws, lasts := ?_, mid := ?_, free := ?_, other := ?_ }
  · intro j hj
    refine ⟨(a.low j hj).1, ?_⟩
    show lowE H (sec (bspl D.seen (64 * q) x) j)
    rw [hsec]
    split
    · exact hlow
    · exact (a.low j hj).2
  · intro y hy
    rcases List.mem_append.1 hy with hy | hy
    · exact a.lowp y hy
    · rw [List.mem_singleton] at hy
      subst hy
      exact hlow
  · intro j hj
    obtain ⟨h1, h2, h3⟩ := a.lasts j hj
    refine ⟨h1, ?_, ?_⟩
    · show some (sec (bspl D.seen (64 * q) x) (first + j)) = _
      rw [hsec, if_neg (by omega)]
      exact h2
    · show pendOn (D.pend ++ [(q, x)]) (first + j) = []
      rw [pendOn_snoc, if_neg (by omega), h3]; rfl
  · intro j h1 h2
    obtain ⟨m1, y, m2, m3, m4⟩ := a.mid j h1 (by omega)
    refine ⟨m1, y, m2, ?_, ?_⟩
    · show sec (bspl D.seen (64 * q) x) (first + j) = y
      rw [hsec, if_neg (by omega)]
      exact m3
    · show pendOn (D.pend ++ [(q, x)]) (first + j) = _
      rw [pendOn_snoc, if_neg (by omega), m4]; rfl
  · intro j h1 h2
    obtain ⟨f1, f2, f3⟩ := a.free j (by omega) h2
    refine ⟨f1, ?_, ?_⟩
    · show lowE (g - 1) (sec (bspl D.seen (64 * q) x) (first + j))
      rw [hsec, if_neg (by omega)]
      exact f2
    · show pendOn (D.pend ++ [(q, x)]) (first + j) = []
      rw [pendOn_snoc, if_neg (by omega), f3]; rfl
  · obtain ⟨o1, o2, o3⟩ := a.other
    refine ⟨o1, ?_, ?_⟩
    · show sec (bspl D.seen (64 * q) x) (size - first) = sec D.last (size - first)
      rw [hsec, if_neg (by omega)]
      exact o2
    · show pendOn (D.pend ++ [(q, x)]) (size - first) = []
      rw [pendOn_snoc, if_neg (by omega), o3]; rfl
theorem Area.asideL {D : DiskM} {first size g H : Nat} {rs : List Bytes} {F W base : Nat} (a : Area D first size g H rs F W base) {q : Nat} (ls : List Bytes) (hls : ∀ x ∈ ls, x.length = 64 ∧ lowE H x) (hq : ∀ j, j < ls.length → (q + j < first ∨ first + size ≤ q + j) ∧ q + j ≠ size - first) :
    ∀ n, n ≤ ls.length → Area (layD D q (ls.take n)).1 first size g H rs F W base
  | 0, _ => a
  | n + 1, hn => by
    have ih := Area.asideL a ls hls hq n (by omega)
    have hlen : (ls.take n).length = n := by rw [List.length_take]; omega
    rw [List.take_succ_eq_append_getElem (show n < ls.length by omega), layD_snoc, hlen]
    split
    · obtain ⟨h1, h2⟩ := hls ls[n] (List.getElem_mem _)
      obtain ⟨h3, h4⟩ := hq n (by omega)
      exact ih.aside h1 h2 h3 h4
    · exact ih

/-- A disk on which so many sectors were written, from a place on. -/
structure Wrote (D0 D : DiskM) (H q : Nat) (xs : List Bytes) (k : Nat) : Prop where
  ok : D.ok
  n : D.n = D0.n
  low : ∀ j, j < D.n → lowE H (sec D.last j) ∧ lowE H (sec D.seen j)
  lowp : ∀ x ∈ D.pend, lowE H x.2
  new : ∀ j, j < k → some (sec D.seen (q + j)) = xs[j]?
  old : ∀ j, j < D.n → j < q ∨ q + k ≤ j → sec D.seen j = sec D0.seen j
theorem Wrote.lay {D : DiskM} {H q : Nat} {xs : List Bytes} (ok : D.ok) (low : ∀ j, j < D.n → lowE H (sec D.last j) ∧ lowE H (sec D.seen j)) (lowp : ∀ x ∈ D.pend, lowE H x.2) (hxs : ∀ x ∈ xs, x.length = 64 ∧ lowE H x) (hq : q + xs.length ≤ D.n) :
    ∀ n, n ≤ xs.length → (layD D q (xs.take n)).2 = true → Wrote D (layD D q (xs.take n)).1 H q xs n
  | 0, _, _ => ⟨ok, rfl, low, lowp, fun j hj => absurd hj (by omega), fun j _ _ => rfl⟩
  | n + 1, hn, h => by
    have hlen : (xs.take n).length = n := by rw [List.length_take]; omega
    have hsn := layD_snoc D q (xs.take n) (xs[n])
    rw [hlen, ← List.take_succ_eq_append_getElem (show n < xs.length by omega)] at hsn
    cases hok : (layD D q (xs.take n)).2 with
    | false =>
      rw [hsn, hok, if_neg (by decide)] at h
      rw [hok] at h
      cases h
    | true =>
      have ih := Wrote.lay ok low lowp hxs hq n (by omega) hok
      rw [hok, if_pos rfl] at hsn
      rw [hsn] at h ⊢
      generalize (layD D q (xs.take n)).1 = D' at *
      obtain ⟨h1, h2⟩ := hxs xs[n] (List.getElem_mem _)
      have hn' := ih.n
      by_cases hl : D'.left = 0
      · exact absurd (of_decide_eq_true h) (Area.refused (q + n) xs[n] (.inr hl)).2
      have hlt : q + n < D'.n := by omega
      have hwo := write_ok ih.ok hlt h1
      have hwi := write_is (x := xs[n]) hlt hl
      rw [hwi] at hwo ⊢
      have hsec := fun j => sec_put ih.ok.slen hlt h1 j
      refine ⟨hwo, hn', fun j hj => ⟨(ih.low j hj).1, ?_⟩, fun y hy => ?_, fun j hj => ?_, fun j hj ho => ?_⟩
      · show lowE H (sec (bspl D'.seen (64 * (q + n)) xs[n]) j)
        rw [hsec]
        split
        · exact h2
        · exact (ih.low j hj).2
      · rcases List.mem_append.1 hy with hy | hy
        · exact ih.lowp y hy
        · rw [List.mem_singleton] at hy
          subst hy
          exact h2
      · show some (sec (bspl D'.seen (64 * (q + n)) xs[n]) (q + j)) = _
        rw [hsec]
        by_cases e : j = n
        · subst e
          rw [if_pos rfl, List.getElem?_eq_getElem (by omega)]
        · rw [if_neg (by omega)]
          exact ih.new j (by omega)
      · show sec (bspl D'.seen (64 * (q + n)) xs[n]) j = _
        rw [hsec, if_neg (by omega)]
        exact ih.old j hj (by omega)
theorem flush_ok {D : DiskM} (ok : D.ok) : D.flush.ok := { llen := ok.slen, slen := ok.slen, plen := fun x hx => (by cases hx), n1 := ok.n1, n2 := ok.n2, l1 := ok.l1, l2 := ok.l2 }

/-- Begin, on the disk alone. -/
def beginD (D : DiskM) (first g : Nat) (rs : List Bytes) : DiskM × Bool :=
  if (layD D (first + 1) (rowsB g 1 rs)).2 then
    if (layD (layD D (first + 1) (rowsB g 1 rs)).1.flush first [headB g (posR rs rs.length - 1)]).2 then ((layD (layD D (first + 1) (rowsB g 1 rs)).1.flush first [headB g (posR rs rs.length - 1)]).1.flush, true)
    else ((layD (layD D (first + 1) (rowsB g 1 rs)).1.flush first [headB g (posR rs rs.length - 1)]).1, false)
  else ((layD D (first + 1) (rowsB g 1 rs)).1, false)

theorem rowsB_low (g : Nat) (rs : List Bytes) : ∀ x ∈ rowsB g 1 rs, x.length = 64 ∧ lowE g x := by
  intro x hx
  obtain ⟨j, hj, rfl⟩ := List.mem_iff_getElem.1 hx
  obtain ⟨d, h1, h2⟩ := rowsB_is g rs 1 j _ (List.getElem?_eq_getElem hj)
  rw [h2]
  exact ⟨secB_length _ _ h1, lowE_sec h1⟩
theorem headB_low (g cnt : Nat) : (headB g cnt).length = 64 ∧ lowE g (headB g cnt) := ⟨secB_length _ _ (headB_len cnt), lowE_sec (headB_len cnt)⟩

/-- A new area. -/
theorem Area.begun {D : DiskM} {first size g H : Nat} {rs : List Bytes} (ok : D.ok) (two : 2 ≤ size) (half : size = D.n / 2) (ends : first = 0 ∨ first = size) (hg : g = highB (secsOf D.seen 0 D.n) + 1) (hgH : g ≤ H) (hH : H < 256)
    (low : ∀ j, j < D.n → lowE H (sec D.last j) ∧ lowE H (sec D.seen j)) (lowp : ∀ x ∈ D.pend, lowE H x.2) (short : ∀ r ∈ rs, r.length ≤ 2000) (fits : posR rs rs.length ≤ size) (h : (beginD D first g rs).2 = true) :
    Area (beginD D first g rs).1 first size g H rs (posR rs rs.length) (posR rs rs.length) rs.length := by
  unfold beginD at h ⊢
  have hXl : (rowsB g 1 rs).length + 1 = posR rs rs.length := by rw [rowsB_length, posR, List.take_length]; omega
  cases h1 : (layD D (first + 1) (rowsB g 1 rs)).2 with
  | false => rw [h1, if_neg (by decide)] at h; cases h
  | true =>
    rw [h1, if_pos rfl] at h
    rw [if_pos rfl]
    have w1 := Wrote.lay (q := first + 1) ok low lowp (fun x hx => ⟨(rowsB_low g rs x hx).1, lowE_mono hgH (rowsB_low g rs x hx).2⟩) (by omega) (rowsB g 1 rs).length (Nat.le_refl _) (by rw [List.take_length]; exact h1)
    rw [List.take_length] at w1
    generalize (layD D (first + 1) (rowsB g 1 rs)).1 = D1 at *
    have hn1 := w1.n
    cases h2 : (layD D1.flush first [headB g (posR rs rs.length - 1)]).2 with
    | false => rw [h2, if_neg (by decide)] at h; cases h
    | true =>
      rw [if_pos rfl]
      have w2 := Wrote.lay (D := D1.flush) (q := first) (xs := [headB g (posR rs rs.length - 1)]) (flush_ok w1.ok) (H := H) (fun j hj => ⟨(w1.low j hj).2, (w1.low j hj).2⟩) (fun x hx => by cases hx)
        (fun x hx => by rw [List.mem_singleton] at hx; subst hx; exact ⟨(headB_low g _).1, lowE_mono hgH (headB_low g _).2⟩) (by show first + 1 ≤ D1.n; omega) 1 (Nat.le_refl _) h2
      have w2 : Wrote D1.flush (layD D1.flush first [headB g (posR rs rs.length - 1)]).1 H first [headB g (posR rs rs.length - 1)] 1 := w2
      generalize (layD D1.flush first [headB g (posR rs rs.length - 1)]).1 = D2 at *
      have hn2 : D2.n = D1.n := w2.n
      have hnew : ∀ j, j < posR rs rs.length → some (sec D2.seen (first + j)) = (areaOf g rs.length rs)[j]? := by
        intro j hj
        unfold areaOf areaX
        match j with
        | 0 => exact w2.new 0 (by omega)
        | j + 1 =>
          rw [List.getElem?_cons_succ, w2.old _ (by omega) (by omega), show first + (j + 1) = first + 1 + j by omega]
          exact w1.new j (by omega)
      have hold : ∀ j, j < D.n → (j < first ∨ first + posR rs rs.length ≤ j) → lowE (g - 1) (sec D2.seen j) := by
        intro j hj ho
        rw [w2.old j (by omega) (by omega)]
        show lowE (g - 1) (sec D1.seen j)
        rw [w1.old j (by omega) (by omega), hg, Nat.add_sub_cancel]
        refine highB_mem D.n _ (secsOf_length _ _ _) _ ?_ (sec_length ok.slen hj)
        have := secsOf_get D.seen 0 D.n j
        rw [if_pos hj, Nat.zero_add] at this
        exact List.mem_of_getElem? this
      refine { dok := flush_ok w2.ok, two := two, half := by show size = D2.n / 2; omega, ends := ends, g1 := by omega, gH := hgH, H256 := hH, low := fun j hj => ⟨(w2.low j hj).2, (w2.low j hj).2⟩, lowp := fun x hx => (by cases hx), short := short, b1 := Nat.le_refl _, bF := Nat.le_refl _, FW := Nat.le_refl _, WX := ?_, Ws := fits, lasts := fun j hj => ⟨hnew j hj, hnew j hj, rfl⟩, mid := fun j q1 q2 => absurd q1 (by omega), free := fun j q1 q2 => ?_, other := ?_ }
      · rw [areaOf, areaX, List.length_cons, hXl]; exact Nat.le_refl _
      · have := hold (first + j) (by omega) (by omega)
        exact ⟨this, this, rfl⟩
      · exact ⟨hold (size - first) (by omega) (by omega), rfl, rfl⟩

/-- What a Begin that is refused leaves of the elder area. -/
theorem Area.failed {D : DiskM} {first size g H g' : Nat} {rs : List Bytes} {F W base : Nat} (a : Area D first size g H rs F W base) {rs' : List Bytes} (hg : g' ≤ H) (fits : posR rs' rs'.length ≤ size) (h : (beginD D (size - first) g' rs').2 = false) :
    ∃ F', F ≤ F' ∧ Area (beginD D (size - first) g' rs').1 first size g H rs F' W base := by
  have hXl : (rowsB g' 1 rs').length + 1 = posR rs' rs'.length := by rw [rowsB_length, posR, List.take_length]; omega
  have hends := a.ends
  have hl : ∀ x ∈ rowsB g' 1 rs', x.length = 64 ∧ lowE H x := fun x hx => ⟨(rowsB_low g' rs' x hx).1, lowE_mono hg (rowsB_low g' rs' x hx).2⟩
  have a1 := a.asideL (q := size - first + 1) (rowsB g' 1 rs') hl (by intro j hj; omega) (rowsB g' 1 rs').length (Nat.le_refl _)
  rw [List.take_length] at a1
  unfold beginD at h ⊢
  cases h1 : (layD D (size - first + 1) (rowsB g' 1 rs')).2 with
  | false => rw [if_neg (by decide)]; exact ⟨F, Nat.le_refl _, a1⟩
  | true =>
    rw [h1, if_pos rfl] at h
    rw [if_pos rfl]
    have a2 := a1.flushed
    generalize (layD D (size - first + 1) (rowsB g' 1 rs')).1 = D1 at *
    cases h2 : (layD D1.flush (size - first) [headB g' (posR rs' rs'.length - 1)]).2 with
    | true => rw [h2, if_pos rfl] at h; cases h
    | false =>
      rw [if_neg (by decide)]
      refine ⟨W, a.FW, ?_⟩
      have e := layD_snoc D1.flush (size - first) [] (headB g' (posR rs' rs'.length - 1))
      have e0 : layD D1.flush (size - first) [] = (D1.flush, true) := rfl
      rw [e0, List.nil_append, if_pos rfl] at e
      rw [e] at h2 ⊢
      have hne := of_decide_eq_false h2
      have hw : (D1.flush.write ((size - first + ([] : List Bytes).length : Nat) : Int) (headB g' (posR rs' rs'.length - 1))).1 = D1.flush := by
        unfold DiskM.write at hne ⊢
        split
        · rfl
        · split
          · rfl
          · rename_i q1 q2
            rw [if_neg q1, if_neg q2] at hne
            exact absurd rfl hne
      show Area (D1.flush.write _ _).1 _ _ _ _ _ _ _ _
      rw [hw]
      exact a2
theorem beginD_n (D : DiskM) (first g : Nat) (rs : List Bytes) : (beginD D first g rs).1.n = D.n := by
  have h1 : ∀ D q ls, (layD D q ls).1.n = D.n := fun D q ls => by
    have := layD_n D q ls ls.length (Nat.le_refl _)
    rwa [List.take_length] at this
  unfold beginD
  split
  · split
    · show (layD _ _ _).1.n = _
      rw [h1]
      exact h1 _ _ _
    · rw [h1]
      exact h1 _ _ _
  · exact h1 _ _ _
theorem beginD_pend (D : DiskM) (first g : Nat) (rs : List Bytes) : (beginD D first g rs).1.pend.length ≤ D.pend.length + (rowsB g 1 rs).length + 1 := by
  unfold beginD
  split
  · split
    · exact Nat.zero_le _
    · have := layD_pendA (layD D (first + 1) (rowsB g 1 rs)).1.flush first [headB g (posR rs rs.length - 1)]
      have e : (layD D (first + 1) (rowsB g 1 rs)).1.flush.pend.length = 0 := rfl
      rw [e, List.length_singleton] at this
      show (layD _ _ _).1.pend.length ≤ _
      omega
  · have := layD_pendA D (first + 1) (rowsB g 1 rs)
    show (layD _ _ _).1.pend.length ≤ _
    omega
/-- Where there is no limit, an area is begun. -/
theorem beginD_all {D : DiskM} {first g : Nat} {rs : List Bytes} (hl : D.left < 0) (hq : first + posR rs rs.length ≤ D.n) : (beginD D first g rs).2 = true := by
  have hXl : (rowsB g 1 rs).length + 1 = posR rs rs.length := by rw [rowsB_length, posR, List.take_length]; omega
  obtain ⟨h1, h2⟩ := layD_all D (first + 1) (rowsB g 1 rs) hl (by omega) _ (Nat.le_refl _)
  have h3 := layD_n D (first + 1) (rowsB g 1 rs) _ (Nat.le_refl _)
  rw [List.take_length] at h1 h2 h3
  unfold beginD
  rw [h1, if_pos rfl]
  obtain ⟨h4, _⟩ := layD_all (layD D (first + 1) (rowsB g 1 rs)).1.flush first [headB g (posR rs rs.length - 1)] (by show (layD D (first + 1) (rowsB g 1 rs)).1.left < 0; omega) (by show first + 1 ≤ (layD D (first + 1) (rowsB g 1 rs)).1.n; omega) 1 (Nat.le_refl _)
  have h4 : (layD (layD D (first + 1) (rowsB g 1 rs)).1.flush first [headB g (posR rs rs.length - 1)]).2 = true := h4
  rw [h4]
  rfl
end Go.Proofs.YtedebapgmfnflaaGreatDoor

/- Begin, Add: walks. Conditions: see each. -/
namespace Go.Proofs.YtedebapgmfnflaaGreatDoor
open Go
set_option maxRecDepth 100000

theorem roomB_zero {size : Nat} {rs : List Bytes} (h : roomB size rs = 0) : (∀ r ∈ rs, needN r.length ≠ 0) ∧ posR rs rs.length ≤ size := by
  unfold roomB at h
  split at h
  · rename_i h1
    split at h
    · cases h
    · refine ⟨fun r hr => ?_, by omega⟩
      have := List.all_eq_true.1 h1 r hr
      exact of_decide_eq_true this
  · cases h
theorem rowsB_pos (g : Nat) (rs : List Bytes) (i : Nat) : 1 + (rowsB g 1 (rs.take i)).length = posR rs i := by
  rw [rowsB_length, posR]
theorem rowsB_succ (g : Nat) (rs : List Bytes) (i : Nat) (h : i < rs.length) : rowsB g 1 (rs.take (i + 1)) = rowsB g 1 (rs.take i) ++ packB g (posR rs i) rs[i] := by
  rw [List.take_succ_eq_append_getElem h, rowsB_snoc, rowsB_pos]

/-- A row, by its contents' blocks. -/
theorem RowsR.elemL {w : World} {v : Value} {hs : List Value} {ls : List Bytes} (h : RowsR w v hs ls) {i : Nat} (hi : i < ls.length) (k : IntKind) :
    ∃ b o r, (∀ K : VPost, K (.pointer (some ⟨b, o, none⟩)) w → idxW (some (none, 1)) v (.int k i) w K) ∧ (∀ K : VPost, K r w → loadW (some (false, 1)) (.pointer (some ⟨b, o, none⟩)) w K) ∧
      RdSl w r 1 (bc ls[i]) ls[i].length ∧ capOk r ∧ ∀ c ∈ rdB r (bc ls[i]), c ∈ rowsF hs ls := by
  have hl := h.2.length
  obtain ⟨b, o, h1, h2⟩ := h.1.get1 (i := i) (by omega) k
  obtain ⟨h3, h4⟩ := h.2.get i (by omega) hi
  exact ⟨b, o, _, h1, h2, h3, h4, fun c hc => rowsF_get i (by omega) hi c hc⟩

section
variable {S : List Nat} {w0 w : World} {L R : List Res} {K : VPost} {F : List Nat} {D : DiskM}
set_option maxHeartbeats 2000000 in
theorem Sep.areaBegin {p : Nat} {x : Value} {hs0 : List Value} {rs : List Bytes} (s : Sep S w0 w (rDk p F D :: L) R) (k : Nat) (hx : L[k]? = some (rO x 36 1 hs0 rs.length)) (hr0 : rL hs0 rs ∈ R) (h4 : 4 ≤ D.n) (hn : D.n ≤ 100000) (hp : D.pend.length + D.n ≤ 100000)
    (hl : rs.length ≤ 2 ^ 30) (hps : posR rs rs.length < 2 ^ 62) (hgl : highB (secsOf D.seen 0 D.n) < 4294967295)
    (hroom : roomB (D.n / 2) rs ≠ 0 → ∀ w', Sep S w0 w' (rDk p F D :: L) R → K (.tuple #[.pointer none, .int .i64 (roomB (D.n / 2) rs)]) w')
    (hno : roomB (D.n / 2) rs = 0 → (beginD D (firstB D) (highB (secsOf D.seen 0 D.n) + 1) rs).2 = false → ∀ F' w', Sep S w0 w' (rDk p F' (beginD D (firstB D) (highB (secsOf D.seen 0 D.n) + 1) rs).1 :: L) R → K (.tuple #[.pointer none, .int .i64 15]) w')
    (hyes : roomB (D.n / 2) rs = 0 → (beginD D (firstB D) (highB (secsOf D.seen 0 D.n) + 1) rs).2 = true → ∀ F' c v hs w', Sep S w0 w' (rA c ⟨p, firstB D, D.n / 2, highB (secsOf D.seen 0 D.n) + 1, posR rs rs.length, v, false⟩ 89 :: rO v 36 1 hs rs.length :: rDk p F' (beginD D (firstB D) (highB (secsOf D.seen 0 D.n) + 1) rs).1 :: L) (rL hs rs :: R) → K (.tuple #[ptrA c, .int .i64 0]) w') :
    fnW Tryz.prog 31 #[ptrA p, x] w K := by
  have hdisk : Disk w p F D := s.at 0 rfl
  have hseen := hdisk.okD.slen
  refine fnW_of (by kernel_rfl) (c31_calls _ _ w K ?_)
  unfold c31
  refine s.dsize 0 rfl ?_
  refine nlss (y := 4) (cond_d (fun hlt => absurd hlt (by omega)) (fun _ => ?_))
  refine s.areaOther 0 rfl (by omega) (by omega) fun c w1 s => ?_
  rw [nilW_e]
  refine off_i ?_
  refine s.load1 0 rfl rfl ?_
  have hfb : firstB D = 0 ∨ firstB D = D.n / 2 := by
    unfold firstB
    split
    · split
      · exact .inr rfl
      · exact .inl rfl
    · exact .inl rfl
  generalize hh : D.n / 2 = size at *
  have hxo : OwnAt w1 x 36 1 hs0 rs.length := s.at (k + 2) (by simpa using hx)
  have hrl : RowsL w1 hs0 rs := s.rd _ hr0
  refine fnW_of (by kernel_rfl) (room_c (size := size) (v := x) (hs := hs0) ⟨by rw [hrl.length]; exact hxo.rd, hrl⟩ hps hl fun w2 e2 => ?_)
  have s := s.ext0 e2
  rw [ineq]
  refine cond_d (fun hne => hroom (by simpa using hne) w2 (s.drop 0)) (fun hne => ?_)
  have hz : roomB size rs = 0 := by simpa using hne
  replace hno := hno hz
  replace hyes := hyes hz
  obtain ⟨hneed, hfits⟩ := roomB_zero hz
  have hdisk2 : Disk w2 p F D := s.at 1 rfl
  refine fnW_of (by kernel_rfl) (generation_c hdisk2 (by omega) hseen fun w3 e3 => ?_)
  have s := s.ext0 e3
  generalize firstB D = first at *
  generalize hg : highB (secsOf D.seen 0 D.n) + 1 = g at *
  rw [nilW_e]
  refine off_i ?_
  refine s.store1 0 rfl rfl (by show 3 < 7; decide) rfl fun w4 s _ => ?_
  rw [nilW_e]
  refine off_i ?_
  refine s.store1 0 rfl rfl (by show 4 < 7; decide) rfl fun w5 s _ => ?_
  have s : Sep S w0 w5 (rA c ⟨p, first, size, g, 1, .slice none 0 0, true⟩ 89 :: rDk p F D :: L) R := s
  rw [nilW_e]
  refine off_i ?_
  refine s.load1 0 rfl rfl ?_
  refine ngtr (x := g) (y := 4294967295) (cond_d (fun hgt => absurd hgt (by omega)) (fun _ => ?_))
  refine bindX_i fun J0 h0 => bindX_i fun J1 h1 => ?_
  have hvl : ∀ (w : World) (K : VPost), lenW Tryz.prog (some true) #[71] 3 #[x] w K = K (.int .i64 rs.length) w := fun w K => by obtain ⟨xa, xc, hx⟩ := hxo.rd.len; rw [hx]; exact len_s
  rw [hvl]
  refine bindX_i fun J2 h2 => ?_
  have hbd : beginD D first g rs = if (layD D (first + 1) (rowsB g 1 rs)).2 then
    if (layD (layD D (first + 1) (rowsB g 1 rs)).1.flush first [headB g (posR rs rs.length - 1)]).2 then ((layD (layD D (first + 1) (rowsB g 1 rs)).1.flush first [headB g (posR rs rs.length - 1)]).1.flush, true)
    else ((layD (layD D (first + 1) (rowsB g 1 rs)).1.flush first [headB g (posR rs rs.length - 1)]).1, false)
    else ((layD D (first + 1) (rowsB g 1 rs)).1, false) := rfl
  have hXl : (rowsB g 1 rs).length + 1 = posR rs rs.length := by rw [rowsB_length, posR, List.take_length]; omega
  -- behind all records
  have tail : ∀ (fr : Fr) (wr : World) (v : Value) (hs : List Value) (F1 : List Nat), fr 0 = ptrA p → fr 6 = ptrA c → (layD D (first + 1) (rowsB g 1 rs)).2 = true →
      Sep S w0 wr (rA c ⟨p, first, size, g, posR rs rs.length, v, true⟩ 89 :: rO v 36 1 hs rs.length :: rDk p F1 (layD D (first + 1) (rowsB g 1 rs)).1 :: L) (rL hs rs :: R) → J1 .normal fr wr := by
    intro fr wr v hs F1 f0 f6 hok s
    rw [hok, if_pos rfl] at hbd
    have hDn := layD_n D (first + 1) (rowsB g 1 rs) _ (Nat.le_refl _)
    rw [List.take_length] at hDn
    rw [hbd] at hno hyes
    clear hbd
    generalize (layD D (first + 1) (rowsB g 1 rs)).1 = D1 at *
    refine seq_n h1 ?_
    rw [f0, f6]
    refine s.dflush 2 rfl fun F2 w6 s => ?_
    have s : Sep S w0 w6 (rA c ⟨p, first, size, g, posR rs rs.length, v, true⟩ 89 :: rO v 36 1 hs rs.length :: rDk p F2 D1.flush :: L) (rL hs rs :: R) := s
    rw [nilW_e]
    refine off_i ?_
    refine s.load1 0 rfl rfl ?_
    refine nsub (x := posR rs rs.length) (y := 1) (by unfold posR; omega) (by omega) ?_
    generalize hcnt : posR rs rs.length - 1 = cnt at *
    refine fnW_of (by kernel_rfl) (head_c (n := cnt) fun vh w7 hvh e7 hf7 => ?_)
    have s := s.add (T := rDb vh (beP 4 cnt)) (by
      show OwnAt w7 vh 5 1 (bc (beP 4 cnt)) (beP 4 cnt).length
      rw [beP_length]; exact hvh) e7 hf7
    have hbl : (beP 4 cnt).length = 4 := beP_length 4 cnt
    have hn4 : needN (beP 4 cnt).length = 1 := by rw [hbl]; rfl
    have hfl : D1.flush.pend.length = 0 := rfl
    refine s.lay (r := beP 4 cnt) (num := 0) 3 rfl 1 (by decide) rfl (OwnAt.rd (s.at 0 rfl)) (by omega) (by show first + 0 + _ ≤ _; omega) (fun hnp => absurd (show packOk (g : Nat) (0 : Nat) (needN (beP 4 cnt).length) from ?_) hnp) (fun _ F3 w8 s => ?_)
    · unfold packOk
      rw [hn4]
      refine ⟨by decide, by omega, by omega, by omega, by omega⟩
    have s : Sep S w0 w8 (rDb vh (beP 4 cnt) :: rA c ⟨p, first, size, g, posR rs rs.length, v, true⟩ 89 :: rO v 36 1 hs rs.length :: rDk p F3 (layD D1.flush (first + 0) (packB g 0 (beP 4 cnt))).1 :: L) (rL hs rs :: R) := s
    show unN _ _ (.bool (layD D1.flush (first + 0) (packB g 0 (beP 4 cnt))).2) _ _
    rw [headB_pack, Nat.add_zero] at s ⊢
    generalize layD D1.flush first [headB g cnt] = D2 at *
    refine not_ti ?_
    cases hb : D2.2 with
    | false =>
      refine cndT ?_
      rw [hb, if_neg (by decide)] at hno
      exact hno rfl F3 w8 (((((s.drop 0).drop 0).drop 0)).less (fun T hT => by simp [hT]))
    | true =>
      refine cndF ?_
      rw [hb, if_pos rfl] at hyes
      refine s.dflush 3 rfl fun F4 w9 s => ?_
      have s : Sep S w0 w9 (rDb vh (beP 4 cnt) :: rA c ⟨p, first, size, g, posR rs rs.length, v, true⟩ 89 :: rO v 36 1 hs rs.length :: rDk p F4 D2.1.flush :: L) (rL hs rs :: R) := s
      rw [nilW_e]
      refine off_i ?_
      refine s.store1 1 rfl rfl (by show 6 < 7; decide) rfl fun w10 s _ => ?_
      exact hyes rfl F4 c v hs w10 (s.drop 0)
  have s := s.add (T := rO (.slice none 0 0) 36 1 [] 0) (.inl ⟨rfl, rfl, rfl⟩) (Ext.refl _ _) (by simp [rO, slB])
  have s := s.swap.noRows
  refine loop_i (fun m fr wr => ∃ (i : Nat) (v : Value) (hs : List Value) (F1 : List Nat), m = rs.length - i ∧ i ≤ rs.length ∧ fr 0 = ptrA p ∧ fr 6 = ptrA c ∧ fr 37 = x ∧ fr 38 = .int .i64 rs.length ∧ fr 39 = .int .i64 i ∧ (layD D (first + 1) (rowsB g 1 (rs.take i))).2 = true ∧
    Sep S w0 wr (rA c ⟨p, first, size, g, posR rs i, v, true⟩ 89 :: rO v 36 1 hs (rs.take i).length :: rDk p F1 (layD D (first + 1) (rowsB g 1 (rs.take i))).1 :: L) (rL hs (rs.take i) :: R)) rs.length ?_ ?_
  · refine ⟨0, .slice none 0 0, [], F, rfl, by omega, rfl, rfl, rfl, rfl, rfl, rfl, ?_⟩
    have e0 : posR rs 0 = 1 := by simp [posR]
    rw [e0]
    exact s
  · rintro m fr wr J ⟨i, v, hs, F1, rfl, hi, f0, f6, f37, f38, f39, hok, s⟩ hJ hX
    rw [f38, f39]
    refine nlss (cond_d (fun hlt => ?_) (fun hlt => ?_))
    · rw [f37, f6]
      have hxo : OwnAt wr x 36 1 hs0 rs.length := s.at (k + 3) (by simpa using hx)
      have hrl : RowsL wr hs0 rs := s.rd (rL hs0 rs) (by simp [hr0])
      have hrw : RowsR wr x hs0 rs := ⟨by rw [hrl.length]; exact hxo.rd, hrl⟩
      obtain ⟨b, o, r, hix, hld, hr, hc, hf⟩ := hrw.elemL hlt .i64
      refine hix _ ?_
      refine hld _ ?_
      have s := s.part (T := rR r 1 (bc rs[i]) rs[i].length) (U := rL hs0 rs) (by simp [hr0]) hr hf
      have hni := hneed rs[i] (List.getElem_mem hlt)
      have ps := posR_succ rs i hlt
      have pm := posR_mono rs (show i + 1 ≤ rs.length from hlt)
      have hpd := layD_pendA D (first + 1) (rowsB g 1 (rs.take i))
      have hpos := rowsB_pos g rs i
      have htl : (rs.take i).length = i := by rw [List.length_take]; omega
      have e1 : layD D (first + 1) (rowsB g 1 (rs.take (i + 1))) = layD (layD D (first + 1) (rowsB g 1 (rs.take i))).1 (first + posR rs i) (packB g (posR rs i) rs[i]) := by
        rw [rowsB_succ g rs i hlt, layD_app, if_pos hok, show first + 1 + (rowsB g 1 (rs.take i)).length = first + posR rs i by omega]
      refine s.areaPut (A := ⟨p, first, size, g, posR rs i, v, true⟩) (r := rs[i]) (by simp) (by simp) ?_ (by omega) (by show first + posR rs i + _ ≤ _; omega) (by omega) (fun hb F2 w6 s => ?_) (fun hb F2 v2 h2' w6 s => ?_)
      · show packOk (g : Nat) (posR rs i : Nat) _
        unfold packOk
        refine ⟨hni, by omega, by omega, by omega, by omega⟩
      · have hb : (layD (layD D (first + 1) (rowsB g 1 (rs.take i))).1 (first + posR rs i) (packB g (posR rs i) rs[i])).2 = false := hb
        have s : Sep S w0 w6 (rA c ⟨p, first, size, g, posR rs i, v, true⟩ 89 :: rO v 36 1 hs (rs.take i).length :: rDk p F2 (layD (layD D (first + 1) (rowsB g 1 (rs.take i))).1 (first + posR rs i) (packB g (posR rs i) rs[i])).1 :: L) _ := s
        rw [← e1] at hb s
        refine not_ti (cndT ?_)
        refine hX _ _ _ (by simp) (h2 _ _ _ (h1 _ _ _ (h0 _ _ _ ?_)))
        have e2 : layD D (first + 1) (rowsB g 1 rs) = layD D (first + 1) (rowsB g 1 (rs.take (i + 1))) := by
          rw [rowsB_take g 1 rs (i + 1), layD_app, hb, if_neg (by decide)]
        rw [e2, hb, if_neg (by decide)] at hbd
        rw [hbd] at hno
        exact hno rfl F2 w6 (((s.drop 0).drop 0).less (fun T hT => by simp [hT]))
      · have hb : (layD (layD D (first + 1) (rowsB g 1 (rs.take i))).1 (first + posR rs i) (packB g (posR rs i) rs[i])).2 = true := hb
        have s : Sep S w0 w6 (rA c ⟨p, first, size, g, posR rs i + needN rs[i].length, v2, true⟩ 89 :: rO v2 36 1 (hs ++ [h2']) (rs.take i ++ [rs[i]]).length :: rDk p F2 (layD (layD D (first + 1) (rowsB g 1 (rs.take i))).1 (first + posR rs i) (packB g (posR rs i) rs[i])).1 :: L) (rL (hs ++ [h2']) (rs.take i ++ [rs[i]]) :: rR r 1 (bc rs[i]) rs[i].length :: rL hs (rs.take i) :: R) := s
        rw [← List.take_succ_eq_append_getElem hlt, ← ps] at s
        rw [← e1] at hb s
        refine not_ti (cndF ?_)
        refine nadd (y := 1) (by omega) ?_
        refine hJ (rs.length - (i + 1)) _ _ (by omega) ⟨i + 1, v2, hs ++ [h2'], F2, rfl, by omega, f0, f6, f37, f38, rfl, hb, ?_⟩
        exact s.less (fun T hT => by
          rcases List.mem_cons.1 hT with rfl | hT
          · simp
          · simp [hT])
    · obtain rfl : i = rs.length := by omega
      rw [List.take_length] at s hok
      exact hX _ _ _ (by simp) (h2 _ _ _ (tail _ wr v hs F1 f0 f6 hok s))

/-- What Add answers. -/
def addE (D : DiskM) (A : AreaH) (r : Bytes) : Int := if needN r.length = 0 then 10 else if A.stuck = true ∨ A.size - A.next < needN r.length then 15 else if (layD D (A.first + A.next) (packB A.gen A.next r)).2 then 0 else 15
set_option maxHeartbeats 1000000 in
theorem Sep.areaAdd {a : Nat} {A : AreaH} {t : TypeId} {x : Value} {r : Bytes} {hs : List Value} {rs : List Bytes} (s : Sep S w0 w (rA a A t :: rO A.recs 36 1 hs rs.length :: rDk A.disk F D :: L) R) (hr : rL hs rs ∈ R) (hx : rR x 1 (bc r) r.length ∈ R)
    (hg : 1 ≤ A.gen) (hg2 : A.gen ≤ 4294967295) (hns : A.next ≤ A.size) (hsz : A.first + A.size ≤ 100000) (hp : D.pend.length ≤ 100000) (hn : rs.length ≤ 2 ^ 30)
    (hrej : ∀ e, e ≠ 0 → e = addE D A r → (needN r.length = 0 ∨ A.stuck = true ∨ A.size - A.next < needN r.length) → ∀ w', Sep S w0 w' (rA a A t :: rO A.recs 36 1 hs rs.length :: rDk A.disk F D :: L) R → K (.int .i64 e) w')
    (hno : needN r.length ≠ 0 → A.stuck = false → A.next + needN r.length ≤ A.size → (layD D (A.first + A.next) (packB A.gen A.next r)).2 = false → ∀ F' w', Sep S w0 w' (rA a { A with stuck := true } t :: rO A.recs 36 1 hs rs.length :: rDk A.disk F' (layD D (A.first + A.next) (packB A.gen A.next r)).1 :: L) R → K (.int .i64 15) w')
    (hyes : needN r.length ≠ 0 → A.stuck = false → A.next + needN r.length ≤ A.size → (layD D (A.first + A.next) (packB A.gen A.next r)).2 = true → ∀ F' v h w', Sep S w0 w' (rA a { A with next := A.next + needN r.length, recs := v } t :: rO v 36 1 (hs ++ [h]) (rs ++ [r]).length :: rDk A.disk F' (layD D (A.first + A.next) (packB A.gen A.next r)).1 :: L) (rL (hs ++ [h]) (rs ++ [r]) :: R) → K (.int .i64 0) w') :
    fnW Tryz.prog 35 #[ptrA a, x] w K := by
  refine fnW_of (by kernel_rfl) (c35_calls _ _ w K ?_)
  unfold c35
  have hxr : RdSl w x 1 (bc r) r.length := s.rd _ hx
  rw [hxr.lenw]
  refine fnW_of (by kernel_rfl) (need_c ?_)
  rw [needI_nat]
  have hn45 : needN r.length ≤ 45 := by unfold needN; split <;> omega
  refine neql (y := 0) (cond_d (fun h0 => hrej 10 (by decide) (by unfold addE; rw [if_pos h0]) (.inl h0) w s) (fun h0 => ?_))
  rw [nilW_e]
  refine off_i ?_
  refine s.load1 0 rfl rfl ?_
  cases hst : A.stuck with
  | true =>
    repeat with_reducible refine gs_tf ?_
    refine pick_ti ?_
    repeat with_reducible refine gs_tf ?_
    refine pick_ti ?_
    exact cndT (hrej 15 (by decide) (by unfold addE; rw [if_neg h0, if_pos (.inl hst)]) (.inr (.inl hst)) w s)
  | false =>
    refine gs_f ?_
    refine gs_f ?_
    refine gs_f ?_
    refine fnW_of (by kernel_rfl) (areaFree_c (s.at 0 rfl) hns (by omega) fun w1 e1 => ?_)
    have s := s.ext0 e1
    refine gs_f ?_
    refine ngtr ?_
    refine pick_fi ?_
    by_cases hf : A.size - A.next < needN r.length
    · rw [decide_eq_true (show needN r.length > A.size - A.next from hf)]
      repeat with_reducible refine gs_tf ?_
      refine pick_ti ?_
      exact cndT (hrej 15 (by decide) (by unfold addE; rw [if_neg h0, if_pos (.inr hf)]) (.inr (.inr hf)) w1 s)
    · rw [decide_eq_false (show ¬ needN r.length > A.size - A.next from hf)]
      refine gs_f ?_
      refine gs_f ?_
      refine gs_f ?_
      refine s.areaPut hr hx ⟨h0, by omega, by omega, by omega, by omega⟩ (by omega) (by omega) hn (fun hb F2 w2 s => ?_) (fun hb F2 v2 h2 w2 s => ?_)
      · refine gs_f ?_
        refine not_ti ?_
        refine pick_fi ?_
        exact cndT (hno h0 hst (by omega) hb F2 w2 s)
      · refine gs_f ?_
        refine not_ti ?_
        refine pick_fi ?_
        exact cndF (hyes h0 hst (by omega) hb F2 v2 h2 w2 s)
end
end Go.Proofs.YtedebapgmfnflaaGreatDoor

/- The history of an area: what holds behind each call. Plain laws. Condition: at most 250 calls, at most 4096 sectors. -/
namespace Go.Proofs.YtedebapgmfnflaaGreatDoor
open Go
set_option maxRecDepth 100000

theorem seen_crash (D : DiskM) : (D.flush.crash []).seen = D.seen := rfl

structure HistX (D : DiskM) (A : AreaH) (list extra : List Bytes) (sure i H F W base : Nat) : Prop where
  area : Area D A.first A.size A.gen H (list ++ extra) F W base
  Hi : H ≤ i + 1
  next : A.next = posR list list.length
  nW : A.next ≤ W
  ex : extra = [] ∨ ∃ r, extra = [r] ∧ W < posR (list ++ extra) (list ++ extra).length
  fit : posR (list ++ extra) (list ++ extra).length ≤ A.size
  bs : base ≤ sure
  sl : sure ≤ list.length
  sF : posR list sure ≤ F
  free : A.stuck = false → extra = [] ∧ W = A.next
  pend : D.pend.length ≤ 100 * i
/-- An area behind so many calls: what it has, and how many of it are sure. -/
def Hist (D : DiskM) (A : AreaH) (list : List Bytes) (sure i : Nat) : Prop := ∃ extra H F W base, HistX D A list extra sure i H F W base

theorem areaOf_length (g base : Nat) (rs : List Bytes) : (areaOf g base rs).length = posR rs rs.length := areaX_length _ _ _
theorem posR_snoc (rs : List Bytes) (r : Bytes) : posR (rs ++ [r]) (rs ++ [r]).length = posR rs rs.length + needN r.length := by
  rw [List.length_append, List.length_singleton, posR_succ _ _ (by simp), posR_app _ _ (Nat.le_refl _)]
  simp

section
variable {D : DiskM} {A : AreaH} {list extra : List Bytes} {sure i H F W base : Nat}

theorem HistX.step (h : HistX D A list extra sure i H F W base) : HistX D A list extra sure (i + 1) H F W base :=
  { h with Hi := by have := h.Hi; omega, pend := by have := h.pend; omega }

/-- What is read of the disk as it is seen. -/
theorem HistX.seen (h : HistX D A list extra sure i H F W base) (hn : D.n ≤ 4096) : currentA D.seen (D.n / 2) = some ⟨A.first, A.size, A.gen, A.next, list, true⟩ := by
  have hf := h.fit
  have hh := h.area.half
  have hbs := h.bs
  have hsl := h.sl
  have hnx := h.next
  have hnW := h.nW
  obtain ⟨m, h1, h2, h3⟩ := h.area.flushed.opens (m0 := list.length) hn (by omega) h.ex (fun hw => by omega) (by rw [areaOf_length]; omega) (by omega) (Nat.le_refl _) (by omega) []
  obtain rfl : m = list.length := by omega
  rw [List.take_length, ← hnx, seen_crash] at h3
  exact h3
/-- What is read of it behind a crash. -/
theorem HistX.crash (h : HistX D A list extra sure i H F W base) (hn : D.n ≤ 4096) (picks : Bytes) : ∃ m, sure ≤ m ∧ m ≤ list.length ∧ currentA (D.crash picks).seen (D.n / 2) = some ⟨A.first, A.size, A.gen, posR list m, list.take m, true⟩ := by
  have hf := h.fit
  have hh := h.area.half
  have hbs := h.bs
  have hsl := h.sl
  have hnx := h.next
  have hnW := h.nW
  exact h.area.opens (m0 := sure) hn (by omega) h.ex (fun hw => by omega) (by rw [areaOf_length]; omega) h.bs h.sl h.sF picks

theorem Area.limited {first size g : Nat} {rs : List Bytes} (a : Area D first size g H rs F W base) (k : Int) (hk : k ≤ 9223372036854775807) : Area (D.limit k) first size g H rs F W base :=
  { a with dok := { a.dok with l1 := by show -1 ≤ max k (-1); omega, l2 := by show max k (-1) ≤ _; omega } }
theorem HistX.limit (h : HistX D A list extra sure i H F W base) (k : Int) (hk : k ≤ 9223372036854775807) : HistX (D.limit k) A list extra sure i H F W base :=
  { h with area := h.area.limited k hk }
theorem HistX.flush (h : HistX D A list extra sure i H F W base) : HistX D.flush A list extra list.length i H W W base :=
  { h with area := h.area.flushed, bs := Nat.le_trans h.bs h.sl, sl := Nat.le_refl _, sF := by have := h.next; have := h.nW; omega, pend := Nat.zero_le _ }

/-- A record laid. -/
theorem HistX.add (h : HistX D A list extra sure i H F W base) (hs : A.stuck = false) {r : Bytes} (hr : needN r.length ≠ 0) (hf : A.next + needN r.length ≤ A.size) :
    ((layD D (A.first + A.next) (packB A.gen A.next r)).2 = true → ∀ v, Hist (layD D (A.first + A.next) (packB A.gen A.next r)).1 { A with next := A.next + needN r.length, recs := v } (list ++ [r]) sure (i + 1)) ∧
    ((layD D (A.first + A.next) (packB A.gen A.next r)).2 = false → Hist (layD D (A.first + A.next) (packB A.gen A.next r)).1 { A with stuck := true } list sure (i + 1)) := by
  obtain ⟨rfl, rfl⟩ := h.free hs
  have hh := h.area.half
  have hends := h.area.ends
  have hnx := h.next
  have hHi := h.Hi
  have hsl := h.sl
  have hpd := h.pend
  have a0 := h.area
  rw [List.append_nil] at a0
  have hshort : r.length ≤ 2000 := by
    rcases Nat.lt_or_ge 2000 r.length with h1 | h1
    · exact absurd (need_zero.2 h1) hr
    · exact h1
  have a1 := a0.more hshort
  have hpl := packB_length A.gen A.next r
  have hlen0 : (areaOf A.gen base list).length = A.next := by rw [areaOf_length]; exact hnx.symm
  have happ := areaOf_app (g := A.gen) r a0.b1
  rw [hlen0] at happ
  have hlay := a1.laid (by omega) (packB A.gen A.next r) (fun j hj => by
    rw [happ, List.getElem?_append_right (by omega), hlen0, Nat.add_sub_cancel_left, List.getElem?_eq_getElem hj]) (by omega) (packB A.gen A.next r).length (Nat.le_refl _)
  rw [List.take_length] at hlay
  have hpp := layD_pendA D (A.first + A.next) (packB A.gen A.next r)
  have h2 := h.area.two
  have hn2 := h.area.dok.n2
  have hneed : needN r.length ≤ 45 := by unfold needN; split <;> omega
  obtain ⟨_, k, h1, a2, h3, h4⟩ := hlay
  have hps := posR_snoc list r
  constructor
  · intro hok v
    obtain rfl := h3 hok
    rw [hpl] at a2
    refine ⟨[], H, F, A.next + needN r.length, base, ?_⟩
    exact { area := by rw [List.append_nil]; exact a2, Hi := by omega, next := by show A.next + _ = _; rw [hps]; omega, nW := Nat.le_refl _, ex := .inl rfl, fit := by rw [List.append_nil, hps]; show _ ≤ A.size; omega, bs := h.bs, sl := by rw [List.length_append]; omega, sF := by rw [posR_app _ _ hsl]; exact h.sF, free := fun _ => ⟨rfl, rfl⟩, pend := by omega }
  · intro hok
    have := h4 hok
    refine ⟨[r], H, F, A.next + k, base, ?_⟩
    exact { area := a2, Hi := by omega, next := hnx, nW := by show A.next ≤ _; omega, ex := .inr ⟨r, rfl, by rw [hps]; omega⟩, fit := by rw [hps]; show _ ≤ A.size; omega, bs := h.bs, sl := hsl, sF := h.sF, free := fun hx => (by cases hx), pend := by omega }

/-- All that a Begin wants of a disk. -/
structure Calm (D : DiskM) (H : Nat) : Prop where
  ok : D.ok
  low : ∀ j, j < D.n → lowE H (sec D.last j) ∧ lowE H (sec D.seen j)
  lowp : ∀ x ∈ D.pend, lowE H x.2
theorem HistX.calm (h : HistX D A list extra sure i H F W base) : Calm D H := ⟨h.area.dok, h.area.low, h.area.lowp⟩
theorem Calm.mono (h : Calm D H) {H' : Nat} (hH : H ≤ H') : Calm D H' := ⟨h.ok, fun j hj => ⟨lowE_mono hH (h.low j hj).1, lowE_mono hH (h.low j hj).2⟩, fun x hx => lowE_mono hH (h.lowp x hx)⟩
theorem Calm.gen (h : Calm D H) (hH : H < 256) : highB (secsOf D.seen 0 D.n) ≤ H := by
  refine highB_bound hH _ _ rfl fun b hb => ?_
  unfold secsOf at hb
  obtain ⟨n, hn, rfl⟩ := List.mem_map.1 hb
  rw [List.mem_range] at hn
  rw [Nat.zero_add]
  exact (h.low n hn).2
theorem Calm.crash (h : Calm D H) (hH : H < 256) (picks : Bytes) : Calm (D.crash picks) H := by
  have hl2 : (D.crash picks).seen.length = 64 * D.n := tears_length D.pend 0 D.last h.ok.llen h.ok.plen
  have hall := tears_all picks (lowE H) (fun old b x h1 h2 h3 h4 h5 => lowE_torn hH old b x h1 h2 h3 h4 h5) D.pend 0 D.last h.ok.llen h.ok.plen (fun j hj => (h.low j hj).1) (fun x hx => h.lowp x hx)
  exact ⟨{ llen := hl2, slen := hl2, plen := fun x hx => (by cases hx), n1 := h.ok.n1, n2 := h.ok.n2, l1 := by show (-1 : Int) ≤ -1; omega, l2 := by show (-1 : Int) ≤ _; omega }, fun j hj => ⟨hall j hj, hall j hj⟩, fun x hx => by cases hx⟩

/-- A new area, behind a call more. -/
theorem Calm.begun {first : Nat} {rs : List Bytes} {p : Nat} (h : Calm D H) (hi : H ≤ i + 1) (hi2 : i ≤ 250) (hn : 4 ≤ D.n) (ends : first = 0 ∨ first = D.n / 2) (short : ∀ r ∈ rs, r.length ≤ 2000) (fits : posR rs rs.length ≤ D.n / 2) (v : Value)
    (hb : (beginD D first (highB (secsOf D.seen 0 D.n) + 1) rs).2 = true) : Hist (beginD D first (highB (secsOf D.seen 0 D.n) + 1) rs).1 ⟨p, first, D.n / 2, highB (secsOf D.seen 0 D.n) + 1, posR rs rs.length, v, false⟩ rs rs.length (i + 1) := by
  have hg := h.gen (by omega)
  have h' := h.mono (Nat.le_succ H)
  have a := Area.begun (H := H + 1) h.ok (by omega) rfl ends rfl (by omega) (by omega) h'.low h'.lowp short fits hb
  refine ⟨[], H + 1, _, _, rs.length, { area := by rw [List.append_nil]; exact a, Hi := by omega, next := rfl, nW := Nat.le_refl _, ex := .inl rfl, fit := by rw [List.append_nil]; exact fits, bs := Nat.le_refl _, sl := Nat.le_refl _, sF := Nat.le_refl _, free := fun _ => ⟨rfl, rfl⟩, pend := ?_ }⟩
  unfold beginD at hb ⊢
  split at hb
  · split at hb
    · rename_i q1 q2
      rw [if_pos q1, if_pos q2]
      exact Nat.zero_le _
    · cases hb
  · cases hb
/-- The elder area, where a Begin was refused. -/
theorem HistX.failed (h : HistX D A list extra sure i H F W base) (hi2 : i ≤ 250) {rs : List Bytes} (fits : posR rs rs.length ≤ D.n / 2) (hn : D.n ≤ 4096) (hb : (beginD D (A.size - A.first) (highB (secsOf D.seen 0 D.n) + 1) rs).2 = false) (hsm : (rowsB (highB (secsOf D.seen 0 D.n) + 1) 1 rs).length ≤ 90) :
    Hist (beginD D (A.size - A.first) (highB (secsOf D.seen 0 D.n) + 1) rs).1 A list sure (i + 1) := by
  have hHi := h.Hi
  have hg := h.calm.gen (by omega)
  have a1 := h.area.high (Nat.le_succ H) (by omega)
  have hh := h.area.half
  obtain ⟨F', h1, a2⟩ := a1.failed (g' := highB (secsOf D.seen 0 D.n) + 1) (rs' := rs) (by omega) (by omega) hb
  have hp := beginD_pend D (A.size - A.first) (highB (secsOf D.seen 0 D.n) + 1) rs
  have hpd := h.pend
  exact ⟨extra, H + 1, F', W, base, { area := a2, Hi := by omega, next := h.next, nW := h.nW, ex := h.ex, fit := h.fit, bs := h.bs, sl := h.sl, sF := Nat.le_trans h.sF h1, free := h.free, pend := by omega }⟩
end
end Go.Proofs.YtedebapgmfnflaaGreatDoor

/- A new disk has no area; its first one: plain laws. -/
namespace Go.Proofs.YtedebapgmfnflaaGreatDoor
open Go
set_option maxRecDepth 100000

theorem fresh_sec (n j : Nat) (hj : j < n) : sec (DiskM.fresh n).seen j = List.replicate 64 0 := by
  show sec (List.replicate (64 * n) 0) j = _
  rw [sec, List.drop_replicate, List.take_replicate, Nat.min_eq_left (by omega)]
theorem low_zero : lowE 0 (List.replicate 64 0) := ⟨⟨0, Nat.le_refl _, rfl⟩, 0, Nat.le_refl _, rfl⟩
theorem Calm.fresh {n : Nat} (ok : (DiskM.fresh n).ok) : Calm (DiskM.fresh n) 0 :=
  ⟨ok, fun j hj => ⟨by rw [show sec (DiskM.fresh n).last j = _ from fresh_sec n j hj]; exact low_zero, by rw [fresh_sec n j hj]; exact low_zero⟩, fun x hx => by cases hx⟩
theorem fresh_high {n : Nat} (ok : (DiskM.fresh n).ok) : highB (secsOf (DiskM.fresh n).seen 0 (DiskM.fresh n).n) = 0 := by
  have := (Calm.fresh ok).gen (by decide)
  omega
theorem readA_zero {b : Bytes} {f s : Nat} (hs : 1 ≤ s) (h : sec b f = List.replicate 64 0) : readA b f s = none := by
  have h0 : (secsOf b f s).getD 0 [] = sec b f := by
    rw [List.getD_eq_getElem?_getD, secsOf_get, if_pos (by omega)]; rfl
  have hm : (markB (List.replicate 64 0)).1 = 0 := by
    unfold markB
    split <;> rfl
  simp only [readA]
  rw [h0, h, hm, if_pos rfl]
theorem fresh_none {n : Nat} (h : 2 ≤ n) : currentA (DiskM.fresh n).seen ((DiskM.fresh n).n / 2) = none := by
  unfold currentA
  show (match readA (DiskM.fresh n).seen 0 (n / 2), readA (DiskM.fresh n).seen (n / 2) (n / 2) with
    | none, x => x
    | some a, none => some a
    | some a, some c => if a.gen ≤ c.gen then some c else some a) = none
  rw [readA_zero (by omega) (fresh_sec n 0 (by omega)), readA_zero (by omega) (fresh_sec n (n / 2) (by omega))]

theorem beginD_left {D : DiskM} {first g : Nat} {rs : List Bytes} (hl : D.left < 0) (hq : first + posR rs rs.length ≤ D.n) : (beginD D first g rs).1.left = D.left ∧ (beginD D first g rs).1.pend = [] := by
  have hXl : (rowsB g 1 rs).length + 1 = posR rs rs.length := by rw [rowsB_length, posR, List.take_length]; omega
  obtain ⟨h1, h2⟩ := layD_all D (first + 1) (rowsB g 1 rs) hl (by omega) _ (Nat.le_refl _)
  have h3 := layD_n D (first + 1) (rowsB g 1 rs) _ (Nat.le_refl _)
  rw [List.take_length] at h1 h2 h3
  unfold beginD
  rw [h1, if_pos rfl]
  obtain ⟨h4, h5⟩ := layD_all (layD D (first + 1) (rowsB g 1 rs)).1.flush first [headB g (posR rs rs.length - 1)] (by show (layD D (first + 1) (rowsB g 1 rs)).1.left < 0; omega) (by show first + 1 ≤ (layD D (first + 1) (rowsB g 1 rs)).1.n; omega) 1 (Nat.le_refl _)
  have h4 : (layD (layD D (first + 1) (rowsB g 1 rs)).1.flush first [headB g (posR rs rs.length - 1)]).2 = true := h4
  have h5 : (layD (layD D (first + 1) (rowsB g 1 rs)).1.flush first [headB g (posR rs rs.length - 1)]).1.left = _ := h5
  rw [h4, if_pos rfl]
  exact ⟨h5.trans h2, rfl⟩
theorem layD_allT {D : DiskM} {q : Nat} {ls : List Bytes} (hl : D.left < 0) (hq : q + ls.length ≤ D.n) : (layD D q ls).2 = true ∧ (layD D q ls).1.left = D.left ∧ (layD D q ls).1.n = D.n := by
  obtain ⟨h1, h2⟩ := layD_all D q ls hl hq _ (Nat.le_refl _)
  have h3 := layD_n D q ls _ (Nat.le_refl _)
  rw [List.take_length] at h1 h2 h3
  exact ⟨h1, h2, h3⟩
end Go.Proofs.YtedebapgmfnflaaGreatDoor

/- The frame of a law: from a walk that ends in 'true' and changes nothing old to the row's step; and what came in, read as cells. -/
namespace Go.Proofs.YtedebapgmfnflaaGreatDoor
open Go Go.ChangeShapes Go.WideShapes Go.ChangeAt Go.RowKit
set_option maxRecDepth 100000

theorem law_own : ownKnob Tryz.prog.godebug = none := by kernel_rfl
theorem law_laid : laidOutB Tryz.prog = true := by kernel_rfl

section
variable {H : Type} {enc : TypeId × Value → H}

theorem trodAll_keeps {P : Program} (hl : laidOutB P = true) {W W' : World} (hb : Below W.heap.size W W') : ∀ {ts : List TypeId} {vs : List Value} {ds : List (DataW H)} {ps : List MemPlace}, ts.all (fun t => P.readableRec t && decide (t < P.types.size)) = true →
    DataW.TrodAll enc P W 0 (fun _ => true) true ts vs ds ps → (∀ x ∈ ps, x.block < W.heap.size) → DataW.TrodAll enc P W' 0 (fun b => decide (b < W.heap.size)) true ts vs ds ps := by
  intro ts
  induction ts with
  | nil =>
    intro vs ds ps _ h _
    cases vs <;> cases ds <;> first | exact h | exact h.elim
  | cons t ts ih =>
    intro vs ds ps hts h hlt
    cases vs with
    | nil => exact h.elim
    | cons v vs =>
      cases ds with
      | nil => exact h.elim
      | cons d ds =>
        obtain ⟨p, q, h1, h2, rfl⟩ := h
        simp only [List.all_cons, Bool.and_eq_true, decide_eq_true_eq] at hts
        exact ⟨p, q, Below.trod hl hts.1.1 hts.1.2 h1 hb (fun x hx => hlt x (List.mem_append_left _ hx)), ih hts.2 h2 (fun x hx => hlt x (List.mem_append_right _ hx)), rfl⟩

/-- All that a datum takes lies within the reach. -/
def fitsD (P : Program) (t : TypeId) (d : DataW H) : Prop := ∀ n ∈ d.weights P t, n ≤ reachBytes

theorem weightsAll_mem {P : Program} {e : TypeId} : ∀ {l : List (DataW H)} {d : DataW H} {n : Nat}, d ∈ l → n ∈ d.weights P e → n ∈ DataW.weightsAll P e l := by
  intro l
  induction l with
  | nil => intro d n h; cases h
  | cons a r ih =>
    intro d n h hn
    simp only [DataW.weightsAll, List.mem_append]
    rcases List.mem_cons.1 h with rfl | h
    · exact .inl hn
    · exact .inr (ih h hn)
theorem weightsEach_mem {P : Program} : ∀ {ts : List TypeId} {l : List (DataW H)} {i : Nat} {t : TypeId} {d : DataW H} {n : Nat}, ts[i]? = some t → l[i]? = some d → n ∈ d.weights P t → n ∈ DataW.weightsEach P ts l := by
  intro ts
  induction ts with
  | nil => intro l i t d n h; simp at h
  | cons t0 ts ih =>
    intro l i t d n h1 h2 hn
    cases l with
    | nil => simp at h2
    | cons a r =>
      simp only [DataW.weightsEach, List.mem_append]
      cases i with
      | zero => simp at h1 h2; subst h1; subst h2; exact .inl hn
      | succ i => exact .inr (ih (by simpa using h1) (by simpa using h2) hn)
theorem fits_slice {P : Program} {t e : TypeId} {el spr : List (DataW H)} (hu : P.underlying t = some (.slice e)) (h : fitsD P t (.slice el spr)) : (el.length + spr.length) * P.bytesOf e ≤ reachBytes ∧ ∀ d ∈ el, fitsD P e d := by
  unfold fitsD at h
  simp only [DataW.weights, hu] at h
  exact ⟨h _ List.mem_cons_self, fun d hd n hn => h n (List.mem_cons_of_mem _ (List.mem_append_left _ (weightsAll_mem hd hn)))⟩
theorem fits_struct {P : Program} {t : TypeId} {fs : Array Field} {parts : List (DataW H)} (hu : P.underlying t = some (.struct fs)) (h : fitsD P t (.agg parts)) {i : Nat} {te : TypeId} {d : DataW H} (h1 : (fs.toList.map (·.type))[i]? = some te) (h2 : parts[i]? = some d) : fitsD P te d := by
  unfold fitsD at h
  simp only [DataW.weights, hu] at h
  exact fun n hn => h n (weightsEach_mem h1 h2 hn)
theorem fits_array {P : Program} {t e : TypeId} {n : Nat} {parts : List (DataW H)} (hu : P.underlying t = some (.array n e)) (h : fitsD P t (.agg parts)) {d : DataW H} (hd : d ∈ parts) : fitsD P e d := by
  unfold fitsD at h
  simp only [DataW.weights, hu] at h
  exact fun n hn => h n (weightsAll_mem hd hn)

/-- A value that came in. -/
def Came (W : World) (t : TypeId) (v : Value) : Prop := ∃ (H : Type) (enc : TypeId × Value → H) (fuel : Nat) (x : DataW H × List MemPlace), DataW.trod enc Tryz.prog W 0 (fun _ => true) true fuel t v.cells.toList = some x ∧ fitsD Tryz.prog t x.1

theorem came_all {W : World} : ∀ {ts : List TypeId} {vs : List Value} {ds : List (DataW H)} {ps : List MemPlace}, DataW.TrodAll enc Tryz.prog W 0 (fun _ => true) true ts vs ds ps → (∀ n ∈ DataW.weightsEach Tryz.prog ts ds, n ≤ reachBytes) →
    vs.length = ts.length ∧ ∀ (j : Nat) t v, ts[j]? = some t → vs[j]? = some v → Came W t v := by
  intro ts
  induction ts with
  | nil => intro vs ds ps h _; cases vs <;> cases ds <;> first | exact ⟨rfl, by simp⟩ | exact h.elim
  | cons t ts ih =>
    intro vs ds ps h hw
    cases vs with
    | nil => exact h.elim
    | cons v vs => cases ds with
      | nil => exact h.elim
      | cons d ds =>
        obtain ⟨p, q, ⟨fuel, h1⟩, h2, _⟩ := h
        simp only [DataW.weightsEach, List.mem_append] at hw
        obtain ⟨i1, i2⟩ := ih h2 (fun n hn => hw n (.inr hn))
        refine ⟨by simp [i1], fun j t' v' ht hv => ?_⟩
        cases j with
        | zero =>
          simp at ht hv
          subst ht; subst hv
          exact ⟨H, enc, fuel, (d, p), h1, fun n hn => hw n (.inl hn)⟩
        | succ j => exact i2 j t' v' (by simpa using ht) (by simpa using hv)

theorem law_lifted {os : Os} (started : os.Started) {fid : FuncId} {f : Func} {s : ChangeSpec} {dom : List PathCond} {b : TypeId} (hno : Tryz.checked.prog.inits.idxOf? fid = none) (hfn : Tryz.checked.prog.funcs[fid]? = some f)
    (hwit : ∃ (w : World) (tape : Tape) (i : Input), w.os = os ∧ (w.forCall tape i).Shaped Tryz.checked.prog ∧ i.vars = [] ∧ Input.okWide Tryz.checked.prog (w.forCall tape i) .any w.heap.size fid i ∧
      s.pre6 enc Tryz.checked.prog f dom false (w.forCall tape i).memory i.args ∧ ({} : Assume).holds Tryz.checked.prog (lone (Frame.enter Tryz.checked.prog fid i.args .normal) [] (w.forCall tape i)))
    (hv : s.vars = []) (hs : ∀ ds : List (DataW H), ds.length = f.params.toList.length → (s.fn H ds).results = [.lit (.bool true)] ∧ (s.fn H ds).args = ds ∧ (s.fn H ds).vars = [])
    (hts : f.params.toList.all (fun t => Tryz.prog.readableRec t && decide (t < Tryz.prog.types.size)) = true) (hr : f.resultTypes = #[b]) (hb : Tryz.prog.underlying b = some .bool)
    (hvt : s.plain.varTypes Tryz.checked.prog = [])
    (walk : ∀ (W : World) (base : Nat) (args : Array Value), args.toList.length = f.params.toList.length → (∀ (j : Nat) t v, f.params.toList[j]? = some t → args.toList[j]? = some v → Value.okWide Tryz.prog W .any base t v ∧ Came W t v) →
      Calls Tryz.prog fid args W fun e W' => e = .returned (.bool true) ∧ Ext [] W W') :
    ReturnsInHanded {} Tryz.checked os fid .any (s.pre6 enc Tryz.checked.prog f dom false) (s.post enc Tryz.checked.prog f false true false false) := by
  refine returnsInHanded_of_change_sized (C := Tryz.checked) law_own started hno hfn hwit ?_
  intro W base args ds gs before hval hW _ hsz _
  have hW' := hW
  have hlt := fun x hx => DataW.Whole.lt hW x hx
  obtain ⟨p, q, hA, hV, rfl, hfz, hnd⟩ := hW
  have hgs : gs = [] ∧ q = [] := by
    rw [hv] at hV
    cases gs with
    | nil => exact ⟨rfl, hV⟩
    | cons g gs => exact hV.elim
  obtain ⟨rfl, rfl⟩ := hgs
  rw [hvt, List.append_nil, List.append_nil] at hsz
  obtain ⟨c1, c2⟩ := came_all hA (fun n hn => by simpa using List.all_eq_true.1 hsz n hn)
  refine (walk W base args c1 (fun j t v ht hv' => ⟨hval j t v (by simpa using ht) (by simpa using hv'), c2 j t v ht hv'⟩)).mono fun e W' ⟨he, hg⟩ => ?_
  subst he
  have hlen : ds.length = f.params.toList.length := by
    have : ∀ {ts : List TypeId} {vs : List Value} {ds : List (DataW H)} {ps : List MemPlace}, DataW.TrodAll enc Tryz.prog W 0 (fun _ => true) true ts vs ds ps → ds.length = ts.length := by
      intro ts
      induction ts with
      | nil => intro vs ds ps h; cases vs <;> cases ds <;> first | rfl | exact h.elim
      | cons t ts ih =>
        intro vs ds ps h
        cases vs with
        | nil => exact h.elim
        | cons v vs => cases ds with
          | nil => exact h.elim
          | cons d ds =>
            obtain ⟨p, q, _, h2, _⟩ := h
            simp [ih h2]
    exact this hA
  obtain ⟨s1, s2, s3⟩ := hs (ds ++ []) (by simpa using hlen)
  refine ⟨_, rfl, ds, [], p ++ [], [], p, [], hW', ?_, ?_, ?_, (Ext.below hg).frame _, fun h => by cases h⟩
  · rw [s1, hr]
    exact trodAll_mk1 (shut_bool hb _)
  · rw [s2, List.append_nil]
    exact trodAll_keeps law_laid (Ext.below hg) hts hA (fun x hx => hlt x (by simpa using hx))
  · rw [s3, hv]
    rfl

/-! ### What came in, as cells -/
variable {P : Program} {w : World} {sp : Nat → Bool} {held : Bool}

theorem mapM_get {α β : Type} (f : α → Option β) : ∀ {l : List α} {r : List β}, l.mapM f = some r → ∀ x ∈ l, ∃ y, f x = some y := by
  intro l
  induction l with
  | nil => intro r _ x hx; cases hx
  | cons a l ih =>
    intro r h x hx
    rw [List.mapM_cons] at h
    simp only [bind, Option.bind_eq_some_iff, pure, Option.some.injEq] at h
    obtain ⟨y, hy, ys, hys, _⟩ := h
    rcases List.mem_cons.1 hx with rfl | hx
    · exact ⟨y, hy⟩
    · exact ih hys x hx

theorem mapM_range {α : Type} (f : Nat → Option α) {n : Nat} {r : List α} (h : (List.range n).mapM f = some r) : r.length = n ∧ ∀ i, i < n → ∃ x, f i = some x ∧ r[i]? = some x := by
  have gen : ∀ {l : List Nat} {r : List α}, l.mapM f = some r → r.length = l.length ∧ ∀ i, i < l.length → ∃ x, f (l.getD i 0) = some x ∧ r[i]? = some x := by
    intro l
    induction l with
    | nil => intro r h; simp at h; subst h; simp
    | cons a l ih =>
      intro r h
      rw [List.mapM_cons] at h
      simp only [bind, Option.bind_eq_some_iff, pure, Option.some.injEq] at h
      obtain ⟨y, hy, ys, hys, rfl⟩ := h
      obtain ⟨h1, h2⟩ := ih hys
      refine ⟨by simp [h1], fun i hi => ?_⟩
      cases i with
      | zero => exact ⟨y, by simpa using hy, rfl⟩
      | succ i => simpa using h2 i (by simpa using hi)
  obtain ⟨h1, h2⟩ := gen h
  rw [List.length_range] at h1
  refine ⟨h1, fun i hi => ?_⟩
  obtain ⟨x, hx, hr⟩ := h2 i (by simpa using hi)
  exact ⟨x, by simpa [List.getD_eq_getElem?_getD, hi] using hx, hr⟩

/-- Cells that are read one behind the other lie in one block. -/
theorem cells_blk {b o n : Nat} {sp : Option Nat} {cs : List Value} (h : w.cells? 0 ⟨b, o, sp⟩ n = some cs) (hn : 0 < n) :
    sp = none ∧ ∃ all t fz, w.heap[b]? = some (.cells all t fz) ∧ o + n ≤ all.size ∧ cs = (all.toList.drop o).take n := by
  unfold World.cells? at h
  rw [if_pos (Nat.zero_le _)] at h
  obtain ⟨hl, hg⟩ := mapM_range _ h
  obtain ⟨x0, hx0, _⟩ := hg 0 hn
  have hspot : sp = none := by
    unfold World.cell? at hx0
    split at hx0
    · split at hx0
      · cases hx0
      · rename_i hs
        simpa [Addr.add] using hs
    · cases hx0
  subst hspot
  refine ⟨rfl, ?_⟩
  have hc : ∀ i, i < n → ∃ all t fz, w.heap[b]? = some (.cells all t fz) ∧ ∃ x, all[o + i]? = some x ∧ cs[i]? = some x := by
    intro i hi
    obtain ⟨x, hx, hr⟩ := hg i hi
    rw [add_addr] at hx
    unfold World.cell? at hx
    split at hx
    · rename_i all t fz hb
      rw [if_neg (by simp)] at hx
      exact ⟨all, t, fz, hb, x, hx, hr⟩
    · cases hx
  obtain ⟨all, t, fz, hb, _⟩ := hc 0 hn
  have hc' : ∀ i, i < n → ∃ x, all[o + i]? = some x ∧ cs[i]? = some x := by
    intro i hi
    obtain ⟨all', t', fz', hb', h'⟩ := hc i hi
    rw [hb] at hb'
    simp only [Option.some.injEq, Obj.cells.injEq] at hb'
    obtain ⟨rfl, rfl, rfl⟩ := hb'
    exact h'
  have hsz : o + n ≤ all.size := by
    obtain ⟨x, hx, _⟩ := hc' (n - 1) (by omega)
    have := (Array.getElem?_eq_some_iff.1 hx).1
    omega
  refine ⟨all, t, fz, hb, hsz, ?_⟩
  apply List.ext_getElem?
  intro i
  by_cases hi : i < n
  · obtain ⟨x, hx, hr⟩ := hc' i hi
    rw [hr, List.getElem?_take, if_pos hi, List.getElem?_drop]
    simpa using hx.symm
  · rw [List.getElem?_eq_none (by omega), List.getElem?_take, if_neg hi]

/-- A slice that came in: its cells, and each element's own reading. -/
theorem trod_sl {t e : TypeId} {v : Value} {x : DataW H × List MemPlace} {fuel s : Nat} (hu : P.underlying t = some (.slice e)) (hs : P.cellsOf e = s) (hs0 : 0 < s) (h : DataW.trod enc P w 0 sp held fuel t [v] = some x) (hfit : fitsD P t x.1) :
    ∃ ys m, RdSl w v s ys m ∧ m * P.bytesOf e ≤ reachBytes ∧ ∀ i, i < m → ∃ y fuel', DataW.trod enc P w 0 sp held fuel' e ((ys.drop (i * s)).take s) = some y ∧ fitsD P e y.1 := by
  rcases DataW.trod_slice hu h with ⟨hc, _⟩ | ⟨a, len, cap, elems, rest, n, _, hc, hx, _, hl, hm, hlen, hel, _, _⟩
  · simp only [List.cons.injEq, and_true] at hc
    subst hc
    exact ⟨[], 0, ⟨by simp, .inl ⟨rfl, _, _, rfl⟩⟩, by rw [Nat.zero_mul]; exact Nat.zero_le _, fun i hi => absurd hi (Nat.not_lt_zero _)⟩
  · simp only [List.cons.injEq, and_true] at hc
    subst hc
    rw [hs] at hel
    rw [hx] at hfit
    obtain ⟨hf1, hf2⟩ := fits_slice hu hfit
    rw [List.length_map, List.length_map, hlen, Nat.add_mul] at hf1
    by_cases h0 : len = 0
    · subst h0
      exact ⟨[], 0, ⟨by simp, .inl ⟨rfl, _, _, rfl⟩⟩, by rw [Nat.zero_mul]; exact Nat.zero_le _, fun i hi => absurd hi (Nat.not_lt_zero _)⟩
    · have hget : ∀ i, i < len → ∃ cs y, w.cells? 0 (a.add (i * s)) s = some cs ∧ DataW.trod enc P w 0 sp held n e cs = some y ∧ fitsD P e y.1 := by
        intro i hi
        have := hel i hi
        rw [List.getElem?_eq_getElem (by omega), Option.bind_eq_some_iff] at this
        obtain ⟨cs, h1, h2⟩ := this
        exact ⟨cs, _, h1, h2, hf2 _ (List.mem_map_of_mem (List.getElem_mem _))⟩
      obtain ⟨b, o, spt⟩ := a
      obtain ⟨c0, y0, h1, h2⟩ := hget 0 (by omega)
      rw [Nat.zero_mul] at h1
      obtain ⟨rfl, all, ta, fz, hb, _, _⟩ := cells_blk (by simpa [Addr.add] using h1) hs0
      have hat : ∀ i, i < len → o + i * s + s ≤ all.size ∧ ∃ y, DataW.trod enc P w 0 sp held n e ((all.toList.drop (o + i * s)).take s) = some y ∧ fitsD P e y.1 := by
        intro i hi
        obtain ⟨cs, y, h1, h2⟩ := hget i hi
        rw [add_addr] at h1
        obtain ⟨_, all', ta', fz', hb', hle, rfl⟩ := cells_blk h1 hs0
        rw [hb] at hb'
        simp only [Option.some.injEq, Obj.cells.injEq] at hb'
        obtain ⟨rfl, rfl, rfl⟩ := hb'
        exact ⟨hle, y, h2⟩
      have hlast := (hat (len - 1) (by omega)).1
      have hmul : (len - 1) * s + s = len * s := by
        have : (len - 1) * s + 1 * s = (len - 1 + 1) * s := (Nat.add_mul _ _ _).symm
        rw [Nat.one_mul, Nat.sub_add_cancel (by omega)] at this
        exact this
      refine ⟨(all.toList.drop o).take (len * s), len, ⟨?_, .inr ⟨b, o, cap, all.toList, rfl, ⟨ta, fz, by simpa using hb⟩, rfl, by rw [Array.length_toList]; omega⟩⟩, by omega, fun i hi => ?_⟩
      · rw [List.length_take, List.length_drop, Array.length_toList]; omega
      · obtain ⟨_, y, hy⟩ := hat i hi
        refine ⟨y, n, ?_⟩
        have hi2 : i * s + s ≤ len * s := by
          have := Nat.mul_le_mul_right s (show i + 1 ≤ len from hi)
          rw [Nat.add_mul, Nat.one_mul] at this; exact this
        rw [List.drop_take, List.take_take, List.drop_drop, Nat.min_eq_left (by omega)]
        exact hy

theorem reach_eq : reachBytes = 140737488351232 := rfl

/-- Cells that read as bytes. -/
theorem cells_bytes : ∀ {cs : List Value}, (∀ y ∈ cs, ∃ n : Int, y = .int .u8 n ∧ (Lit.int .u8 n).wf = true) → ∃ l : Bytes, cs = bc l := by
  intro cs
  induction cs with
  | nil => intro _; exact ⟨[], rfl⟩
  | cons y r ih =>
    intro h
    obtain ⟨l, rfl⟩ := ih (fun z hz => h z (List.mem_cons_of_mem _ hz))
    obtain ⟨n, rfl, hn⟩ := h y List.mem_cons_self
    simp [Lit.wf] at hn
    have k1 : IntKind.u8.min = 0 := by decide
    have k2 : IntKind.u8.max = 255 := by decide
    rw [k1, k2] at hn
    refine ⟨UInt8.ofNat n.toNat :: l, ?_⟩
    simp only [bc, List.map_cons, List.cons.injEq, and_true, bv]
    congr 1
    have : (UInt8.ofNat n.toNat).toNat = n.toNat := by
      rw [UInt8.toNat_ofNat']
      omega
    rw [this]; omega

theorem mem_part {α : Type} {l : List α} {y : α} (h : y ∈ l) : ∃ i, i < l.length ∧ (l.drop i).take 1 = [y] := by
  obtain ⟨i, hi, rfl⟩ := List.mem_iff_getElem.1 h
  exact ⟨i, hi, by rw [← List.getElem_cons_drop hi]; rfl⟩

/-- Bytes that came in. -/
theorem trod_bytes {t e : TypeId} {v : Value} {x : DataW H × List MemPlace} {fuel : Nat} (hu : P.underlying t = some (.slice e)) (he : P.underlying e = some (.int .u8)) (hs : P.cellsOf e = 1) (hb : P.bytesOf e = 1) (h : DataW.trod enc P w 0 sp held fuel t [v] = some x) (hfit : fitsD P t x.1) :
    ∃ l : Bytes, RdSl w v 1 (bc l) l.length ∧ l.length ≤ 140737488351232 := by
  obtain ⟨ys, m, hrd, hm, hel⟩ := trod_sl hu hs (by decide) h hfit
  rw [hb, Nat.mul_one, reach_eq] at hm
  have hl := hrd.1
  rw [Nat.mul_one] at hl
  obtain ⟨l, rfl⟩ := cells_bytes (cs := ys) (by
    intro y hy
    obtain ⟨i, hi, hp⟩ := mem_part hy
    obtain ⟨z, f', hz, _⟩ := hel i (by omega)
    rw [Nat.mul_one, hp] at hz
    obtain ⟨n, h1, _, h2⟩ := DataW.trod_int he hz
    simp only [List.cons.injEq, and_true] at h1
    exact ⟨n, h1, h2⟩)
  rw [bc_length] at hl
  subst hl
  exact ⟨l, hrd, hm⟩

/-- An array of bytes that came in. -/
theorem trod_arr {t e : TypeId} {cs : List Value} {x : DataW H × List MemPlace} {fuel n : Nat} (hu : P.underlying t = some (.array n e)) (he : P.underlying e = some (.int .u8)) (hs : P.cellsOf e = 1) (hn : P.cellsOf t = n) (h : DataW.trod enc P w 0 sp held fuel t cs = some x) :
    ∃ l : Bytes, cs = bc l ∧ l.length = n := by
  cases fuel with
  | zero => simp [DataW.trod] at h
  | succ fuel =>
    unfold DataW.trod at h
    rw [hu] at h
    simp only [hn, hs, Nat.mul_one] at h
    split at h
    · rename_i hl
      rw [Option.map_eq_some_iff] at h
      obtain ⟨r, hr, _⟩ := h
      obtain ⟨_, hg⟩ := mapM_range _ hr
      obtain ⟨l, rfl⟩ := cells_bytes (cs := cs) (by
        intro y hy
        obtain ⟨i, hi, hp⟩ := mem_part hy
        obtain ⟨z, hz, _⟩ := hg i (by omega)
        rw [hp] at hz
        obtain ⟨n, h1, _, h2⟩ := DataW.trod_int he hz
        simp only [List.cons.injEq, and_true] at h1
        exact ⟨n, h1, h2⟩)
      exact ⟨l, rfl, by rw [← hl, bc_length]⟩
    · cases h
end

theorem open_sl {W : World} {base : Nat} {t e : TypeId} {v : Value} (hu : Tryz.prog.underlying t = some (.slice e)) (h : Value.okWide Tryz.prog W .any base t v) : v.cells.toList = [v] := by
  obtain ⟨a, n, c, rfl⟩ := okWide_slice hu h
  rfl
theorem open_i64 {W : World} {base : Nat} {v : Value} (h : Value.okWide Tryz.prog W .any base 3 v ∧ Came W 3 v) : ∃ n, v = .int .i64 n ∧ i64ok n := by
  obtain ⟨h1, H, enc, fuel, x, h2, h3⟩ := h
  obtain ⟨n, rfl, _, _, hw⟩ := open_int (by kernel_rfl : Tryz.prog.underlying 3 = some (.int .i64)) h1 ⟨fuel, h2⟩
  exact ⟨n, rfl, wf_i64 hw⟩
theorem law_ret {W : World} (e : Ending) (W' : World) (h : retK (fun v W' => v = .bool true ∧ Ext [] W W') e W') : e = .returned (.bool true) ∧ Ext [] W W' := by
  cases e <;> first | exact h.elim | (obtain ⟨rfl, h⟩ := h; exact ⟨rfl, h⟩)
theorem args3 {args : Array Value} (h : args.toList.length = 3) : ∃ a b c, args = #[a, b, c] := by
  obtain ⟨l⟩ := args
  match l, h with
  | [a, b, c], _ => exact ⟨a, b, c, rfl⟩
theorem args2 {args : Array Value} (h : args.toList.length = 2) : ∃ a b, args = #[a, b] := by
  obtain ⟨l⟩ := args
  match l, h with
  | [a, b], _ => exact ⟨a, b, rfl⟩
theorem args1 {args : Array Value} (h : args.toList.length = 1) : ∃ a, args = #[a] := by
  obtain ⟨l⟩ := args
  match l, h with
  | [a], _ => exact ⟨a, rfl⟩
theorem args4 {args : Array Value} (h : args.toList.length = 4) : ∃ a b c d, args = #[a, b, c, d] := by
  obtain ⟨l⟩ := args
  match l, h with
  | [a, b, c, d], _ => exact ⟨a, b, c, d, rfl⟩

section
variable {H : Type} {enc : TypeId × Value → H} {P : Program} {w : World} {sp : Nat → Bool} {held : Bool}

theorem trod_cap {t e : TypeId} {v : Value} {x : DataW H × List MemPlace} {fuel : Nat} (hu : P.underlying t = some (.slice e)) (h : DataW.trod enc P w 0 sp held fuel t [v] = some x) : capOk v := by
  rcases DataW.trod_slice hu h with ⟨hc, _⟩ | ⟨a, len, cap, elems, rest, n, _, hc, _, _, hl, _⟩
  · simp only [List.cons.injEq, and_true] at hc
    subst hc; rfl
  · simp only [List.cons.injEq, and_true] at hc
    subst hc; exact hl
theorem rows_of {ys : List Value} (h : ∀ y ∈ ys, ∃ l : Bytes, (RdSl w y 1 (bc l) l.length ∧ capOk y) ∧ l.length ≤ 140737488351232) : ∃ ls : List Bytes, RowsL w ys ls ∧ ∀ l ∈ ls, l.length ≤ 140737488351232 := by
  induction ys with
  | nil => exact ⟨[], trivial, by simp⟩
  | cons y r ih =>
    obtain ⟨ls, h1, h2⟩ := ih (fun z hz => h z (List.mem_cons_of_mem _ hz))
    obtain ⟨l, h3, h4⟩ := h y List.mem_cons_self
    exact ⟨l :: ls, ⟨h3, h1⟩, by
      intro x hx
      rcases List.mem_cons.1 hx with rfl | hx
      · exact h4
      · exact h2 x hx⟩
/-- Rows of bytes that came in. -/
theorem trod_rows {t e u : TypeId} {v : Value} {x : DataW H × List MemPlace} {fuel : Nat} (hu : P.underlying t = some (.slice e)) (hs : P.cellsOf e = 1) (hb : P.bytesOf e = 24) (he : P.underlying e = some (.slice u)) (hub : P.underlying u = some (.int .u8)) (hus : P.cellsOf u = 1) (huby : P.bytesOf u = 1)
    (h : DataW.trod enc P w 0 sp held fuel t [v] = some x) (hfit : fitsD P t x.1) : ∃ hs ls, RowsR w v hs ls ∧ capOk v ∧ ls.length ≤ 2 ^ 44 ∧ ∀ l ∈ ls, l.length ≤ 140737488351232 := by
  obtain ⟨ys, m, hrd, hm, hel⟩ := trod_sl hu hs (by decide) h hfit
  have hl := hrd.1
  rw [Nat.mul_one] at hl
  obtain ⟨ls, h1, h2⟩ := rows_of (w := w) (ys := ys) (by
    intro y hy
    obtain ⟨i, hi, hp⟩ := mem_part hy
    obtain ⟨z, f', hz, hf⟩ := hel i (by omega)
    rw [Nat.mul_one, hp] at hz
    obtain ⟨l, h3, h4⟩ := trod_bytes he hub hus huby hz hf
    exact ⟨l, ⟨h3, trod_cap he hz⟩, h4⟩)
  refine ⟨ys, ls, ⟨by rw [hl]; exact hrd, h1⟩, trod_cap hu h, ?_, h2⟩
  rw [hb, reach_eq] at hm
  have := h1.length
  omega

theorem cut_rows (s : Nat) : ∀ (m : Nat) (ys : List Value), ys.length = m * s → (∀ i, i < m → ∃ l : Bytes, (ys.drop (i * s)).take s = bc l ∧ l.length = s) → ∃ L : List Bytes, L.length = m ∧ ys = L.flatMap bc ∧ ∀ x ∈ L, x.length = s := by
  intro m
  induction m with
  | zero => intro ys h _; exact ⟨[], rfl, List.length_eq_zero_iff.1 (by rw [h, Nat.zero_mul]), by simp⟩
  | succ m ih =>
    intro ys h hel
    obtain ⟨l, h1, h2⟩ := hel 0 (by omega)
    rw [Nat.zero_mul, List.drop_zero] at h1
    obtain ⟨L, h3, h4, h5⟩ := ih (ys.drop s) (by rw [List.length_drop, h, Nat.add_mul, Nat.one_mul, Nat.add_sub_cancel]) (fun i hi => by
      obtain ⟨l, h6, h7⟩ := hel (i + 1) (by omega)
      refine ⟨l, ?_, h7⟩
      rw [List.drop_drop, ← h6, show s + i * s = (i + 1) * s by rw [Nat.add_mul, Nat.one_mul, Nat.add_comm]])
    refine ⟨l :: L, by rw [List.length_cons, h3], ?_, ?_⟩
    · rw [List.flatMap_cons, ← h1, ← h4, List.take_append_drop]
    · intro x hx
      rcases List.mem_cons.1 hx with rfl | hx
      · exact h2
      · exact h5 x hx
theorem trod_arrs {t e u : TypeId} {v : Value} {x : DataW H × List MemPlace} {fuel n : Nat} (hu : P.underlying t = some (.slice e)) (he : P.underlying e = some (.array n u)) (hn : 0 < n) (hub : P.underlying u = some (.int .u8)) (hus : P.cellsOf u = 1) (hes : P.cellsOf e = n) (hb : P.bytesOf e = n)
    (h : DataW.trod enc P w 0 sp held fuel t [v] = some x) (hfit : fitsD P t x.1) : ∃ l : List Bytes, RdSl w v n (l.flatMap bc) l.length ∧ (∀ x ∈ l, x.length = n) ∧ capOk v ∧ l.length ≤ 140737488351232 := by
  obtain ⟨ys, m, hrd, hm, hel⟩ := trod_sl hu hes hn h hfit
  obtain ⟨L, h1, h2, h3⟩ := cut_rows n m ys hrd.1 (fun i hi => by
    obtain ⟨z, f', hz, _⟩ := hel i hi
    exact trod_arr he hub hus hes hz)
  subst h2
  refine ⟨L, by rw [h1]; exact hrd, h3, trod_cap hu h, ?_⟩
  rw [hb, reach_eq] at hm
  have := Nat.le_mul_of_pos_right m hn
  omega

end

theorem open_bytesC {W : World} {base : Nat} {v : Value} (h : Value.okWide Tryz.prog W .any base 36 v ∧ Came W 36 v) : ∃ l : Bytes, (RdSl W v 1 (bc l) l.length ∧ capOk v) ∧ l.length ≤ 140737488351232 := by
  obtain ⟨h1, H, enc, fuel, x, h2, h3⟩ := h
  rw [open_sl und_u8s h1] at h2
  obtain ⟨l, h4, h5⟩ := trod_bytes und_u8s (by kernel_rfl) (by kernel_rfl) (by kernel_rfl) h2 h3
  exact ⟨l, ⟨h4, trod_cap und_u8s h2⟩, h5⟩
theorem open_rows {W : World} {base : Nat} {v : Value} (h : Value.okWide Tryz.prog W .any base 71 v ∧ Came W 71 v) : ∃ hs ls, RowsR W v hs ls ∧ capOk v ∧ ls.length ≤ 2 ^ 44 ∧ ∀ l ∈ ls, l.length ≤ 140737488351232 := by
  obtain ⟨h1, H, enc, fuel, x, h2, h3⟩ := h
  rw [open_sl und_rows h1] at h2
  exact trod_rows und_rows (by kernel_rfl) (by kernel_rfl) und_u8s (by kernel_rfl) (by kernel_rfl) (by kernel_rfl) h2 h3


theorem open_digest {W : World} {base : Nat} {v : Value} (h : Value.okWide Tryz.prog W .any base 34 v ∧ Came W 34 v) : ∃ l : Bytes, v = .agg (bc l).toArray ∧ l.length = 32 := by
  obtain ⟨h1, H, enc, fuel, x, h2, h3⟩ := h
  have hu : Tryz.prog.underlying 34 = some (.array 32 5) := by kernel_rfl
  unfold Value.okWide at h1
  rw [hu] at h1
  obtain ⟨cs, rfl, _, _⟩ := h1
  obtain ⟨l, h4, h5⟩ := trod_arr hu (by kernel_rfl) (by kernel_rfl) (by kernel_rfl) h2
  refine ⟨l, ?_, h5⟩
  have : cs.toList = bc l := h4
  rw [← this]
theorem open_digs {W : World} {base : Nat} {v : Value} (h : Value.okWide Tryz.prog W .any base 57 v ∧ Came W 57 v) : ∃ l : List Bytes, RdSl W v 32 (l.flatMap bc) l.length ∧ (∀ x ∈ l, x.length = 32) ∧ capOk v ∧ l.length ≤ 140737488351232 := by
  obtain ⟨h1, H, enc, fuel, x, h2, h3⟩ := h
  rw [open_sl (by kernel_rfl : Tryz.prog.underlying 57 = some (.slice 34)) h1] at h2
  exact trod_arrs (by kernel_rfl) (by kernel_rfl : Tryz.prog.underlying 34 = some (.array 32 5)) (by decide) (by kernel_rfl) (by kernel_rfl) (by kernel_rfl) (by kernel_rfl) h2 h3
theorem open_u8 {W : World} {base : Nat} {v : Value} (h : Value.okWide Tryz.prog W .any base 5 v ∧ Came W 5 v) : ∃ n : UInt8, v = bv n := by
  obtain ⟨h1, H, enc, fuel, x, h2, h3⟩ := h
  obtain ⟨n, rfl, _, _, hw⟩ := open_int (by kernel_rfl : Tryz.prog.underlying 5 = some (.int .u8)) h1 ⟨fuel, h2⟩
  simp [Lit.wf] at hw
  have k1 : IntKind.u8.min = 0 := by decide
  have k2 : IntKind.u8.max = 255 := by decide
  rw [k1, k2] at hw
  refine ⟨UInt8.ofNat n.toNat, ?_⟩
  unfold bv
  congr 1
  rw [UInt8.toNat_ofNat']
  omega
theorem open_text {W : World} {base : Nat} {v : Value} (h : Value.okWide Tryz.prog W .any base 9 v ∧ Came W 9 v) : ∃ l : Bytes, v = .string ⟨l.toArray⟩ := by
  obtain ⟨h1, H, enc, fuel, x, h2, h3⟩ := h
  obtain ⟨s, rfl, _⟩ := Go.ChangeMaps.open_string (by kernel_rfl : Tryz.prog.underlying 9 = some .string) h1 ⟨fuel, h2⟩
  exact ⟨s.data.toList, rfl⟩
theorem args5 {args : Array Value} (h : args.toList.length = 5) : ∃ a b c d e, args = #[a, b, c, d, e] := by
  obtain ⟨l⟩ := args
  match l, h with
  | [a, b, c, d, e], _ => exact ⟨a, b, c, d, e, rfl⟩
end Go.Proofs.YtedebapgmfnflaaGreatDoor
