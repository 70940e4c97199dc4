/- seal.Pack: its walk. Condition: the record is a slice of at most 2^30 bytes. -/
import Derived.Test.YtedebapgmfnflaaDoorV3
import Derived.Test.YtedebapgmfnflaaDoorH6
namespace Go.Proofs.YtedebapgmfnflaaDoor
open Go
set_option maxRecDepth 100000

theorem und_blks : Tryd.prog.underlying 23 = some (.slice 37) := by kernel_rfl
theorem ty_blk : tyI Tryd.prog 37 = some (.agg (Array.replicate 64 (Value.int .u8 0)), 64, 64) := by kernel_rfl
theorem zero_blks : zeroO Tryd.prog 23 = some (.slice none 0 0) := by kernel_rfl

/-- Sectors in hand. -/
abbrev rK (v : Value) (ls : List Bytes) : Res := rO v 37 64 (bc ls.flatten) ls.length

theorem flat64 {ls : List Bytes} (h : ∀ l ∈ ls, l.length = 64) : ls.flatten.length = 64 * ls.length := by
  induction ls with
  | nil => rfl
  | cons x r ih =>
    rw [List.flatten_cons, List.length_append, h x (by simp), ih (fun l hl => h l (by simp [hl])), List.length_cons]
    omega

/-- A sector more. -/
theorem Sep.apK {S : List Nat} {w0 w : World} {L R : List Res} {K : VPost} {v x : Value} {ls : List Bytes} {b : Bytes} (s : Sep S w0 w L R) (i : Nat) (hL : L[i]? = some (rK v ls)) (hx : RdSl w x 64 (bc b) 1) (hn : ls.length ≤ 10000000)
    (h : ∀ v' w', Sep S w0 w' (L.set i (rK v' (ls ++ [b]))) R → K v' w') : insW Tryd.prog (Builtin.append_ #[23, 23] 23 #[v, x]) w K := by
  obtain ⟨ti, hti, htz, hts, htb⟩ := tyI_spec ty_blk
  refine s.appendO (v := v) (n := ls.length) (m := 1) (ys := bc b) (xs := bc ls.flatten) i (by rw [hts]; exact hL) und_blks und_blks hti htz (by rw [hts]; rfl) (by rw [htb]; decide) (by rw [hts]; exact hx) (bc_one _) (by rw [htb]; omega) fun v' w' s => ?_
  have e : ls.length + 1 = (ls ++ [b]).length := by simp
  have e2 : ls.flatten ++ b = (ls ++ [b]).flatten := by simp
  rw [hts, ← bc_append, e, e2] at s
  exact h v' w' s
/-- A literal of one sector. -/
theorem Sep.litK {S : List Nat} {w0 w : World} {L R : List Res} {K : VPost} {b : Bytes} (s : Sep S w0 w L R) (hb : b.length = 64) (h : ∀ v' w', Sep S w0 w' (rO v' 37 64 (bc b) 1 :: L) R → K v' w') : insW Tryd.prog (Instr.buildSlice 23 1 #[(0, .agg (bc b).toArray)]) w K := by
  obtain ⟨ti, hti, htz, hts, htb⟩ := tyI_spec ty_blk
  refine s.lit (vs := [.agg (bc b).toArray]) und_blks hti htz rfl (by intro y hy; rw [List.mem_singleton] at hy; subst hy; rw [hts]; show (bc b).toArray.size = 64; rw [List.size_toArray, bc_length, hb]) (by rw [hts]; simp) fun t w1 s1 _ _ => h t w1 ?_
  have e : flatV [.agg (bc b).toArray] = bc b := by simp [flatV, Value.cells]
  rw [hts, e] at s1
  exact s1

def packOk (g n : Int) (k : Nat) : Prop := k ≠ 0 ∧ 1 ≤ g ∧ g ≤ 4294967295 ∧ 0 ≤ n ∧ n ≤ 4294967296 - k
/-- The sectors of parts in the order in which they came. -/
def outB (g n : Nat) (s : Bytes) (ks : List Nat) : List Bytes := (List.range ks.length).map fun i => secB g (n + i) (partB s (ks.getD i 0))
theorem outB_snoc (g n : Nat) (s : Bytes) (ks : List Nat) (k : Nat) : outB g n s (ks ++ [k]) = outB g n s ks ++ [secB g (n + ks.length) (partB s k)] := by
  unfold outB
  rw [List.length_append, List.length_singleton, List.range_succ, List.map_append]
  congr 1
  · refine List.map_congr_left fun i hi => ?_
    rw [List.mem_range] at hi
    rw [List.getD_eq_getElem?_getD, List.getD_eq_getElem?_getD, List.getElem?_append_left hi]
  · simp
theorem outB_length (g n : Nat) (s : Bytes) (ks : List Nat) : (outB g n s ks).length = ks.length := by simp [outB]
theorem outB_all (g n : Nat) (r : Bytes) : outB g n (sealB r) (List.range (needN r.length)) = packB g n r := by
  unfold outB packB
  rw [List.length_range]
  refine List.map_congr_left fun i hi => ?_
  rw [List.mem_range] at hi
  rw [List.getD_eq_getElem?_getD, List.getElem?_range hi]
  rfl

set_option maxHeartbeats 2000000 in
theorem pack_c {w : World} {K : VPost} {x : Value} {g n : Int} {r : Bytes} (h : RdSl w x 1 (bc r) r.length) (hno : ¬ packOk g n (needN r.length) → ∀ w', Ext [] w w' → K (.tuple #[.slice none 0 0, .bool false]) w')
    (hyes : packOk g n (needN r.length) → ∀ v w', OwnAt w' v 37 64 (bc (packB g.toNat n.toNat r).flatten) (packB g.toNat n.toNat r).length → Ext [] w w' → (∀ b ∈ slB v, w.heap.size ≤ b) → K (.tuple #[v, .bool true]) w') :
    Calls Tryd.prog 17 #[.int .i64 g, .int .i64 n, x] w (retK K) := by
  refine c17_calls _ _ _ w K ?_
  unfold c17
  refine (Sep.zero1 (U := rR x 1 (bc r) r.length) h).box fun b3 w1 s _ => ?_
  refine s.box fun b4 w2 s _ => ?_
  have s : Sep [] w w2 [rB b4 [.int .i64 n] 3, rB b3 [.int .i64 g] 3] [rR x 1 (bc r) r.length] := s
  rw [h.lenw]
  refine fnW_of (by kernel_rfl) (need_c ?_)
  rw [needI_nat]
  refine neql (y := 0) ?_
  by_cases h0 : needN r.length = 0
  · rw [decide_eq_true h0]
    iterate 4 ((repeat with_reducible refine gs_tf ?_); refine pick_ti ?_)
    exact cndT (hno (fun hp => hp.1 h0) _ s.ext)
  rw [decide_eq_false h0]
  refine gs_f ?_
  refine s.load1 1 rfl rfl ?_
  refine gs_f ?_
  rw [ilss]
  refine pick_fi ?_
  by_cases h1 : g < 1
  · rw [decide_eq_true h1]
    iterate 3 ((repeat with_reducible refine gs_tf ?_); refine pick_ti ?_)
    exact cndT (hno (fun hp => by have := hp.2.1; omega) _ s.ext)
  rw [decide_eq_false h1]
  refine gs_f ?_
  refine s.load1 1 rfl rfl ?_
  refine gs_f ?_
  rw [igtr]
  refine pick_fi ?_
  by_cases h2 : 4294967295 < g
  · rw [decide_eq_true h2]
    iterate 2 ((repeat with_reducible refine gs_tf ?_); refine pick_ti ?_)
    exact cndT (hno (fun hp => by have := hp.2.2.1; omega) _ s.ext)
  rw [decide_eq_false h2]
  refine gs_f ?_
  refine s.load1 0 rfl rfl ?_
  refine gs_f ?_
  rw [ilss]
  refine pick_fi ?_
  by_cases h3 : n < 0
  · rw [decide_eq_true h3]
    repeat with_reducible refine gs_tf ?_
    refine pick_ti ?_
    exact cndT (hno (fun hp => by have := hp.2.2.2.1; omega) _ s.ext)
  rw [decide_eq_false h3]
  have hk : needN r.length ≤ 45 ∧ r.length ≤ 2000 := by unfold needN at h0 ⊢; split at h0 <;> first | exact absurd rfl h0 | (split <;> omega)
  refine gs_f ?_
  refine s.load1 0 rfl rfl ?_
  refine gs_f ?_
  refine gs_f ?_
  refine isub (by omega) ?_
  refine gs_f ?_
  rw [igtr]
  refine pick_fi ?_
  by_cases h4 : (4294967296 : Int) - (needN r.length : Nat) < n
  · rw [decide_eq_true h4]
    exact cndT (hno (fun hp => by have := hp.2.2.2.2; omega) _ s.ext)
  rw [decide_eq_false h4]
  refine cndF ?_
  have hyes := hyes ⟨h0, by omega, by omega, by omega, by omega⟩
  clear hno
  obtain ⟨g, rfl⟩ : ∃ k : Nat, g = k := ⟨g.toNat, by omega⟩
  obtain ⟨n, rfl⟩ : ∃ k : Nat, n = k := ⟨n.toNat, by omega⟩
  simp only [Int.toNat_natCast] at hyes
  refine s.alloc zero_blks rfl fun b9 w3 s _ => ?_
  refine fnW_of (by kernel_rfl) (sealed_c (s.rat 0 rfl) (by omega) fun v5 w4 hv5 e5 hf5 => ?_)
  have s := s.add (T := rDb v5 (sealB r)) hv5 e5 hf5
  have hsl := sealB_length r
  have hall := outB_all g n r
  generalize sealB r = sb at *
  obtain ⟨a5, c5, ev5⟩ := hv5.rd.len
  refine fnW_of (by kernel_rfl) (chunk_c (by rw [ev5]; rfl) fun b1 b2 w5 e6 hb1 hb2 hf1 hf2 hne => ?_)
  have s := s.add2 (T := rB b2 [.int .i64 46] 3) (U := rB b1 [v5] 22) hb2 hb1 e6 (fun b hb => by simp [rB] at hb; omega) (fun b hb => by simp [rB] at hb; omega) (fun b hb hm => by simp [rB] at hb hm; omega)
  have s := s.add (T := rK (.slice none 0 0) []) (.inl ⟨rfl, rfl, rfl⟩) (Ext.refl _ _) (by simp [rO, slB])
  have s : Sep [] w w5 [rK (.slice none 0 0) [], rB b2 [.int .i64 46] 3, rB b1 [v5] 22, rDb v5 (sb), rB b9 [.slice none 0 0] 23, rB b4 [.int .i64 n] 3, rB b3 [.int .i64 g] 3] [rR x 1 (bc r) r.length] := s
  have hRlt : ∀ b ∈ (rR x 1 (bc r) r.length).foot, b < w5.heap.size := (rR x 1 (bc r) r.length).lt (s.rat 0 rfl)
  have hw5 := s.ext.size
  have hcl : ∀ (v : Value) (ls : List Bytes), ∀ T ∈ [rK v ls, rB b2 [.int .i64 46] 3, rB b1 [v5] 22, rDb v5 (sb), rB b9 [v] 23, rB b4 [.int .i64 n] 3, rB b3 [.int .i64 g] 3], T.cells ∨ ∀ b ∈ T.foot, b < w5.heap.size := by
    intro v ls T hT
    simp only [List.mem_cons, List.not_mem_nil, or_false] at hT
    rcases hT with rfl | rfl | rfl | rfl | rfl | rfl | rfl <;> first | exact .inl rB_cells | exact .inl rO_cells
  have hcr : ∀ T ∈ [rR x 1 (bc r) r.length], T.cells ∨ ∀ b ∈ T.foot, b < w5.heap.size := by
    intro T hT
    rw [List.mem_singleton] at hT
    subst hT
    exact .inr hRlt
  have hcn : chunkN sb.length = needN r.length := by unfold chunkN needN; rw [hsl, if_neg (by omega)]
  have hb1lt := (s.at 2 rfl : Blk w5 b1 [v5] 22).lt
  have hb2lt := (s.at 1 rfl : Blk w5 b2 [.int .i64 46] 3).lt
  have hseq := chunk_stops (w := w5) (m := sb.length) hv5.rd.len hv5.cap (by omega) (Blk.r (s.at 2 rfl)) (Blk.r (s.at 1 rfl))
  refine rangeH_i ?_ hseq ?_ ?_ ?_ ?_ (fun pre W => ∃ v, Sep [] w W [rK v (outB g n sb (pre.map (·.1))), rB b2 [.int .i64 46] 3, rB b1 [v5] 22, rDb v5 sb, rB b9 [v] 23, rB b4 [.int .i64 n] 3, rB b3 [.int .i64 g] 3] [rR x 1 (bc r) r.length]) ?_ ?_ ?_ ?_
  · kernel_rfl
  · exact fun A B C h k => ⟨k.1.trans h.1, k.2.trans h.2⟩
  · exact fun W => ⟨rfl, rfl⟩
  · exact fun W l o' hl => ⟨World.putObj_heap_other (by omega), World.putObj_heap_other (by omega)⟩
  · exact fun k => rfl
  · exact fun pre W W' ⟨v, s⟩ ht => ⟨v, s.turn ht hw5 (hcl v _) hcr⟩
  · have e0 : outB g n (sb) (([] : List (ChunkA sb.length)).map (·.1)) = [] := rfl
    rw [e0]
    exact ⟨_, s⟩
  · intro k W T hT
    refine hT _ fun pre W J ⟨v, s⟩ hlt hJ => ?_
    clear hT
    have hcl := hcl v (outB g n sb (pre.map (·.1)))
    have hpl : (outB g n sb (pre.map (·.1))).length = pre.length := by rw [outB_length, List.length_map]
    have hsn := outB_snoc g n sb (pre.map (·.1)) k.1
    rw [List.length_map] at hsn
    generalize outB g n sb (pre.map (·.1)) = out at *
    have hh := s.own
    obtain ⟨F, hF⟩ : ∃ F, [rK v out, rB b2 [.int .i64 46] 3, rB b1 [v5] 22, rDb v5 sb, rB b9 [v] 23, rB b4 [.int .i64 n] 3, rB b3 [.int .i64 g] 3].flatMap (·.foot) = F := ⟨_, rfl⟩
    have t : Sep F W W [rK v out, rB b2 [.int .i64 46] 3, rB b1 [v5] 22, rDb v5 sb, rB b9 [v] 23, rB b4 [.int .i64 n] 3, rB b3 [.int .i64 g] 3] [rR x 1 (bc r) r.length] := by rw [← hF]; exact s.restart
    have t := t.drew
    generalize W.drew = W1 at *
    refine t.load1 4 rfl rfl ?_
    refine t.load1 6 rfl rfl ?_
    refine t.load1 5 rfl rfl ?_
    refine t.load1 4 rfl rfl ?_
    rw [(OwnAt.rd (t.at 0 rfl)).lenw]
    refine nadd (by omega) ?_
    have hk := k.2
    have e1 : (sb.drop (46 * k.1)).take (min (46 * k.1 + 46) sb.length - 46 * k.1) = partB sb k.1 := by
      unfold partB
      rw [List.take_eq_take_iff, List.length_drop]
      omega
    have hpart := cutV_rd (OwnAt.rd (t.at 3 rfl)) (l := 46 * k.1) (h := min (46 * k.1 + 46) sb.length) (by omega) (by omega)
    rw [bc_part, e1] at hpart
    have e2 : (partB sb k.1).length = min (46 * k.1 + 46) sb.length - 46 * k.1 := by rw [partB, List.length_take, List.length_drop]; omega
    rw [← e2] at hpart
    have hsec : (secB g (n + out.length) (partB sb k.1)).length = 64 := secB_length _ _ (partB_le _ _)
    refine fnW_of (by kernel_rfl) (sector_c (n := n + out.length) (by omega) (by omega) hpart (cutV_cap hv5.rd.len hv5.cap (by omega) (by omega)) (partB_le _ _) fun W2 e => ?_)
    have t := t.ext0 e
    refine ⟨t.load1 4 rfl rfl ⟨rfl, rfl⟩, ?_⟩
    refine t.litK hsec fun v7 W3 t => ?_
    refine ⟨t.load1 5 rfl rfl ⟨rfl, rfl⟩, ?_⟩
    refine t.apK 1 rfl (OwnAt.rd (t.at 0 rfl)) (by omega) fun v8 W4 t => ?_
    obtain ⟨a8, c8, e8⟩ := (OwnAt.rd (t.at 1 rfl)).len
    refine t.store1 5 rfl (by rw [e8]; rfl) (by simp) (by rw [e8]; rfl) fun W5 t _ => ?_
    have t := t.drop 0
    rw [hpl, ← hsn] at t
    have t : Sep F W W5 [rK v8 (outB g n sb (pre.map (·.1) ++ [k.1])), rB b2 [.int .i64 46] 3, rB b1 [v5] 22, rDb v5 sb, rB b9 [v8] 23, rB b4 [.int .i64 n] 3, rB b3 [.int .i64 g] 3] [rR x 1 (bc r) r.length] := t
    rw [← hF] at t
    refine hJ _ _ (t.keepsFrom hh hcl) ⟨?_, ?_⟩ ⟨v8, ?_⟩
    · have h1 : Blk W5 b1 [v5] 22 := t.at 2 rfl
      have h2 : Blk W b1 [v5] 22 := s.at 2 rfl
      exact h1.trans h2.symm
    · have h1 : Blk W5 b2 [.int .i64 46] 3 := t.at 1 rfl
      have h2 : Blk W b2 [.int .i64 46] 3 := s.at 1 rfl
      exact h1.trans h2.symm
    · rw [List.map_append]
      exact s.behind t
  · rintro D xs W hB hS ⟨v, s⟩ hD
    refine s.load1 4 rfl rfl ?_
    refine ⟨hD, fun W' hW' => ?_⟩
    subst hW'
    have s := s.turn (turn_end (o' := .deferred none) hD rfl hB) hw5 (hcl v _) hcr
    rw [hS, hcn, hall] at s
    exact hyes v _ (s.at 0 rfl) s.ext (s.fresh 0 rfl)
end Go.Proofs.YtedebapgmfnflaaDoor
