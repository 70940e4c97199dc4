/- The law of changed sectors: its walk. -/
import Derived.Test.YtedebapgmfnflaaDoorW1
namespace Go.Proofs.YtedebapgmfnflaaDoor
open Go
set_option maxRecDepth 100000

theorem modify_ne {ls : List Bytes} {j p : Nat} {y : UInt8} (hj : j < ls.length) (hp : p < ls[j].length) (hy : y ≠ ls[j].getD p 0) : (ls.modify j fun b => b.set p y) ≠ ls := by
  intro e
  have h1 : (ls.modify j fun b => b.set p y)[j]? = ls[j]? := by rw [e]
  rw [List.getElem?_modify_eq, List.getElem?_eq_getElem hj] at h1
  have h2 : ls[j].set p y = ls[j] := Option.some.inj h1
  have h3 : (ls[j].set p y)[p]? = (ls[j])[p]? := by rw [h2]
  rw [List.getElem?_set_self hp, List.getElem?_eq_getElem hp] at h3
  apply hy
  rw [List.getD_eq_getElem?_getD, List.getElem?_eq_getElem hp]
  exact Option.some.inj h3

set_option maxHeartbeats 2000000 in
theorem changedLaw_walk {w : World} {K : VPost} {x : Value} {r : Bytes} {g n a p b : Int} (h : RdSl w x 1 (bc r) r.length) (hK : ∀ w', Ext [] w w' → K (.bool true) w') :
    Calls Tryd.prog 6 #[.int .i64 g, .int .i64 n, x, .int .i64 a, .int .i64 p, .int .i64 b] w (retK K) := by
  refine c6_calls _ _ _ _ _ _ w K ?_
  unfold c6
  refine fnW_of (by kernel_rfl) (alive4_c fun w1 e => ?_)
  have s := (Sep.zero1 (U := rR x 1 (bc r) r.length) h).ext0 e
  refine not_ti ?_
  refine cndF ?_
  refine fnW_of (by kernel_rfl) (pack_c (g := g) (n := n) (r := r) (s.rat 0 rfl) (fun _ w2 e2 => ?_) fun hok v w2 hv e2 hf => ?_)
  · rw [extr0, extr1]
    refine not_ti (b := false) ?_
    rw [Bool.not_false]
    repeat with_reducible refine gs_tf ?_
    refine pick_ti ?_
    exact cndT (hK _ (s.ext0 e2).ext)
  obtain ⟨h1, h2, h3, h4, h5⟩ := hok
  have s := s.add (T := rK v (packB g.toNat n.toNat r)) hv e2 hf
  rw [extr0, extr1]
  refine not_ti (b := true) ?_
  refine gs_f ?_
  refine gs_f ?_
  refine iand 8 (by decide) ?_
  refine gs_f ?_
  rw [ieql]
  refine pick_fi ?_
  refine cond_d (fun _ => hK _ s.ext) (fun hb0 => ?_)
  have hk : needN r.length ≤ 45 := by unfold needN at h1 ⊢; split at h1 <;> first | exact absurd rfl h1 | (split <;> omega)
  obtain ⟨g, rfl⟩ : ∃ k : Nat, g = k := ⟨g.toNat, by omega⟩
  obtain ⟨n, rfl⟩ : ∃ k : Nat, n = k := ⟨n.toNat, by omega⟩
  rw [Int.toNat_natCast, Int.toNat_natCast] at s
  have h64 := packB_64 g n r
  have hpl := packB_length g n r
  generalize hP : packB g n r = ls at *
  refine iand 10 (by decide) ?_
  rw [(OwnAt.rd (s.at 0 rfl)).lenw, hpl]
  obtain ⟨a', ha⟩ : ∃ k : Nat, a % 2 ^ 10 = k := ⟨(a % 2 ^ 10).toNat, by omega⟩
  rw [ha]
  refine nrem (by omega) ?_
  have hj : a' % needN r.length < ls.length := by rw [hpl]; exact Nat.mod_lt _ (by omega)
  generalize a' % needN r.length = j at *
  have s := s.drew
  generalize w2.drew = w3 at *
  refine iand 6 (by decide) ?_
  obtain ⟨p', hp, hp64⟩ : ∃ k : Nat, p % 2 ^ 6 = k ∧ k < 64 := ⟨(p % 2 ^ 6).toNat, by omega, by omega⟩
  rw [hp]
  obtain ⟨b1, o1, o2, i1, i2, l1, st⟩ := s.secByte 0 rfl h64 hj hp64 .i64 .i64
  refine i1 _ ?_
  refine i2 _ _ ?_
  refine l1 _ ?_
  rw [convN_i und_int und_u8, wrap_ub]
  refine u8_xor ?_
  refine i1 _ ?_
  refine i2 _ _ ?_
  refine st _ _ _ fun w4 s => ?_
  have hub := ub_ne (b := b) (by simpa using hb0)
  have hne := modify_ne (y := (ls[j]).getD p' 0 ^^^ ub b) hj (by rw [h64 _ (List.getElem_mem hj)]; exact hp64) (xor_ne hub)
  have h64' : ∀ l ∈ (ls.modify j fun b' => b'.set p' ((ls[j]).getD p' 0 ^^^ ub b)), l.length = 64 := by
    intro l hl
    obtain ⟨i, hi, rfl⟩ := List.getElem_of_mem hl
    rw [List.getElem_modify]
    split
    · rw [List.length_set]; exact h64 _ (List.getElem_mem _)
    · exact h64 _ (List.getElem_mem _)
  have hll : (ls.modify j fun b' => b'.set p' ((ls[j]).getD p' 0 ^^^ ub b)).length = ls.length := List.length_modify ..
  generalize (ls.modify j fun b' => b'.set p' ((ls[j]).getD p' 0 ^^^ ub b)) = ls' at *
  have s : Sep [] w w4 [rK v ls'] [rR x 1 (bc r) r.length] := s
  refine fnW_of (by kernel_rfl) (unpack_c (g := g) (n := n) (ls := ls') (OwnAt.rd (s.at 0 rfl)) (OwnAt.cap (s.at 0 rfl)) h64' (by omega) (fun _ w5 e5 => ?_) fun r' k hu v5 w5 hv5 e5 hf5 => ?_)
  · refine extr_i rfl ?_
    refine extr_i rfl ?_
    refine extr_i rfl ?_
    refine not_ti (b := false) ?_
    rw [Bool.not_false]
    repeat with_reducible refine gs_tf ?_
    refine pick_ti ?_
    exact hK _ (s.ext0 e5).ext
  · rw [unpackI_nat (by omega) (by omega) (by omega)] at hu
    have hr := changed_other h64' (by omega) (by rw [hll, hpl]) (by rw [hP]; exact hne) r' k hu
    have s := s.add (T := rDb v5 r') hv5 e5 hf5
    refine extr_i rfl ?_
    refine extr_i rfl ?_
    refine extr_i rfl ?_
    refine not_ti (b := true) ?_
    refine gs_f ?_
    refine gs_f ?_
    refine gs_f ?_
    have hlr : r'.length ≤ 2000 := by
      have := (unpack_iff h64' (by omega) r' k).1 hu
      exact this.1.1.1
    refine fnW_of (by kernel_rfl) (sameBytes_c (OwnAt.rd (s.at 0 rfl)) (s.rat 0 rfl) (by omega) fun w6 e6 => ?_)
    rw [decide_eq_false hr]
    refine gs_f ?_
    refine not_ti (b := false) ?_
    refine pick_fi ?_
    exact hK _ (s.ext0 e6).ext
end Go.Proofs.YtedebapgmfnflaaDoor
