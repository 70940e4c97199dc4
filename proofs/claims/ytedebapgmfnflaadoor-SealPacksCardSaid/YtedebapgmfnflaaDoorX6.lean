/- The law of packs: its walk. -/
import Derived.Test.YtedebapgmfnflaaDoorX5
namespace Go.Proofs.YtedebapgmfnflaaDoor
open Go
set_option maxRecDepth 100000

set_option maxHeartbeats 2000000 in
theorem packsLaw_walk {w : World} {K : VPost} {x y : Value} {r : Bytes} {ms : List Bytes} {g n q : Int} (hx : RdSl w x 1 (bc r) r.length) (hy : RdSl w y 64 (ms.flatMap bc) ms.length) (h64 : ∀ l ∈ ms, l.length = 64) (hK : ∀ w', Ext [] w w' → K (.bool true) w') :
    Calls Tryd.prog 3 #[.int .i64 g, .int .i64 n, x, y, .int .i64 q] w (retK K) := by
  rw [flatMap_bc] at hy
  refine c3_calls _ _ _ _ _ w K ?_
  unfold c3
  refine fnW_of (by kernel_rfl) (alive4_c fun w1 e1 => ?_)
  have s := ((Sep.zero1 (U := rKR y ms) hy).addR (T := rR x 1 (bc r) r.length) hx (by simp)).ext0 e1
  refine not_ti ?_
  refine cndF ?_
  rw [hx.lenw]
  refine ngtr (y := 2500) ?_
  by_cases hr : 2500 < r.length
  · rw [decide_eq_true hr]
    repeat with_reducible refine gs_tf ?_
    refine pick_ti ?_
    exact cndT (hK _ s.ext)
  rw [decide_eq_false hr]
  refine gs_f ?_
  refine gs_f ?_
  rw [hy.lenw]
  refine gs_f ?_
  refine ngtr (y := 20) ?_
  refine pick_fi ?_
  refine cond_d (fun _ => hK _ s.ext) (fun hm => ?_)
  refine fnW_of (by kernel_rfl) (copyBytes_c (s.rat 0 rfl) (by omega) fun vo w2 hvo e2 hfo => ?_)
  have s := s.add (T := rDb vo r) hvo.at e2 hfo
  refine fnW_of (by kernel_rfl) (pack_c (g := g) (n := n) (r := r) (OwnAt.rd (s.at 0 rfl)) (fun hbad w3 e3 => ?_) fun hok vl w3 hvl e3 hfl => ?_)
  · rw [extr0, extr1]
    have s := s.ext0 e3
    refine fnW_of (by kernel_rfl) (rpack_c (g := g) (n := n) (r := r) (s.rat 0 rfl) (fun _ w4 e4 => ?_) fun hok => absurd hok hbad)
    rw [extr0, extr1]
    have s := s.ext0 e4
    refine bool_neq und_boolB ?_
    rw [beq_self_eq_true, Bool.not_true]
    refine gs_f ?_
    refine gs_f ?_
    refine gs_f ?_
    refine fnW_of (by kernel_rfl) (sameK_c (ls := []) (ms := []) ⟨rfl, .inl ⟨rfl, _, _, rfl⟩⟩ ⟨rfl, .inl ⟨rfl, _, _, rfl⟩⟩ (by simp) (by simp) (by simp) fun w5 e5 => ?_)
    rw [decide_eq_true rfl]
    have s := s.ext0 e5
    refine gs_f ?_
    refine not_ti (b := true) ?_
    refine pick_fi ?_
    refine gs_f ?_
    refine gs_f ?_
    refine gs_f ?_
    refine fnW_of (by kernel_rfl) (sameBytes_c (OwnAt.rd (s.at 0 rfl)) (s.rat 0 rfl) (by omega) fun w6 e6 => ?_)
    rw [decide_eq_true rfl]
    have s := s.ext0 e6
    refine gs_f ?_
    refine not_ti (b := true) ?_
    refine pick_fi ?_
    refine gs_f ?_
    refine gs_f ?_
    refine fnW_of (by kernel_rfl) (need_c ?_)
    refine gs_f ?_
    refine gs_f ?_
    refine fnW_of (by kernel_rfl) (rneed_c ?_)
    refine gs_f ?_
    refine nneq ?_
    rw [decide_eq_false (by simp)]
    refine pick_fi ?_
    refine cndF ?_
    refine not_ti (b := false) ?_
    exact cndT (hK _ s.ext)
  · rw [extr0, extr1]
    have hpl := packB_length g.toNat n.toNat r
    have hp64 := packB_64 g.toNat n.toNat r
    have hnl := need_le r.length
    have hup : unpackI (packB g.toNat n.toNat r ++ ms) g n = some (r, needN r.length) := by
      obtain ⟨h1, h2, h3, h4, h5⟩ := hok
      obtain ⟨g', rfl⟩ : ∃ k : Nat, g = k := ⟨g.toNat, by omega⟩
      obtain ⟨n', rfl⟩ : ∃ k : Nat, n = k := ⟨n.toNat, by omega⟩
      rw [unpackI_nat (by omega) (by omega) (by omega), Int.toNat_natCast, Int.toNat_natCast]
      refine unpack_pack ?_ (by omega) (by omega) ms h64
      unfold needN at h1
      split at h1 <;> omega
    have s := s.add (T := rK vl (packB g.toNat n.toNat r)) hvl e3 hfl
    generalize hP : packB g.toNat n.toNat r = ls at *
    refine fnW_of (by kernel_rfl) (rpack_c (g := g) (n := n) (r := r) (s.rat 0 rfl) (fun hbad => absurd hok hbad) fun _ vm w4 hvm e4 hfm => ?_)
    rw [hP] at hvm
    rw [extr0, extr1]
    have s := s.add (T := rK vm ls) hvm e4 hfm
    have s : Sep [] w w4 [rK vm ls, rK vl ls, rDb vo r] [rR x 1 (bc r) r.length, rKR y ms] := s
    refine bool_neq und_boolB ?_
    rw [beq_self_eq_true, Bool.not_true]
    refine gs_f ?_
    refine gs_f ?_
    refine gs_f ?_
    refine fnW_of (by kernel_rfl) (sameK_c (OwnAt.rd (s.at 1 rfl)) (OwnAt.rd (s.at 0 rfl)) hp64 hp64 (by omega) fun w5 e5 => ?_)
    rw [decide_eq_true rfl]
    have s := s.ext0 e5
    refine gs_f ?_
    refine not_ti (b := true) ?_
    refine pick_fi ?_
    refine gs_f ?_
    refine gs_f ?_
    refine gs_f ?_
    refine fnW_of (by kernel_rfl) (sameBytes_c (OwnAt.rd (s.at 2 rfl)) (s.rat 0 rfl) (by omega) fun w6 e6 => ?_)
    rw [decide_eq_true rfl]
    have s := s.ext0 e6
    refine gs_f ?_
    refine not_ti (b := true) ?_
    refine pick_fi ?_
    refine gs_f ?_
    refine gs_f ?_
    refine fnW_of (by kernel_rfl) (need_c ?_)
    refine gs_f ?_
    refine gs_f ?_
    refine fnW_of (by kernel_rfl) (rneed_c ?_)
    refine gs_f ?_
    refine nneq ?_
    rw [decide_eq_false (by simp)]
    refine pick_fi ?_
    refine cndF ?_
    refine not_ti (b := true) ?_
    refine cndF ?_
    refine s.litKs (ls := []) (by simp) (by decide) rfl fun v7 w7 s => ?_
    refine s.apKs (ms := ls) 0 rfl (OwnAt.rd (s.at 2 rfl)) (by simp; omega) fun v8 w8 s => ?_
    have s : Sep [] w w8 [rK v8 ls, rK vm ls, rK vl ls, rDb vo r] [rR x 1 (bc r) r.length, rKR y ms] := s
    refine s.apKs (ms := ms) 0 rfl (s.rat 1 rfl) (by omega) fun v9 w9 s => ?_
    have s : Sep [] w w9 [rK v9 (ls ++ ms), rK vm ls, rK vl ls, rDb vo r] [rR x 1 (bc r) r.length, rKR y ms] := s
    have h64a : ∀ l ∈ ls ++ ms, l.length = 64 := by
      intro l hl
      rcases List.mem_append.1 hl with hl | hl
      · exact hp64 l hl
      · exact h64 l hl
    refine fnW_of (by kernel_rfl) (unpack_c (g := g) (n := n) (OwnAt.rd (s.at 0 rfl)) (OwnAt.cap (s.at 0 rfl)) h64a (by rw [List.length_append]; omega) (fun hno => by rw [hup] at hno; cases hno) fun r' k hu vr w10 hvr e10 hfr => ?_)
    rw [hup] at hu
    obtain ⟨rfl, rfl⟩ := Prod.mk.inj (Option.some.inj hu)
    have s := s.add (T := rDb vr r) hvr e10 hfr
    refine extr_i rfl ?_
    refine extr_i rfl ?_
    refine extr_i rfl ?_
    refine gs_t ?_
    refine gs_t ?_
    refine gs_t ?_
    rw [(OwnAt.rd (s.at 3 rfl)).lenw]
    refine gs_t ?_
    refine neql ?_
    rw [decide_eq_true hpl.symm]
    refine pick_ti ?_
    refine gs_t ?_
    refine gs_t ?_
    refine gs_t ?_
    refine fnW_of (by kernel_rfl) (sameBytes_c (OwnAt.rd (s.at 0 rfl)) (s.rat 0 rfl) (by omega) fun w11 e11 => ?_)
    rw [decide_eq_true rfl]
    have s := s.ext0 e11
    refine pick_ti ?_
    refine gs_t ?_
    refine gs_t ?_
    refine gs_t ?_
    rw [hx.lenw]
    refine gs_t ?_
    refine fnW_of (by kernel_rfl) (need_c ?_)
    rw [needI_nat]
    refine gs_t ?_
    refine neql ?_
    rw [decide_eq_true rfl]
    refine pick_ti ?_
    exact hK _ s.ext
end Go.Proofs.YtedebapgmfnflaaDoor
