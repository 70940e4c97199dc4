/- The laws of tags, what they begin with: its walk. -/
import Derived.Test.YtedebapgmfnflaaQ3
import Derived.Test.YtedebapgmfnflaaK8
import Derived.Test.YtedebapgmfnflaaCW
namespace Go.Proofs.Ytedebapgmfnflaa
open Go
set_option maxRecDepth 100000

theorem set_ne : digest (1 :: frameB [1 :: List.replicate 31 0]) ≠ digest (1 :: frameB [2 :: List.replicate 31 0]) := by decide +kernel
theorem rise_one (a : Bytes) : rise [a] := by simp [rise]
theorem node3 : digest (3 :: frameB []) = digest [3, 0, 0, 0, 0] := rfl

set_option maxHeartbeats 4000000 in
theorem alive2_c {w : World} {K : VPost} (hK : ∀ w', Ext [] w w' → K (.bool true) w') : Calls Try.prog 53 #[] w (retK K) := by
  refine c53_calls w K ?_
  unfold c53
  refine build_dig (out := 1 :: 255 :: List.replicate 30 0) rfl ?_
  have hl1 : (1 :: 255 :: List.replicate 30 0 : Bytes).length = 32 := rfl
  have hsh : (hexB (1 :: 255 :: List.replicate 30 0)).take 8 = [48, 49, 102, 102, 48, 48, 48, 48] := by decide +kernel
  generalize (1 :: 255 :: List.replicate 30 0 : Bytes) = d1 at *
  refine (Sep.nil w).alloc zero_dig cells_dig fun b1 w1 s _ => ?_
  refine s.storeAll 0 rfl (by rw [bc_length]; exact hl1) (by simp [bc]) (bc_one _) fun w2 s _ => ?_
  have s : Sep [] w w2 [rB b1 (bc d1) 62] [] := s
  refine s.loadAll 0 rfl (by rw [bc_length]; exact hl1) ?_
  refine fnW_of (by kernel_rfl) (hex_c hl1 fun w3 e => ?_)
  have s := s.ext0 e
  refine fnW_of (by kernel_rfl) (fromHex_c fun w4 e => ?_)
  have s := s.ext0 e
  rw [fromHex_hexB hl1, extr0, extr1]
  refine s.alloc zero_dig cells_dig fun b2 w5 s _ => ?_
  refine s.storeAll 0 rfl (by rw [bc_length]; exact hl1) (by simp [bc]) (bc_one _) fun w6 s _ => ?_
  have s : Sep [] w w6 [rB b2 (bc d1) 62, rB b1 (bc d1) 62] [] := s
  refine s.litB [97, 98] rfl (by simp) fun r w7 s _ _ => ?_
  have hr : OwnAt w7 r 5 1 (bc [97, 98]) 2 := s.at 0 rfl
  obtain ⟨ra, rc, rfl⟩ := hr.rd.len
  refine s.litR fun v w8 s => ?_
  have hrows : RowsR w8 v [.slice ra 2 rc] [[97, 98]] := ⟨(OwnAt.rd (s.at 0 rfl) : RdSl w8 v 1 [.slice ra 2 rc] 1), ⟨OwnAt.rd (s.at 1 rfl), OwnAt.cap (s.at 1 rfl)⟩, trivial⟩
  refine fnW_of (by kernel_rfl) (frame_c hrows (by decide) fun f w9 hf e hff => ?_)
  have s := s.add (T := rDb f (frameB [[97, 98]])) hf e hff
  have hfu : frameB [[97, 98]] = [1, 0, 0, 0, 2, 0, 0, 0, 97, 98] := rfl
  refine fnW_of (by kernel_rfl) (unframe_c hf.rd hf.cap (by decide) (fun hno => ?_) (fun ls hls l hs w10 Q s2 hhs => ?_))
  · rw [unframe_frame (by decide)] at hno
    cases hno
  rw [unframe_frame (by decide)] at hls
  obtain rfl := Option.some.inj hls
  have hl : OwnAt w10 l 34 1 hs 1 := s2.at 1 rfl
  obtain ⟨la, lc, rfl⟩ := hl.rd.len
  have s := s.ext0 s2.ext
  rw [extr0, extr1]
  refine build_dig (out := 1 :: List.replicate 31 0) rfl ?_
  have hne := set_ne
  have hcmp : Lib.compareBytes (1 :: List.replicate 31 0) (2 :: List.replicate 31 0) = -1 := by decide +kernel
  have hla : (1 :: List.replicate 31 0 : Bytes).length = 32 := rfl
  have hlb : (2 :: List.replicate 31 0 : Bytes).length = 32 := rfl
  generalize (1 :: List.replicate 31 0 : Bytes) = da at *
  refine s.alloc zero_dig cells_dig fun b7 w11 s _ => ?_
  refine s.storeAll 0 rfl (by rw [bc_length]; exact hla) (by simp [bc]) (bc_one _) fun w12 s _ => ?_
  refine build_dig (out := 2 :: List.replicate 31 0) rfl ?_
  generalize (2 :: List.replicate 31 0 : Bytes) = db at *
  refine s.alloc zero_dig cells_dig fun b8 w13 s _ => ?_
  refine s.storeAll 0 rfl (by rw [bc_length]; exact hlb) (by simp [bc]) (bc_one _) fun w14 s _ => ?_
  have s : Sep [] w w14 [rB b8 (bc db) 62, rB b7 (bc da) 62, rDb f (frameB [[97, 98]]), rO v 34 1 [.slice ra 2 rc] 1, rDb (.slice ra 2 rc) [97, 98], rB b2 (bc d1) 62, rB b1 (bc d1) 62] [] := s
  have s := s.drew
  have hab : da < db := (cmp_lt da db).1 (by rw [hcmp]; decide)
  have hs3 : sortD [db, da, db] = [da, db] := sortD_of (by simp [rise, hab]) (fun x => by
    simp only [List.mem_cons, List.not_mem_nil, or_false]
    constructor
    · rintro (h | h) <;> simp [h]
    · rintro (h | h | h) <;> simp [h])
  have hs2 : sortD [da, db] = [da, db] := sortD_self (by simp [rise, hab])
  have hsa : sortD [da] = [da] := sortD_self (rise_one da)
  have hsb : sortD [db] = [db] := sortD_self (rise_one db)
  have h2 : ∀ d ∈ [da, db], d.length = 32 := by simp [hla, hlb]
  have h3 : ∀ d ∈ [db, da, db], d.length = 32 := by simp [hla, hlb]
  have h1a : ∀ d ∈ [da], d.length = 32 := by simp [hla]
  have h1b : ∀ d ∈ [db], d.length = 32 := by simp [hlb]
  have hbl : ∀ {d : Bytes}, d.length = 32 → (bc d).length = 32 := fun h => by rw [bc_length]; exact h
  generalize w14.drew = w15 at *
  repeat with_reducible refine gs_t ?_
  refine pick_ti ?_
  repeat with_reducible refine gs_t ?_
  refine s.loadM (b := b2) (cs := bc d1) (t := 62) (by simp) (hbl hl1) ?_
  repeat with_reducible refine gs_t ?_
  refine s.loadM (b := b1) (cs := bc d1) (t := 62) (by simp) (hbl hl1) ?_
  repeat with_reducible refine gs_t ?_
  refine dig_eql hl1 hl1 ⟨rfl, ?_⟩
  rw [decide_eq_true rfl]
  refine pick_ti ?_
  repeat with_reducible refine gs_t ?_
  rw [len_s]
  repeat with_reducible refine gs_t ?_
  refine neql (y := 1) ?_
  rw [decide_eq_true rfl]
  refine pick_ti ?_
  repeat with_reducible refine gs_t ?_
  refine s.litB [1, 0, 0, 0, 2, 0, 0, 0, 97, 98] rfl (by simp) fun x w16 s _ _ => ?_
  repeat with_reducible refine gs_t ?_
  refine fnW_of (by kernel_rfl) (sameBytes_c (l := frameB [[97, 98]]) (OwnAt.rd (s.own (rDb f (frameB [[97, 98]])) (by simp))) (OwnAt.rd (s.at 0 rfl)) (by decide) fun w17 e => ?_)
  have s := s.ext0 e
  rw [decide_eq_true hfu]
  refine pick_ti ?_
  repeat with_reducible refine gs_t ?_
  refine s.loadM (b := b7) (cs := bc da) (t := 62) (by simp) (hbl hla) ?_
  repeat with_reducible refine gs_t ?_
  refine s.loadM (b := b8) (cs := bc db) (t := 62) (by simp) (hbl hlb) ?_
  repeat with_reducible refine gs_t ?_
  refine fnW_of (by kernel_rfl) (compare_c hla hlb fun w18 e => ?_)
  have s := s.ext0 e
  rw [hcmp]
  repeat with_reducible refine gs_t ?_
  rw [ieql, decide_eq_true rfl]
  refine pick_ti ?_
  repeat with_reducible refine gs_t ?_
  refine s.loadM (b := b7) (cs := bc da) (t := 62) (by simp) (hbl hla) ?_
  repeat with_reducible refine gs_t ?_
  refine s.loadM (b := b8) (cs := bc db) (t := 62) (by simp) (hbl hlb) ?_
  repeat with_reducible refine gs_t ?_
  refine s.loadM (b := b8) (cs := bc db) (t := 62) (by simp) (hbl hlb) ?_
  repeat with_reducible refine gs_t ?_
  refine s.loadM (b := b7) (cs := bc da) (t := 62) (by simp) (hbl hla) ?_
  repeat with_reducible refine gs_t ?_
  refine s.loadM (b := b8) (cs := bc db) (t := 62) (by simp) (hbl hlb) ?_
  refine bindV_i fun J hJ => ?_
  have rest : ∀ (t54 t55 t59 : Value) (w' : World) (L' : List Res), Sep [] w w' L' [] → (rB b8 (bc db) 62 ∈ L' ∧ rB b7 (bc da) 62 ∈ L' ∧ rB b1 (bc d1) 62 ∈ L') → t55 = .agg (bc (digest (1 :: frameB [da, db]))).toArray → rO t59 62 32 (fl [db, da, db]) 3 ∈ L' → J t54 t55 t59 w' := by
    intro t54 t55 t59 w16 L s ⟨m8, m7, m1⟩ h55 h59
    subst hJ h55
    repeat with_reducible refine gs_t ?_
    refine fnW_of (by kernel_rfl) (set_c (kind := 1) (ds := [db, da, db]) (OwnAt.rd (s.own (rO _ 62 32 (fl [db, da, db]) 3) h59)) h3 (by simp) fun w17 e => ?_)
    have s := s.ext0 e
    rw [hs3]
    repeat with_reducible refine gs_t ?_
    refine dig_eql (digest_length _) (digest_length _) ⟨rfl, ?_⟩
    rw [decide_eq_true rfl]
    refine pick_ti ?_
    repeat with_reducible refine gs_t ?_
    refine s.loadM (b := b7) (cs := bc da) (t := 62) m7 (hbl hla) ?_
    repeat with_reducible refine gs_t ?_
    refine s.loadM (b := b8) (cs := bc db) (t := 62) m8 (hbl hlb) ?_
    refine bindV_i fun J hJ => ?_
    have rest2 : ∀ (t65 t66 t68 : Value) (w' : World) (L' : List Res), Sep [] w w' L' [] → (rB b8 (bc db) 62 ∈ L' ∧ rB b7 (bc da) 62 ∈ L' ∧ rB b1 (bc d1) 62 ∈ L') → t66 = .agg (bc (digest (1 :: frameB [da]))).toArray → rO t68 62 32 (fl [db]) 1 ∈ L' → J t65 t66 t68 w' := by
      intro t65 t66 t68 w18 L s ⟨m8, m7, m1⟩ h66 h68
      subst hJ h66
      repeat with_reducible refine gs_t ?_
      refine fnW_of (by kernel_rfl) (set_c (kind := 1) (ds := [db]) (OwnAt.rd (s.own (rO _ 62 32 (fl [db]) 1) h68)) h1b (by simp) fun w19 e => ?_)
      have s := s.ext0 e
      rw [hsb]
      repeat with_reducible refine gs_t ?_
      refine dig_neq (digest_length _) (digest_length _) ⟨rfl, ?_⟩
      rw [decide_eq_false hne, Bool.not_false]
      refine pick_ti ?_
      repeat with_reducible refine gs_t ?_
      refine s.loadM (b := b1) (cs := bc d1) (t := 62) m1 (hbl hl1) ?_
      repeat with_reducible refine gs_t ?_
      refine fnW_of (by kernel_rfl) (short_c hl1 fun w20 e => ?_)
      have s := s.ext0 e
      repeat with_reducible refine gs_t ?_
      rw [hsh]
      refine str_eql (a := [48, 49, 102, 102, 48, 48, 48, 48]) (b := [48, 49, 102, 102, 48, 48, 48, 48]) ⟨rfl, ?_⟩
      rw [decide_eq_true rfl]
      refine pick_ti ?_
      repeat with_reducible refine gs_t ?_
      refine s.loadM (b := b8) (cs := bc db) (t := 62) m8 (hbl hlb) ?_
      repeat with_reducible refine gs_t ?_
      refine s.loadM (b := b7) (cs := bc da) (t := 62) m7 (hbl hla) ?_
      repeat with_reducible refine gs_t ?_
      refine s.loadM (b := b8) (cs := bc db) (t := 62) m8 (hbl hlb) ?_
      repeat with_reducible refine gs_t ?_
      refine s.litD [db, da, db] rfl h3 (by simp) fun t w21 s => ?_
      repeat with_reducible refine gs_t ?_
      refine fnW_of (by kernel_rfl) (sort_c (ds := [db, da, db]) (OwnAt.rd (s.at 0 rfl)) h3 (by simp) fun v2 w22 hv2 e _ => ?_)
      have s := s.ext0 e
      rw [hs3] at hv2
      obtain ⟨va, vc, rfl⟩ := hv2.rd.len
      repeat with_reducible refine gs_t ?_
      rw [len_s]
      repeat with_reducible refine gs_t ?_
      refine neql (y := 2) ?_
      rw [decide_eq_true (show [da, db].length = 2 from rfl)]
      refine pick_ti ?_
      refine bindV_i fun J hJ => ?_
      have rest3 : ∀ (t87 t88 t90 : Value) (ra : Option Addr) (rc : Nat) (w' : World) (L' : List Res), Sep [] w w' L' [] → t88 = .agg (bc (digest (3 :: frameB [[97, 98]]))).toArray → rO t90 34 1 [.slice ra 2 rc] 1 ∈ L' → rO (.slice ra 2 rc) 5 1 (bc [97, 98]) 2 ∈ L' → J t87 t88 (.slice ra 2 rc) t90 w' := by
        intro t87 t88 t90 ra rc w23 L s h88 h90 h89
        subst hJ h88
        have hrows : RowsR w23 t90 [.slice ra 2 rc] [[97, 98]] := ⟨(OwnAt.rd (s.own _ h90) : RdSl w23 t90 1 [.slice ra 2 rc] 1), ⟨OwnAt.rd (s.own _ h89), OwnAt.cap (s.own _ h89)⟩, trivial⟩
        repeat with_reducible refine gs_t ?_
        refine fnW_of (by kernel_rfl) (node_c (kind := 3) hrows (by decide) fun w24 e => ?_)
        have s := s.ext0 e
        repeat with_reducible refine gs_t ?_
        refine dig_eql (digest_length _) (digest_length _) ⟨rfl, ?_⟩
        rw [decide_eq_true rfl]
        refine pick_ti ?_
        refine bindV_i fun J hJ => ?_
        have rest4 : ∀ (t95 t96 : Value) (w' : World) (L' : List Res), Sep [] w w' L' [] → t95 = .agg (bc (digest (3 :: frameB []))).toArray → rO t96 5 1 (bc [3, 0, 0, 0, 0]) 5 ∈ L' → J t95 t96 w' := by
          intro t95 t96 w25 L s h95 h96
          subst hJ h95
          repeat with_reducible refine gs_t ?_
          refine fnW_of (by kernel_rfl) (sum_c (b := [3, 0, 0, 0, 0]) (OwnAt.rd (s.own _ h96)) (OwnAt.cap (s.own _ h96)) (by simp) fun w26 e => ?_)
          have s := s.ext0 e
          repeat with_reducible refine gs_t ?_
          refine dig_eql (digest_length _) (digest_length _) ⟨rfl, ?_⟩
          rw [decide_eq_true node3]
          refine pick_ti ?_
          exact hK _ s.ext
        have hnil : ∀ w, RowsR w (.slice none 0 0) [] [] := fun w => ⟨⟨rfl, .inl ⟨rfl, _, _, rfl⟩⟩, trivial⟩
        repeat' first
          | with_reducible refine And.intro ?_ ?_
          | with_reducible refine gs_t ?_
          | ((with_reducible show J _ _ _); exact rest4 _ _ _ _ s rfl (by simp))
          | ((with_reducible show insW Try.prog (Instr.buildSlice 34 5 _) _ _); refine s.litB [3, 0, 0, 0, 0] rfl (by simp) fun t w s _ _ => ?_)
          | ((with_reducible show fnW Try.prog 70 #[_, _] _ _); refine fnW_of (by kernel_rfl) (node_c (kind := 3) (hnil _) (by decide) fun w e => ?_); have s := s.ext0 e)
      repeat' first
        | with_reducible refine And.intro ?_ ?_
        | with_reducible refine gs_t ?_
        | ((with_reducible show J _ _ _ _ _); exact rest3 _ _ _ _ _ _ _ s rfl (by simp) (by simp))
        | ((with_reducible show insW Try.prog (Instr.buildSlice 88 1 _) _ _); refine s.litS [[97, 98]] rfl (by simp) fun t w s => ?_)
        | ((with_reducible show insW Try.prog (Instr.buildSlice 34 2 _) _ _); refine s.litB [97, 98] rfl (by simp) fun t w s _ _ => ?_; obtain ⟨ra, rc, rfl⟩ := (OwnAt.rd (s.at 0 rfl)).len)
        | ((with_reducible show insW Try.prog (Instr.buildSlice 56 1 _) _ _); refine s.litR fun t w s => ?_)
        | ((with_reducible show fnW Try.prog 72 #[_, _] _ _); refine fnW_of (by kernel_rfl) (texts_c (kind := 3) (ls := [[97, 98]]) (OwnAt.rd (s.own (rO _ 9 1 [sv [97, 98]] 1) (by simp))) (by decide) fun w e => ?_); have s := s.ext0 e)
    repeat' first
      | with_reducible refine And.intro ?_ ?_
      | with_reducible refine gs_t ?_
      | ((with_reducible show J _ _ _ _); exact rest2 _ _ _ _ _ s (by simp [m8, m7, m1]) rfl (by simp))
      | ((with_reducible show loadW _ (.pointer (some ⟨b7, 0, none⟩)) _ _); exact s.loadM (b := b7) (cs := bc da) (t := 62) (by simp [m7]) (hbl hla) ⟨rfl, rfl⟩)
      | ((with_reducible show loadW _ (.pointer (some ⟨b8, 0, none⟩)) _ _); exact s.loadM (b := b8) (cs := bc db) (t := 62) (by simp [m8]) (hbl hlb) ⟨rfl, rfl⟩)
      | ((with_reducible show insW Try.prog (Instr.buildSlice 75 1 _) _ _); refine s.litD [da] rfl h1a (by simp) fun t w s => ?_)
      | ((with_reducible show insW Try.prog (Instr.buildSlice 75 1 _) _ _); refine s.litD [db] rfl h1b (by simp) fun t w s => ?_)
      | ((with_reducible show fnW Try.prog 64 #[_, _] _ _); refine fnW_of (by kernel_rfl) (set_c (kind := 1) (ds := [da]) (OwnAt.rd (s.own (rO _ 62 32 (fl [da]) 1) (by simp))) h1a (by simp) fun w e => ?_); have s := s.ext0 e; rw [hsa])
  repeat' first
    | with_reducible refine And.intro ?_ ?_
    | with_reducible refine gs_t ?_
    | ((with_reducible show J _ _ _ _); exact rest _ _ _ _ _ s (by simp) rfl (by simp))
    | ((with_reducible show loadW _ (.pointer (some ⟨b7, 0, none⟩)) _ _); exact s.loadM (b := b7) (cs := bc da) (t := 62) (by simp) (hbl hla) ⟨rfl, rfl⟩)
    | ((with_reducible show loadW _ (.pointer (some ⟨b8, 0, none⟩)) _ _); exact s.loadM (b := b8) (cs := bc db) (t := 62) (by simp) (hbl hlb) ⟨rfl, rfl⟩)
    | ((with_reducible show insW Try.prog (Instr.buildSlice 75 2 _) _ _); refine s.litD [da, db] rfl h2 (by simp) fun t w s => ?_)
    | ((with_reducible show insW Try.prog (Instr.buildSlice 75 3 _) _ _); refine s.litD [db, da, db] rfl h3 (by simp) fun t w s => ?_)
    | ((with_reducible show fnW Try.prog 64 #[_, _] _ _); refine fnW_of (by kernel_rfl) (set_c (kind := 1) (ds := [da, db]) (OwnAt.rd (s.own (rO _ 62 32 (fl [da, db]) 2) (by simp))) h2 (by simp) fun w e => ?_); have s := s.ext0 e; rw [hs2])
end Go.Proofs.Ytedebapgmfnflaa
