/- A frame taken apart: the walk of the program's. Condition: at most 2^30 bytes. -/
import Derived.Test.YtedebapgmfnflaaK7
namespace Go.Proofs.Ytedebapgmfnflaa
open Go
set_option maxRecDepth 100000

def unframeL : Nat → Bytes → List Bytes → Option (List Bytes × Bytes)
  | 0, b, acc => some (acc, b)
  | n + 1, b, acc => if b.length < 4 then none else if (b.drop 4).length < leN (b.take 4) then none else
    unframeL n ((b.drop 4).drop (leN (b.take 4))) (acc ++ [(b.drop 4).take (leN (b.take 4))])
def unframe (b : Bytes) : Option (List Bytes) :=
  if b.length < 4 then none else if (b.length - 4) / 4 < leN (b.take 4) then none else
  match unframeL (leN (b.take 4)) (b.drop 4) [] with
  | some (acc, []) => some acc
  | _ => none

theorem part_bc (l : Bytes) (a b : Nat) : ((bc l).drop (a * 1)).take ((b - a) * 1) = bc ((l.drop a).take (b - a)) := by
  rw [Nat.mul_one, Nat.mul_one, bc_part]

set_option maxHeartbeats 2000000 in
theorem unframe_c {w : World} {K : VPost} {x : Value} {l : Bytes} (hx : RdSl w x 1 (bc l) l.length) (hc : capOk x) (hl : l.length ≤ 2 ^ 30)
    (hno : unframe l = none → ∀ w', Ext [] w w' → K (.tuple #[.slice none 0 0, .bool false]) w')
    (hK : ∀ ls, unframe l = some ls → ∀ v hs w' Q, Sep [] w w' [rL hs ls, rO v 34 1 hs ls.length] Q → hs.length = ls.length → K (.tuple #[v, .bool true]) w') : Calls Try.prog 67 #[x] w (retK K) := by
  refine c67_calls _ w K ?_
  unfold c67
  refine fnW_of (by kernel_rfl) (cut_c hx hc (fun h4 => ?_) (fun h4 v0 w1 hv0 hc0 hf0 e0 => ?_))
  · refine extrW_e (vs := [_, _, _]) rfl ?_
    refine extrW_e (vs := [_, _, _]) rfl ?_
    refine extrW_e (vs := [_, _, _]) rfl ?_
    rw [notN, Bool.not_false]
    refine gs_tf ?_
    refine gs_tf ?_
    refine gs_tf ?_
    refine gs_tf ?_
    refine gs_tf ?_
    rw [pickW_t, condW_t]
    exact hno (by unfold unframe; rw [if_pos h4]) w (Ext.refl _ _)
  · refine extrW_e (vs := [_, _, _]) rfl ?_
    refine extrW_e (vs := [_, _, _]) rfl ?_
    refine extrW_e (vs := [_, _, _]) rfl ?_
    rw [notN, Bool.not_true]
    obtain ⟨va, vc, hva⟩ := hv0.len
    refine gs_f ?_
    refine gs_f ?_
    refine gs_f ?_
    rw [hva, len_s, ← hva]
    refine gs_f ?_
    refine nquo (y := 4) (by decide) (by omega) ?_
    refine gs_f ?_
    refine ngtr ?_
    rw [pickW_f]
    have hd4 : (l.drop 4).length = l.length - 4 := List.length_drop
    have hun : unframe l = if (l.length - 4) / 4 < leN (l.take 4) then none else match unframeL (leN (l.take 4)) (l.drop 4) [] with
      | some (acc, []) => some acc
      | _ => none := by unfold unframe; rw [if_neg (by omega)]
    generalize leN (l.take 4) = n at *
    refine cond_d (fun hgt => ?_) (fun hgt => ?_)
    · exact hno (by rw [hun, if_pos hgt]) w1 e0
    · rw [if_neg hgt] at hun
      refine bindX_i fun J0 h0 => bindX_i fun J1 h1 => bindX_i fun J2 h2 => ?_
      have s : Sep [] w w1 [] [rR v0 1 (bc (l.drop 4)) (l.drop 4).length] := ((Sep.nil w).ext0 e0).addR (by rw [hd4]; exact hv0) (by simp)
      have s := s.add (T := rO (.slice none 0 0) 34 1 [] 0) (.inl ⟨rfl, rfl, rfl⟩) (Ext.refl _ _) (by simp [rO, slB])
      have s := s.add (T := rL [] []) trivial (Ext.refl _ _) (by simp [rL, rowsF])
      refine loop_i (fun m fr wr => ∃ (i : Nat) (v1 xv : Value) (hs : List Value) (acc : List Bytes) (cur : Bytes), m = n - i ∧ i ≤ n ∧ cur.length ≤ l.length ∧ hs.length = acc.length ∧ acc.length = i ∧ capOk xv ∧ unframeL (n - i) cur acc = unframeL n (l.drop 4) [] ∧
        fr 0 = xv ∧ fr 6 = v1 ∧ fr 25 = .int .i64 n ∧ fr 26 = .int .i64 i ∧
        Sep [] w wr [rL hs acc, rO v1 34 1 hs acc.length] [rR xv 1 (bc cur) cur.length]) n ?_ ?_
      · exact ⟨0, _, v0, [], [], l.drop 4, rfl, by omega, by omega, rfl, rfl, hc0, rfl, rfl, rfl, rfl, rfl, s⟩
      · rintro m fr wr J ⟨i, v1, xv, hs, acc, cur, rfl, hi, hcl, hhs, hal, hcx, hst, f0, f6, f25, f26, s⟩ hJ hX
        rw [f0, f25, f26]
        refine nlss (cond_d (fun hlt => ?_) (fun hlt => ?_))
        · obtain ⟨j, hj⟩ : ∃ j, n - i = j + 1 := ⟨n - i - 1, by omega⟩
          rw [hj, unframeL] at hst
          refine fnW_of (by kernel_rfl) (cut_c (s.rat 0 rfl) hcx (fun h4 => ?_) (fun h4 v2 w2 hv2 hc2 hf2 e2 => ?_))
          · refine extrW_e (vs := [_, _, _]) rfl ?_
            refine extrW_e (vs := [_, _, _]) rfl ?_
            refine extrW_e (vs := [_, _, _]) rfl ?_
            rw [notN, Bool.not_false]
            refine gs_tf ?_
            refine gs_tf ?_
            refine gs_tf ?_
            refine gs_tf ?_
            rw [pickW_t, condW_t]
            refine hX _ _ _ (by simp) (h2 _ _ _ (h1 _ _ _ (h0 _ _ _ ?_)))
            rw [if_pos h4] at hst
            exact hno (by rw [hun, ← hst]) wr s.ext
          · rw [if_neg (by omega)] at hst
            have s := s.ext0 e2
            have hd : (cur.drop 4).length = cur.length - 4 := List.length_drop
            rw [← hd] at hv2
            refine extrW_e (vs := [_, _, _]) rfl ?_
            refine extrW_e (vs := [_, _, _]) rfl ?_
            refine extrW_e (vs := [_, _, _]) rfl ?_
            rw [notN, Bool.not_true]
            obtain ⟨va, vc, hva⟩ := hv2.len
            refine gs_f ?_
            refine gs_f ?_
            refine gs_f ?_
            rw [hva, len_s, ← hva]
            refine gs_f ?_
            refine ngtr ?_
            rw [pickW_f]
            generalize leN (cur.take 4) = k at *
            have s := s.part (T := rR v2 1 (bc (cur.drop 4)) (cur.drop 4).length) (U := rR xv 1 (bc cur) cur.length) (by simp) hv2 hf2
            generalize cur.drop 4 = rest at *
            refine cond_d (fun hgk => ?_) (fun hgk => ?_)
            · refine hX _ _ _ (by simp) (h2 _ _ _ (h1 _ _ _ (h0 _ _ _ ?_)))
              rw [if_pos hgk] at hst
              exact hno (by rw [hun, ← hst]) w2 s.ext
            · rw [if_neg hgk] at hst
              refine hv2.cut hc2 (l := 0) (h := k) rfl rfl (by omega) (by omega) fun v3 hv3 hc3 _ _ => ?_
              rw [part_bc, List.drop_zero, Nat.sub_zero] at hv3
              have hkl : (rest.take k).length = k := by rw [List.length_take]; omega
              refine fnW_of (by kernel_rfl) (bytesClone_c (l := rest.take k) (by rw [hkl]; exact hv3) (by omega) fun v4 w3 hv4 e3 hf4 => ?_)
              have s := s.add (T := rO v4 5 1 (bc (rest.take k)) (rest.take k).length) hv4 e3 hf4
              have hrl : RowsL w3 hs acc := s.at 1 rfl
              have s := s.join (T := rL (hs ++ [v4]) (acc ++ [rest.take k])) (RowsL.append (OwnAt.rd hv4) (OwnAt.cap hv4) hrl) (by
                intro b hb
                have hb : b ∈ rowsF (hs ++ [v4]) (acc ++ [rest.take k]) := hb
                rw [rowsF_snoc hhs] at hb
                rcases List.mem_append.1 hb with h | h
                · exact .inr h
                · exact .inl (rdB_slB (ys := bc (rest.take k)) h))
              rw [f6]
              obtain ⟨ra, rc, hra⟩ := (OwnAt.rd hv4).len
              refine s.addRow (v := v1) (hs := hs) (n := acc.length) 1 rfl hra (by omega) fun t v5 w4 s => ?_
              have hv2' : RdSl w4 v2 1 (bc rest) rest.length := s.rat 0 rfl
              refine hv2'.cut hc2 (l := k) (h := rest.length) rfl rfl (by omega) (by omega) fun v6 hv6 hc6 _ hf6 => ?_
              have ep : ((bc rest).drop (k * 1)).take ((rest.length - k) * 1) = bc (rest.drop k) := by
                rw [part_bc, List.take_of_length_le (by rw [List.length_drop]; omega)]
              rw [ep] at hv6 hf6
              have hdk : (rest.drop k).length = rest.length - k := List.length_drop
              rw [← hdk] at hv6
              have s := s.part (T := rR v6 1 (bc (rest.drop k)) (rest.drop k).length) (U := rR v2 1 (bc rest) rest.length) (by simp) hv6 hf6
              have s := s.sub (R' := [rR v6 1 (bc (rest.drop k)) (rest.drop k).length]) (List.Sublist.refl _) (by intro T hT; rw [List.mem_singleton] at hT; subst hT; simp)
              refine nadd (y := 1) (by omega) ?_
              refine hJ (n - (i + 1)) _ _ (by omega) ⟨i + 1, v5, v6, hs ++ [v4], acc ++ [rest.take k], rest.drop k, rfl, by omega, by omega, by simp [hhs], by simp [hal], hc6, ?_, rfl, rfl, f25, rfl, ?_⟩
              · rw [show n - (i + 1) = j by omega]; exact hst
              · rw [List.length_append]; exact s
        · obtain rfl : i = n := by omega
          refine hX _ _ _ (by simp) (h2 _ _ _ (blk_x (seq_n h1 ?_)))
          rw [Nat.sub_self, unframeL] at hst
          rw [← hst] at hun
          have hxv : RdSl wr xv 1 (bc cur) cur.length := s.rat 0 rfl
          obtain ⟨ca, cc, hca⟩ := hxv.len
          show lenW _ _ _ _ #[fr 0] wr _
          rw [f0, hca, len_s]
          refine ngtr (y := 0) (cond_d (fun hp => ?_) (fun hp => ?_))
          · cases cur with
            | nil => simp at hp
            | cons y r => exact hno hun wr s.ext
          · cases cur with
            | nil =>
              show K (.tuple #[fr 6, .bool true]) wr
              rw [f6]
              exact hK acc hun v1 hs wr _ s hhs
            | cons y r => simp at hp
end Go.Proofs.Ytedebapgmfnflaa
