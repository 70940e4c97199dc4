/- Sectors read one by one: the highest generation, what is gathered: walks. Conditions: sectors have 64 bytes; at most 10^6 of them. -/
import Derived.Test.YtedebapgmfnflaaDoorV6
import Derived.Test.YtedebapgmfnflaaDoorV4
namespace Go.Proofs.YtedebapgmfnflaaDoor
open Go
set_option maxRecDepth 100000

theorem flat64_get {ls : List Bytes} (h : ∀ l ∈ ls, l.length = 64) {i : Nat} (hi : i < ls.length) : (ls.flatten.drop (i * 64)).take 64 = ls[i] := by
  have e : ls = ls.take i ++ ls[i] :: ls.drop (i + 1) := by rw [← List.drop_eq_getElem_cons hi, List.take_append_drop]
  have h1 : (ls.take i).flatten.length = i * 64 := by
    rw [flat64 (fun l hl => h l (List.mem_of_mem_take hl)), List.length_take, Nat.min_eq_left (by omega), Nat.mul_comm]
  have h2 : ls.flatten = (ls.take i).flatten ++ (ls[i] ++ (ls.drop (i + 1)).flatten) := by
    rw [← List.flatten_cons, ← List.flatten_append, ← e]
  rw [h2, List.drop_left' h1, List.take_left' (h _ (List.getElem_mem hi))]

/-- Sectors that are read. -/
abbrev rKR (x : Value) (ls : List Bytes) : Res := rR x 64 (bc ls.flatten) ls.length

theorem RdSl.secAt {w : World} {x : Value} {ls : List Bytes} (h : RdSl w x 64 (bc ls.flatten) ls.length) (h64 : ∀ l ∈ ls, l.length = 64) {i : Nat} (hi : i < ls.length) (kk : IntKind) :
    ∃ b o, (∀ K : VPost, K (.pointer (some ⟨b, o, none⟩)) w → idxW (some (none, 64)) x (.int kk i) w K) ∧ (∀ K : VPost, K (.agg (bc ls[i]).toArray) w → loadW (some (true, 64)) (.pointer (some ⟨b, o, none⟩)) w K) := by
  have hfl := flat64 h64
  obtain ⟨hl, ⟨h0, _⟩ | ⟨b, o, c, cs, rfl, hb, h1, h2⟩⟩ := h
  · rw [h0] at hl; simp at hl; omega
  · have hcl := congrArg List.length h1
    rw [bc_length, List.length_take, List.length_drop, hfl] at hcl
    refine ⟨b, o + i * 64, fun K hK => idx_i hi hK, fun K hK => loadN hb (by omega) ?_⟩
    rw [take_drop_part cs o (i * 64) 64 (ls.length * 64) (by omega), h1, bc_part, flat64_get h64 hi]
    exact hK

theorem extr_i {w : World} {K : VPost} {vs : Array Value} {i : Nat} {x : Value} (h : vs[i]? = some x) (hK : K x w) : extrW (.tuple vs) i w K := ⟨x, h, hK⟩

theorem max3_e {P : Program} {ts : Array TypeId} {ty : TypeId} {k : IntKind} {x y z : Int} {w : World} {K : VPost} (h : K (.int k (max (max x y) z)) w) : insW P (Builtin.max_ ts ty #[.int k x, .int k y, .int k z]) w K := by
  unfold insW Builtin.max_
  simp only [List.foldlM_cons, List.foldlM_nil, Builtin.max2, Sem.run_bind, Sem.run_pure, Result.andThen_ok, okW]
  have e1 : (if y > x then y else x) = max x y := by
    rw [Int.max_def]; split <;> split <;> omega
  have e2 : (if z > max x y then z else max x y) = max (max x y) z := by
    rw [Int.max_def (max x y) z]; split <;> split <;> omega
  rw [e1, e2]
  exact h

def highB (ls : List Bytes) : Nat := ls.foldl (fun m b => max (max m (beN (b.take 4))) (beN ((b.drop 56).take 4))) 0
theorem high_snoc (ls : List Bytes) (b : Bytes) : highB (ls ++ [b]) = max (max (highB ls) (beN (b.take 4))) (beN ((b.drop 56).take 4)) := by simp [highB]

set_option maxHeartbeats 1000000 in
theorem highest_c {w : World} {K : VPost} {x : Value} {ls : List Bytes} (hx : RdSl w x 64 (bc ls.flatten) ls.length) (h64 : ∀ l ∈ ls, l.length = 64) (hn : ls.length ≤ 1000000) (hK : ∀ w', Ext [] w w' → K (.int .i64 (highB ls)) w') :
    Calls Tryd.prog 30 #[x] w (retK K) := by
  refine c30_calls _ w K ?_
  unfold c30
  refine bindX_i fun J0 h0 => bindX_i fun J1 h1 => ?_
  rw [hx.lenw]
  refine bindX_i fun J2 h2 => ?_
  refine loop_i (fun m fr wr => ∃ i : Nat, m = ls.length - i ∧ i ≤ ls.length ∧ fr 3 = .int .i64 (highB (ls.take i)) ∧ fr 6 = x ∧ fr 7 = .int .i64 ls.length ∧ fr 8 = .int .i64 i ∧ Sep [] w wr [] [rKR x ls]) ls.length ?_ ?_
  · exact ⟨0, rfl, by omega, rfl, rfl, rfl, rfl, Sep.zero1 (U := rKR x ls) hx⟩
  · rintro m fr wr J ⟨i, rfl, hi, f3, f6, f7, f8, s⟩ hJ hX
    rw [f7, f8]
    refine nlss (cond_d (fun hlt => ?_) (fun hlt => ?_))
    · rw [f6, f3]
      obtain ⟨b, o, hix, hld⟩ := RdSl.secAt (s.rat 0 rfl) h64 hlt .i64
      refine hix _ ?_
      refine hld _ ?_
      have hb := h64 _ (List.getElem_mem hlt)
      refine s.alloc zero_blk cellsK fun p w1 s _ => ?_
      refine s.storeAll 0 rfl (by rw [bc_length, hb]) rfl (bc_one _) fun w2 s _ => ?_
      have s : Sep [] w w2 [rB p (bc ls[i]) 37] [rKR x ls] := s
      have s := s.drew
      generalize w2.drew = w3 at *
      have hp : Blk w3 p (bc ls[i]) 37 := s.at 0 rfl
      refine slA_to (k := 4) (by decide) ?_
      refine slA_cut (l := 56) (h := 60) (by decide) (by decide) (by decide) ?_
      have h0 := hp.part (l := 0) (k := 4) (c := 64) (by omega) (by decide) (by omega)
      rw [List.drop_zero] at h0
      have h4 := hp.part (l := 56) (k := 4) (c := 8) (by omega) (by decide) (by omega)
      refine fnW_of (by kernel_rfl) (get_c h0 (by rw [List.length_take]; omega) ?_)
      refine fnW_of (by kernel_rfl) (get_c h4 (by rw [List.length_take, List.length_drop]; omega) ?_)
      refine max3_e ?_
      refine ⟨rfl, ?_⟩
      refine nadd (y := 1) (by omega) ?_
      have e : max (max ((highB (ls.take i) : Nat) : Int) ((beN (ls[i].take 4) : Nat) : Int)) ((beN ((ls[i].drop 56).take 4) : Nat) : Int) = ((highB (ls.take (i + 1)) : Nat) : Int) := by
        rw [List.take_succ_eq_append_getElem hlt, high_snoc]
        omega
      rw [e]
      exact hJ (ls.length - (i + 1)) _ _ (by omega) ⟨i + 1, rfl, by omega, rfl, f6, f7, rfl, s.drop 0⟩
    · obtain rfl : i = ls.length := by omega
      refine hX _ _ _ (by simp) (h2 _ _ _ (h1 _ _ _ ?_))
      show K (fr 3) _
      rw [f3, List.take_length]
      exact hK _ s.ext

theorem gather_cons (g n : Nat) (b : Bytes) (r : List Bytes) (acc : Bytes) (i : Nat) : gatherB g n (b :: r) acc i = if okS g (n + i) b then (if (dataB b).length < 46 ∨ 2034 ≤ (acc ++ dataB b).length then (acc ++ dataB b, i + 1) else gatherB g n r (acc ++ dataB b) (i + 1)) else (acc, i) := rfl

set_option maxHeartbeats 2000000 in
theorem gather_c {w : World} {K : VPost} {x : Value} {g n : Nat} {ls : List Bytes} (hx : RdSl w x 64 (bc ls.flatten) ls.length) (h64 : ∀ l ∈ ls, l.length = 64) (hln : ls.length ≤ 1000000) (hn : n ≤ 4294967296)
    (hK : ∀ v w', OwnAt w' v 5 1 (bc (gatherB g n ls [] 0).1) (gatherB g n ls [] 0).1.length → Ext [] w w' → (∀ b ∈ slB v, w.heap.size ≤ b) → K (.tuple #[v, .int .i64 (gatherB g n ls [] 0).2]) w') :
    Calls Tryd.prog 76 #[x, .int .i64 g, .int .i64 n] w (retK K) := by
  refine c76_calls _ _ _ w K ?_
  unfold c76
  refine bindX_i fun J0 h0 => bindX_i fun J1 h1 => ?_
  have hlen : ∀ (w : World) (K : VPost), lenW Tryd.prog (some true) #[23] 3 #[x] w K = K (.int .i64 ls.length) w := fun w K => hx.lenw
  rw [hlen]
  refine bindX_i fun J2 h2 => ?_
  have s := (Sep.zero1 (U := rKR x ls) hx).add (T := rDb (.slice none 0 0) []) (w' := w) (.inl ⟨rfl, rfl, rfl⟩) (Ext.refl _ _) (by simp [rDb, rO, slB])
  generalize hr : gatherB g n ls [] 0 = res at *
  refine loop_i (fun m fr wr => ∃ (i : Nat) (v : Value) (acc : Bytes), m = ls.length - i ∧ i ≤ ls.length ∧ acc.length ≤ 46 * i ∧ gatherB g n (ls.drop i) acc i = res ∧ fr 0 = x ∧ fr 1 = .int .i64 g ∧ fr 2 = .int .i64 n ∧ fr 8 = v ∧ fr 15 = x ∧ fr 16 = .int .i64 ls.length ∧ fr 17 = .int .i64 i ∧ Sep [] w wr [rDb v acc] [rKR x ls]) ls.length ?_ ?_
  · exact ⟨0, _, [], rfl, by omega, by simp, by rw [List.drop_zero]; exact hr, rfl, rfl, rfl, rfl, rfl, rfl, rfl, s⟩
  · rintro m fr wr J ⟨i, v, acc, rfl, hi, hal, hg, f0, f1, f2, f8, f15, f16, f17, s⟩ hJ hX
    rw [f16, f17]
    have hret : ∀ (fr : Fr) (wr : World) (v : Value), fr 6 = v → fr 7 = .int .i64 res.2 → Sep [] w wr [rDb v res.1] [rKR x ls] → J .ret fr wr := by
      intro fr wr v g6 g7 s
      refine hX _ _ _ (by simp) (h2 _ _ _ (h1 _ _ _ (h0 _ _ _ ?_)))
      show K (.tuple #[fr 6, fr 7]) wr
      rw [g6, g7]
      exact hK v wr (s.at 0 rfl) s.ext (s.fresh 0 rfl)
    refine nlss (cond_d (fun hlt => ?_) (fun hlt => ?_))
    · rw [f15, f8, f1, f2]
      rw [List.drop_eq_getElem_cons hlt, gather_cons] at hg
      obtain ⟨b, o, hix, hld⟩ := RdSl.secAt (s.rat 0 rfl) h64 hlt .i64
      refine hix _ ?_
      refine hld _ ?_
      have hb := h64 _ (List.getElem_mem hlt)
      generalize ls[i] = sec at *
      refine s.alloc zero_blk cellsK fun p w1 s _ => ?_
      refine s.storeAll 0 rfl (by rw [bc_length, hb]) rfl (bc_one _) fun w2 s _ => ?_
      have s : Sep [] w w2 [rB p (bc sec) 37, rDb v acc] [rKR x ls] := s
      refine s.loadAll 0 rfl (by rw [bc_length, hb]) ?_
      refine fnW_of (by kernel_rfl) (mark_c hb fun w3 e => ?_)
      have s := s.ext0 e
      refine extr_i rfl ?_
      refine extr_i rfl ?_
      refine extr_i rfl ?_
      refine not_ti ?_
      have hm3 : (markB sec).2.2 = wholeB sec := by unfold markB; cases wholeB sec <;> rfl
      rw [hm3]
      unfold okS at hg
      cases hw : wholeB sec with
      | false =>
        rw [hw, Bool.false_and, if_neg (by decide)] at hg
        rw [Bool.not_false]
        iterate 2 ((repeat with_reducible refine gs_tf ?_); refine pick_ti ?_)
        refine cndT ?_
        refine hret _ _ v rfl (by rw [← hg] <;> rfl) ?_
        rw [← hg]
        exact s.drop 0
      | true =>
        rw [hw, Bool.true_and] at hg
        rw [Bool.not_true]
        refine gs_f ?_
        refine gs_f ?_
        refine gs_f ?_
        refine nneq ?_
        refine pick_fi ?_
        by_cases hge : (markB sec).1 = g
        · rw [decide_eq_false (by simpa using hge)]
          rw [decide_eq_true hge, Bool.true_and] at hg
          refine gs_f ?_
          refine gs_f ?_
          refine gs_f ?_
          refine gs_f ?_
          refine nadd (by omega) ?_
          refine gs_f ?_
          refine nneq ?_
          refine pick_fi ?_
          by_cases hne : (markB sec).2.1 = n + i
          · rw [decide_eq_false (by simpa using hne)]
            rw [decide_eq_true hne, if_pos rfl] at hg
            refine cndF ?_
            refine s.loadAll 0 rfl (by rw [bc_length, hb]) ?_
            refine fnW_of (by kernel_rfl) (data_c hb fun vd w4 hvd e4 hfd => ?_)
            have s := s.ext0 e4
            have hdl := data_le hb
            refine s.apB 1 rfl hvd.rd (by omega) fun v5 w5 s => ?_
            have s : Sep [] w w5 [rB p (bc sec) 37, rDb v5 (acc ++ dataB sec)] [rKR x ls] := s
            have s := s.drop 0
            have s : Sep [] w w5 [rDb v5 (acc ++ dataB sec)] [rKR x ls] := s
            rw [hvd.rd.lenw]
            refine nlss (y := 46) ?_
            have hal2 : (acc ++ dataB sec).length ≤ 46 * (i + 1) := by rw [List.length_append]; omega
            by_cases h1 : (dataB sec).length < 46
            · rw [decide_eq_true h1]
              rw [if_pos (.inl h1)] at hg
              repeat with_reducible refine gs_tf ?_
              refine pick_ti ?_
              refine cndT ?_
              refine nadd (y := 1) (by omega) ?_
              refine hret _ _ v5 rfl (by rw [← hg] <;> rfl) ?_
              rw [← hg]
              exact s
            · rw [decide_eq_false h1]
              refine gs_f ?_
              refine gs_f ?_
              rw [(OwnAt.rd (s.at 0 rfl)).lenw]
              refine gs_f ?_
              refine ngeq (y := 2034) ?_
              refine pick_fi ?_
              refine cond_d (fun h2 => ?_) (fun h2 => ?_)
              · rw [if_pos (.inr h2)] at hg
                refine nadd (y := 1) (by omega) ?_
                refine hret _ _ v5 rfl (by rw [← hg] <;> rfl) ?_
                rw [← hg]
                exact s
              · rw [if_neg (by omega)] at hg
                refine nadd (y := 1) (by omega) ?_
                exact hJ (ls.length - (i + 1)) _ _ (by omega) ⟨i + 1, v5, _, rfl, by omega, hal2, hg, f0, f1, f2, rfl, f15, f16, rfl, s⟩
          · rw [decide_eq_true (by simpa using hne)]
            rw [decide_eq_false hne, if_neg (by decide)] at hg
            refine cndT ?_
            refine hret _ _ v rfl (by rw [← hg] <;> rfl) ?_
            rw [← hg]
            exact s.drop 0
        · rw [decide_eq_true (by simpa using hge)]
          rw [decide_eq_false hge, Bool.false_and, if_neg (by decide)] at hg
          repeat with_reducible refine gs_tf ?_
          refine pick_ti ?_
          refine cndT ?_
          refine hret _ _ v rfl (by rw [← hg] <;> rfl) ?_
          rw [← hg]
          exact s.drop 0
    · obtain rfl : i = ls.length := by omega
      rw [List.drop_length] at hg
      have hg : (acc, ls.length) = res := hg
      refine hX _ _ _ (by simp) (h2 _ _ _ (h1 _ _ _ (seqX_n ?_)))
      show lenW _ _ _ _ #[fr 0] _ _
      rw [f0, hlen]
      show K (.tuple #[fr 8, _]) _
      rw [f8]
      have := hK v wr (by rw [← hg]; exact s.at 0 rfl) s.ext (s.fresh 0 rfl)
      rw [← hg] at this
      exact this
end Go.Proofs.YtedebapgmfnflaaDoor
