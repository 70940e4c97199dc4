/- slices.Chunk of bytes, 46 at a time: what it hands over to a loop over it. Condition: the bytes are a slice with at most 2^40 of them. -/
import Derived.Test.YtedebapgmfnflaaDoorV0
namespace Go.Proofs.YtedebapgmfnflaaDoor
open Go
set_option maxRecDepth 100000

theorem yield_i {P : Program} {K : VPost} {l d : Nat} {args : Array Value} {W : World} {R : Ending → World → Prop} (h : YieldAt Fence.wide d P l args W R) (hR : ∀ e W', R e W' → retK K e W') : dynW P (.func (.yield l) #[] #[]) args W K := by
  obtain ⟨fn, tmps, assign, body, hy, hr⟩ := h
  show nextW P K ((Instr.yield l (#[] ++ args)).run P W)
  have e : (#[] : Array Value) ++ args = args := by simp
  rw [e, hy]
  exact roundRF (r := none) (RoundIn.mono hr hR)

theorem retK_i {K : VPost} {v : Value} {w : World} (h : K v w) : retK K (.returned v) w := h
theorem cndT {A B : Prop} (h : A) : condW (.bool true) A B := h
theorem cndF {A B : Prop} (h : B) : condW (.bool false) A B := h
theorem mkfunc_i {P : Program} {K : VPost} {w : World} {f : Fn} {fs cs : Array Value} (h : K (.func f fs cs) w) : insW P (Instr.makeFunc f fs cs) w K := h

/-- A part of a slice, its capacity cut. -/
def cutV (v : Value) (l h : Nat) : Value :=
  match v with
  | .slice a _ _ => .slice (if h = l then a else a.map (·.add (l * 1))) (h - l) (h - l)
  | v => v

theorem cutV_rd {w : World} {v : Value} {ys : List Value} {m l h : Nat} (hr : RdSl w v 1 ys m) (hlh : l ≤ h) (hhm : h ≤ m) : RdSl w (cutV v l h) 1 ((ys.drop l).take (h - l)) (h - l) := by
  obtain ⟨hl, ⟨rfl, a, c, rfl⟩ | ⟨b, o, c, cs, rfl, hb, h1, h2⟩⟩ := hr
  · have hz : m = 0 := by simpa using hl.symm
    exact ⟨by simp; omega, .inl ⟨by simp, _, _, rfl⟩⟩
  · rw [Nat.mul_one] at hl h1 h2
    by_cases e : h = l
    · subst e
      have : cutV (.slice (some ⟨b, o, none⟩) m c) h h = .slice (some ⟨b, o, none⟩) 0 0 := by simp [cutV]
      rw [Nat.sub_self, this]
      exact ⟨by simp, .inl ⟨by simp, _, _, rfl⟩⟩
    · refine ⟨by rw [List.length_take, List.length_drop, hl]; omega, .inr ⟨b, o + l * 1, h - l, cs, ?_, hb, ?_, by omega⟩⟩
      · simp only [cutV, if_neg e, Option.map_some, add_addr]
      · rw [← h1, Nat.mul_one, Nat.mul_one]; exact take_drop_part cs o l (h - l) m (by omega)
theorem cutV_cap {v : Value} {m l h : Nat} (hv : ∃ a c, v = .slice a m c) (hcap : capOk v) (hlh : l ≤ h) (hhm : h ≤ m) : capOk (cutV v l h) := by
  obtain ⟨a, c, rfl⟩ := hv
  cases a with
  | none =>
    have : m = 0 := hcap
    simp only [cutV]
    split <;> (show h - l = 0; omega)
  | some a => simp only [cutV]; split <;> exact Nat.le_refl _
theorem cutV_slB {v : Value} {l h : Nat} : slB (cutV v l h) = slB v := by
  unfold cutV
  split
  · rename_i a n c
    split
    · cases a <;> rfl
    · cases a with
      | none => rfl
      | some a => simp only [Option.map_some, slB, Addr.add]; split <;> rfl
  · rfl

theorem chunk_c {w : World} {K : VPost} {x : Value} (hx : x.cells = #[x]) (hK : ∀ b1 b2 w', Ext [] w w' → Blk w' b1 [x] 22 → Blk w' b2 [.int .i64 46] 3 → w.heap.size ≤ b1 → w.heap.size ≤ b2 → b1 ≠ b2 → K (.func (.func 127) #[] #[.pointer (some ⟨b1, 0, none⟩), .pointer (some ⟨b2, 0, none⟩)]) w') :
    Calls Tryd.prog 70 #[x, .int .i64 46] w (retK K) := by
  refine c70_calls _ _ w K ?_
  unfold c70
  refine (Sep.nil w).box fun b1 w1 s e1 => ?_
  refine s.box fun b2 w2 s e2 => ?_
  have hs := s.ext
  refine bindX_i fun J0 h0 => bindX_i fun J1 h1 => ?_
  refine s.load1 0 rfl (v := .int .i64 46) rfl ?_
  rw [show (Value.int .i64 46) = .int .i64 ((46 : Nat) : Int) from rfl]
  refine nlss (y := 1) ?_
  rw [show decide ((46 : Nat) < 1) = false from rfl, condW_f]
  refine h1 _ _ _ ?_
  show insW Tryd.prog (Instr.makeFunc (.func 127) #[] #[.pointer (some ⟨b1, 0, none⟩), .pointer (some ⟨b2, 0, none⟩)]) w2 _
  refine mkfunc_i ?_
  have f1 : w.heap.size ≤ b1 := by omega
  have f2 : w.heap.size ≤ b2 := s.fresh 0 rfl b2 (by simp [rB])
  have hb1 : Blk w2 b1 [x] 22 := by
    have := s.at 1 rfl
    rw [hx] at this
    exact this
  have hne : b1 ≠ b2 := fun e => (List.pairwise_cons.1 s.dis).1 _ (List.mem_cons_self ..) b2 (by simp [rB]) (by simp [rB, e])
  exact hK b1 b2 w2 hs hb1 (s.at 0 rfl) f1 f2 hne

abbrev chunkN (m : Nat) : Nat := (m + 45) / 46
abbrev ChunkA (m : Nat) : Type := { k : Nat // 46 * k < m }
def chunkV {m : Nat} (x : Value) (k : ChunkA m) : Array Value := #[cutV x (46 * k.1) (min (46 * k.1 + 46) m)]
def chunkK (b1 b2 : Nat) (W W' : World) : Prop := W'.heap[b1]? = W.heap[b1]? ∧ W'.heap[b2]? = W.heap[b2]?

theorem chunk_stops {w : World} {x : Value} {m b1 b2 : Nat} (hx : ∃ a c, x = .slice a m c) (hcap : capOk x) (hm : m < 1099511627776) (h1 : RBlk w b1 [x]) (h2 : RBlk w b2 [.int .i64 46]) :
    SeqStopsK Fence.wide 0 Tryd.prog 127 #[.pointer (some ⟨b1, 0, none⟩), .pointer (some ⟨b2, 0, none⟩)] (chunkV (m := m) x) (chunkK b1 b2) (fun xs => xs.map (·.1) = List.range (chunkN m)) (fun _ => True) (chunkN m) w := by
  intro l J Jx W hB hJ _ hY hj0
  refine (callsIn_wide (n := 0)).2 ?_
  refine Calls.mono (R := retK fun v W' => (∃ xs : List (ChunkA m), xs.map (·.1) = List.range (chunkN m) ∧ J xs W') ∨ (∃ pre, True ∧ Jx pre W')) ?_ (fun e W' he => ?_)
  · refine c127_calls _ _ _ W _ ?_
    unfold c127
    have k1 : RBlk W b1 [x] := by obtain ⟨t, fz, h⟩ := h1; exact ⟨t, fz, (hB.block b1 (Array.getElem?_eq_some_iff.1 h).1).trans h⟩
    have k2 : RBlk W b2 [.int .i64 46] := by obtain ⟨t, fz, h⟩ := h2; exact ⟨t, fz, (hB.block b2 (Array.getElem?_eq_some_iff.1 h).1).trans h⟩
    have hxl : ∀ (w : World) (K : VPost), lenW Tryd.prog (some true) #[22] 3 #[x] w K = K (.int .i64 m) w := fun w K => by obtain ⟨a, c, rfl⟩ := hx; exact len_s
    refine bindX_i fun J0 g0 => bindX_i fun J1 g1 => ?_
    refine loop_i (fun q fr wr => ∃ (k : Nat) (pre : List (ChunkA m)), q = chunkN m - k ∧ k ≤ chunkN m ∧ pre.map (·.1) = List.range k ∧ fr 0 = .func (.yield l) #[] #[] ∧ fr 1 = .pointer (some ⟨b1, 0, none⟩) ∧ fr 2 = .pointer (some ⟨b2, 0, none⟩) ∧ fr 4 = .int .i64 ((46 * k : Nat) : Int) ∧
      J pre wr ∧ RBlk wr b1 [x] ∧ RBlk wr b2 [.int .i64 46]) (chunkN m) ?_ ?_
    · exact ⟨0, [], rfl, by omega, rfl, rfl, rfl, rfl, rfl, hj0, k1, k2⟩
    · rintro q fr wr I ⟨k, pre, rfl, hk, hpre, f0, f1, f2, f4, hj, k1, k2⟩ hI hX
      have hpl : pre.length = k := by have := congrArg List.length hpre; simpa using this
      rw [f1, f4]
      refine load1 k1 (v := x) rfl ?_
      rw [hxl]
      refine nlss (cond_d (fun hlt => ?_) (fun hlt => ?_))
      · have hj : J pre wr.drew := hJ pre wr wr.drew none hj ⟨rfl, rfl, rfl, Nat.le_refl _, fun _ _ _ => rfl⟩ (by simp)
        have k1 : RBlk wr.drew b1 [x] := k1
        have k2 : RBlk wr.drew b2 [.int .i64 46] := k2
        generalize wr.drew = wr at *
        rw [f2, f0]
        obtain ⟨a, c, rfl⟩ := hx
        obtain ⟨a, rfl⟩ : ∃ y, a = some y := by
          cases a with
          | none => have : m = 0 := hcap; omega
          | some y => exact ⟨y, rfl⟩
        have hmc : m ≤ c := hcap
        refine load1 k2 (v := .int .i64 46) rfl ?_
        refine load1 k1 (v := .slice (some a) m c) rfl ?_
        refine cut_ok (l := 46 * k) (h := m) rfl rfl (by omega) hmc ?_
        show lenW Tryd.prog (some true) #[22] 3 #[.slice _ _ _] wr _
        rw [len_s, min_e]
        refine ⟨rfl, ?_⟩
        refine load1 k1 (v := .slice (some a) m c) rfl ?_
        have e1 : min (46 : Int) ((m - 46 * k : Nat) : Int) = ((min 46 (m - 46 * k) : Nat) : Int) := by omega
        rw [e1]
        have hkN : k < chunkN m := by unfold chunkN; omega
        refine nadd (by omega) ?_
        refine nadd (by omega) ?_
        refine ⟨by simp, 46 * k, 46 * k + min 46 (m - 46 * k), 46 * k + min 46 (m - 46 * k), rfl, rfl, rfl, by omega, fun _ => Nat.le_refl _, by omega, ?_⟩
        have hy := hY pre ⟨k, hlt⟩ wr hj (by rw [hpl]; exact hkN)
        have ev : chunkV (m := m) (.slice (some a) m c) ⟨k, hlt⟩ = #[.slice (if 46 * k + min 46 (m - 46 * k) = 46 * k then some a else (some a).map (·.add (46 * k * 1))) (46 * k + min 46 (m - 46 * k) - 46 * k) (46 * k + min 46 (m - 46 * k) - 46 * k)] := by
          have : min (46 * k + 46) m = 46 * k + min 46 (m - 46 * k) := by omega
          simp only [chunkV, cutV, this]
        rw [ev] at hy
        refine yield_i hy fun e W' he => ?_
        rcases he with ⟨rfl, hj', hkp⟩ | ⟨rfl, hjx⟩
        · refine retK_i (not_ti (b := true) ?_)
          refine cndF ?_
          have k1' : RBlk W' b1 [.slice (some a) m c] := by obtain ⟨t, fz, h⟩ := k1; exact ⟨t, fz, hkp.1.trans h⟩
          have k2' : RBlk W' b2 [.int .i64 46] := by obtain ⟨t, fz, h⟩ := k2; exact ⟨t, fz, hkp.2.trans h⟩
          refine load1 k2' (v := .int .i64 46) rfl ?_
          refine nadd (y := 46) (by omega) ?_
          exact hI (chunkN m - (k + 1)) _ _ (by omega) ⟨k + 1, _, rfl, by omega, by rw [List.map_append, hpre, List.range_succ]; rfl, f0, f1, f2, rfl, hj', k1', k2'⟩
        · refine retK_i (not_ti (b := false) ?_)
          refine cndT ?_
          exact hX _ _ _ (by simp) (g1 _ _ _ (g0 _ _ _ (.inr ⟨_, trivial, hjx⟩)))
      · have hkN : k = chunkN m := by unfold chunkN at hk ⊢; omega
        refine hX _ _ _ (by simp) (g1 _ _ _ (g0 _ _ _ (.inl ⟨pre, by rw [hpre, hkN], hj⟩)))
  · cases e with
    | returned v => exact ⟨⟨v, rfl⟩, he⟩
    | _ => exact he.elim
end Go.Proofs.YtedebapgmfnflaaDoor
