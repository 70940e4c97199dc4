/- Things in hand: rows, bytes, what is found by what it is. Short steps. -/
import Derived.Test.YtedebapgmfnflaaDoorSC
import Derived.Test.YtedebapgmfnflaaDoorCN
namespace Go.Proofs.YtedebapgmfnflaaDoor
open Go
set_option maxRecDepth 100000

/-- Two things of one's own are one. -/
theorem Sep.join {S : List Nat} {w0 w : World} {L R : List Res} {T1 T2 T : Res} (s : Sep S w0 w (T1 :: T2 :: L) R) (hT : T.holds w) (hf : ∀ b ∈ T.foot, b ∈ T1.foot ∨ b ∈ T2.foot) : Sep S w0 w (T :: L) R := by
  have hp := List.pairwise_cons.1 s.dis
  have hp2 := List.pairwise_cons.1 hp.2
  refine ⟨s.ext, fun U hU => ?_, s.rd, fun U hU b hb => ?_, List.pairwise_cons.2 ⟨fun U hU b hb => ?_, hp2.2⟩, fun U hU V hV b hb => ?_⟩
  · rcases List.mem_cons.1 hU with rfl | hU
    · exact hT
    · exact s.own U (by simp [hU])
  · rcases List.mem_cons.1 hU with rfl | hU
    · rcases hf b hb with h | h
      · exact s.old T1 (by simp) b h
      · exact s.old T2 (by simp) b h
    · exact s.old U (by simp [hU]) b hb
  · rcases hf b hb with h | h
    · exact hp.1 U (by simp [hU]) b h
    · exact hp2.1 U hU b h
  · rcases List.mem_cons.1 hU with rfl | hU
    · rcases hf b hb with h | h
      · exact s.disR T1 (by simp) V hV b h
      · exact s.disR T2 (by simp) V hV b h
    · exact s.disR U (by simp [hU]) V hV b hb
/-- The contents of rows. -/
def rL (hs : List Value) (ls : List Bytes) : Res := ⟨rowsF hs ls, fun w => RowsL w hs ls, fun h => h.lt, fun h e hd => h.keep e hd⟩
theorem rowsF_snoc {h : Value} {l : Bytes} : ∀ {hs : List Value} {ls : List Bytes}, hs.length = ls.length → rowsF (hs ++ [h]) (ls ++ [l]) = rowsF hs ls ++ rdB h (bc l)
  | [], [], _ => by simp [rowsF]
  | _ :: hs, _ :: ls, e => by simp [rowsF, rowsF_snoc (h := h) (l := l) (hs := hs) (ls := ls) (by simpa using e)]
  | [], _ :: _, e => by simp at e
  | _ :: _, [], e => by simp at e
theorem ty_row : tyI Tryd.prog 22 = some (.slice none 0 0, 1, 24) := by kernel_rfl
/-- A row more. -/
theorem Sep.addRow {S : List Nat} {w0 w : World} {L R : List Res} {K : Value → VPost} {v r : Value} {hs : List Value} {n : Nat} (s : Sep S w0 w L R) (i : Nat) (hL : L[i]? = some (rO v 22 1 hs n)) {a : Option Addr} {m c : Nat} (hr : r = .slice a m c) (hn : n ≤ 2 ^ 30)
    (h : ∀ t v' w', Sep S w0 w' (L.set i (rO v' 22 1 (hs ++ [r]) (n + 1))) R → K t v' w') :
    insW Tryd.prog (Instr.buildSlice 45 1 #[(0, r)]) w fun t w' => insW Tryd.prog (Builtin.append_ #[45, 45] 45 #[v, t]) w' (K t) := by
  subst hr
  obtain ⟨ui, hui, huz, husz, huby⟩ := tyI_spec ty_row
  refine s.lit (vs := [.slice a m c]) und_rows hui huz rfl (by intro x hx; simp at hx; subst hx; rw [husz]; rfl) (by rw [husz]; simp) fun t w1 s1 ht _ => ?_
  have s1 : Sep S w0 w1 (rO t 22 ui.size [.slice a m c] 1 :: L) R := s1
  rw [husz] at s1
  refine s1.appendO (v := v) (n := n) (m := 1) (ys := [.slice a m c]) (xs := hs) (i + 1) (by rw [husz]; simpa using hL) und_rows und_rows hui huz (by rw [husz]; rfl) (by rw [huby]; decide) (by rw [husz]; exact OwnAt.rd (s1.at 0 rfl)) (by intro y hy; simp at hy; subst hy; rfl) (by rw [huby]; omega) fun v' w2 s2 => ?_
  rw [husz] at s2
  exact h t v' w2 (s2.drop 0)
theorem bytesClone_c {w : World} {K : VPost} {x : Value} {l : Bytes} (hx : RdSl w x 1 (bc l) l.length) (hn : l.length ≤ 2 ^ 30)
    (hK : ∀ v w', OwnAt w' v 5 1 (bc l) l.length → Ext [] w w' → (∀ b ∈ slB v, w.heap.size ≤ b) → K v w') : Calls Tryd.prog 78 #[x] w (retK K) := by
  refine c78_calls _ w K ?_
  unfold c78
  obtain ⟨xa, xc, rfl⟩ := hx.len
  rw [slice_eql_nil und_u8s]
  cases xa with
  | none =>
    show condW (.bool true) _ _
    rw [condW_t]
    have hl : l = [] := by
      obtain ⟨_, ⟨h0, _⟩ | ⟨b, o, c, cs, h0, _⟩⟩ := hx
      · cases l with
        | nil => rfl
        | cons y r => simp [bc] at h0
      · cases h0
    subst hl
    exact hK _ w (.inl ⟨rfl, rfl, rfl⟩) (Ext.refl _ _) (by simp [slB])
  | some a =>
    show condW (.bool false) _ _
    rw [condW_f]
    refine (Sep.zero1 (U := rR _ 1 (bc l) l.length) hx).litB [] rfl (by simp) fun t w1 s _ _ => ?_
    obtain ⟨ui, hui, huz, husz, huby⟩ := tyI_spec ty_u8
    refine s.appendO (v := t) (n := 0) (m := l.length) (ys := bc l) (xs := bc []) 0 (by rw [husz]; rfl) und_u8s und_u8s hui huz (by rw [husz]; rfl) (by rw [huby]; decide) (by rw [husz]; exact s.rat 0 rfl) (bc_one _) (by rw [huby]; omega) fun v' w2 s => ?_
    rw [husz, ← bc_append, List.nil_append, Nat.zero_add] at s
    exact hK v' w2 (s.at 0 rfl) s.ext (s.fresh 0 rfl)

theorem part_bc (l : Bytes) (a b : Nat) : ((bc l).drop (a * 1)).take ((b - a) * 1) = bc ((l.drop a).take (b - a)) := by
  rw [Nat.mul_one, Nat.mul_one, bc_part]

section
variable {S : List Nat} {w0 w : World} {L R : List Res} {K : VPost}

theorem Sep.loadM {n b : Nat} {cs : List Value} {t : TypeId} (s : Sep S w0 w L R) (hm : rB b cs t ∈ L) (hn : cs.length = n) (h : K (.agg cs.toArray) w) : loadW (some (true, n)) (.pointer (some ⟨b, 0, none⟩)) w K :=
  Go.Proofs.YtedebapgmfnflaaDoor.loadAll (Blk.r (s.own _ hm)) hn h
/-- Bytes of one's own. -/
def rDb (v : Value) (l : Bytes) : Res := rO v 5 1 (bc l) l.length
theorem Sep.apB {v x : Value} {l y : Bytes} (s : Sep S w0 w L R) (i : Nat) (hL : L[i]? = some (rDb v l)) (hx : RdSl w x 1 (bc y) y.length) (hn : l.length + y.length ≤ 2 ^ 36)
    (h : ∀ v' w', Sep S w0 w' (L.set i (rDb v' (l ++ y))) R → K v' w') : insW Tryd.prog (Builtin.append_ #[22, 22] 22 #[v, x]) w K := by
  obtain ⟨ui, hui, huz, husz, huby⟩ := tyI_spec ty_u8
  refine s.appendO (v := v) (n := l.length) (m := y.length) (ys := bc y) (xs := bc l) i (by rw [husz]; exact hL) und_u8s und_u8s hui huz (by rw [husz]; rfl) (by rw [huby]; decide) (by rw [husz]; exact hx) (bc_one _) (by rw [huby]; omega) fun v' w' s => ?_
  rw [husz, ← bc_append, ← List.length_append] at s
  exact h v' w' s
/-- A literal row. -/
theorem Sep.litR {a : Option Addr} {m c : Nat} (s : Sep S w0 w L R) (h : ∀ v' w', Sep S w0 w' (rO v' 22 1 [.slice a m c] 1 :: L) R → K v' w') : insW Tryd.prog (Instr.buildSlice 45 1 #[(0, .slice a m c)]) w K := by
  obtain ⟨ti, hti, htz, hts, htb⟩ := tyI_spec ty_row
  exact s.lit (vs := [.slice a m c]) und_rows hti htz rfl (by intro x hx; simp at hx; subst hx; rw [hts]; rfl) (by rw [hts]; simp) fun t w1 s1 _ _ => h t w1 (by rw [hts] at s1; exact s1)

end

section
variable {P : Program} {w : World} {K : VPost} {t : TypeId} {c : Bool}

theorem pick_ti {a b : Value} (h : K a w) : pickW (.bool true) a b w K := h
theorem pick_fi {a b : Value} (h : K b w) : pickW (.bool false) a b w K := h
theorem not_ti {b : Bool} (h : K (.bool !b) w) : unN P .not (.bool b) w K := h
theorem bool_eql {a b : Bool} (hu : P.underlying t = some .bool) (h : K (.bool (a == b)) w) : binW P .eql t c (.bool a) (.bool b) w K := by
  refine (bin_equal (fun _ => by cases c <;> rfl) rfl ?_).mpr h
  show (Op.equalIn (9999 + 1) t _ _).run P w = _
  unfold Op.equalIn
  rw [Sem.run_bind, run_und hu]
  rfl

end

theorem und_boolB : Tryd.prog.underlying 4 = some .bool := by kernel_rfl

theorem bool_neq {P : Program} {w : World} {K : VPost} {t : TypeId} {c : Bool} {a b : Bool} (hu : P.underlying t = some .bool) (h : K (.bool (!(a == b))) w) : binW P .neq t c (.bool a) (.bool b) w K := by
  refine (bin_nequal (fun _ => by cases c <;> rfl) rfl ?_).mpr h
  show (Op.equalIn (9999 + 1) t _ _).run P w = _
  unfold Op.equalIn
  rw [Sem.run_bind, run_und hu]
  rfl
theorem rows_nil (w : World) : RowsR w (.slice none 0 0) [] [] := ⟨⟨rfl, .inl ⟨rfl, _, _, rfl⟩⟩, trivial⟩

theorem slArr_at {b o n sz : Nat} {w : World} {K : VPost} (h : K (.slice (some ⟨b, o, none⟩) n n) w) : sliceW (.arr n sz) (.pointer (some ⟨b, o, none⟩)) none none none w K := by
  refine ⟨by simp, 0, n, n, rfl, rfl, rfl, Nat.zero_le _, by simp, Nat.le_refl _, ?_⟩
  show K (.slice (some (if n = 0 then (⟨b, o, none⟩ : Addr) else Addr.add ⟨b, o, none⟩ (0 * sz))) (n - 0) (n - 0)) w
  rw [Nat.sub_zero, Nat.zero_mul, add_addr, Nat.add_zero]
  split <;> exact h

theorem each_le {ls : List Bytes} {m : Nat} (h : ls.flatten.length + ls.length ≤ m) : ∀ l ∈ ls, l.length ≤ m := by
  intro l hl
  have : l.length ≤ ls.flatten.length := by
    clear h
    induction ls with
    | nil => cases hl
    | cons x r ih =>
      rw [List.flatten_cons, List.length_append]
      rcases List.mem_cons.1 hl with rfl | hl
      · omega
      · have := ih hl; omega
  omega

theorem flat_take (ls : List Bytes) (i : Nat) (h : i < ls.length) : (ls.take (i + 1)).flatten = (ls.take i).flatten ++ ls[i] := by
  rw [List.take_succ_eq_append_getElem h, List.flatten_append]; simp
theorem rows_c {w : World} {K : VPost} {v : Value} {hs : List Value} {ls : List Bytes} (hv : RowsR w v hs ls) (hls : ls.length ≤ 2 ^ 44) (hb : ∀ l ∈ ls, l.length ≤ 140737488351232) (most : Nat) (hm : most ≤ 2 ^ 40)
    (hK : ∀ r : Int, (r ≤ most → ls.flatten.length + ls.length ≤ most) → K (.int .i64 r) w) : Calls Tryd.prog 32 #[v, .int .i64 most] w (retK K) := by
  refine c32_calls _ _ w K ?_
  unfold c32
  obtain ⟨va, vc, hva⟩ := hv.len
  have hlen : ∀ (w : World) (K : VPost), lenW Tryd.prog (some true) #[45] 3 #[v] w K = K (.int .i64 ls.length) w := fun w K => by rw [hva, len_s]
  rw [hlen]
  refine ngtr (cond_d (fun hgt => ?_) (fun hgt => ?_))
  · refine nadd (y := 1) (by omega) ?_
    exact hK _ (fun h => by omega)
  · refine bindX_i fun J0 h0 => bindX_i fun J1 h1 => bindX_i fun J2 h2 => ?_
    refine loop_i (fun m fr wr => ∃ (i n : Nat), m = ls.length - i ∧ i ≤ ls.length ∧ n = (ls.take i).flatten.length + i ∧ n ≤ most + 140737488351233 ∧ fr 0 = v ∧ fr 1 = .int .i64 most ∧ fr 5 = .int .i64 n ∧ fr 6 = .int .i64 i ∧ w = wr) ls.length ?_ ?_
    · exact ⟨0, 0, rfl, by omega, rfl, by omega, rfl, rfl, rfl, rfl, rfl⟩
    · rintro m fr wr J ⟨i, n, rfl, hi, hn, hnm, f0, f1, f5, f6, rfl⟩ hJ hX
      rw [f0, f1, f5, f6, hlen]
      have tail : ∀ fr : Fr, fr 5 = .int .i64 n → ((n : Int) ≤ most → ls.flatten.length + ls.length ≤ most) → J1 .normal fr w := by
        intro fr f5 h
        refine seq_n h1 ?_
        rw [f5]
        exact hK _ h
      refine nlss ?_
      by_cases hlt : i < ls.length
      · rw [decide_eq_true hlt]
        refine gs_t ?_
        refine gs_t ?_
        refine gs_t ?_
        refine nleq ?_
        rw [pickW_t]
        refine cond_d (fun hle => ?_) (fun hle => ?_)
        · obtain ⟨b, o, r, hix, hld, hr, hc, hf⟩ := hv.elem hlt .i64
          refine hix _ ?_
          refine hld _ ?_
          obtain ⟨ra, rc, hra⟩ := hr.len
          rw [hra, len_s]
          have hbl := hb ls[i] (List.getElem_mem hlt)
          refine nadd (x := 1) (by omega) ?_
          refine nadd (by omega) ?_
          refine nadd (y := 1) (by omega) ?_
          refine hJ (ls.length - (i + 1)) _ _ (by omega) ⟨i + 1, n + (1 + ls[i].length), rfl, by omega, ?_, by omega, f0, f1, rfl, rfl, rfl⟩
          rw [flat_take _ _ hlt, List.length_append]; omega
        · exact hX _ _ _ (by simp) (h2 _ _ _ (blk_x (tail _ f5 (fun h => by omega))))
      · rw [decide_eq_false hlt]
        refine gs_ft ?_
        refine gs_ft ?_
        refine gs_ft ?_
        rw [pickW_f, condW_f]
        obtain rfl : i = ls.length := by omega
        refine hX _ _ _ (by simp) (h2 _ _ _ (blk_x (tail _ f5 (fun h => ?_))))
        rw [List.take_length] at hn
        omega
end Go.Proofs.YtedebapgmfnflaaDoor
