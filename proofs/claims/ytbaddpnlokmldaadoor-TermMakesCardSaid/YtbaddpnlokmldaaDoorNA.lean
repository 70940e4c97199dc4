/- Things in hand: rows, bytes, what is found by what it is. Short steps. -/
import Derived.Test.YtbaddpnlokmldaaDoorSC
import Derived.Test.YtbaddpnlokmldaaDoorCZ
namespace Go.Proofs.YtbaddpnlokmldaaDoor
open Go
set_option maxRecDepth 100000

/-- Two things of one's own are one. -/
theorem Sep.join {S : List Nat} {w0 w : World} {L R : List Res} {T1 T2 T : Res} (s : Sep S w0 w (T1 :: T2 :: L) R) (hT : T.holds w) (hf : ∀ b ∈ T.foot, b ∈ T1.foot ∨ b ∈ T2.foot) : Sep S w0 w (T :: L) R := by
  have hp := List.pairwise_cons.1 s.dis
  have hp2 := List.pairwise_cons.1 hp.2
  refine ⟨s.ext, fun U hU => ?_, s.rd, fun U hU b hb => ?_, List.pairwise_cons.2 ⟨fun U hU b hb => ?_, hp2.2⟩, fun U hU V hV b hb => ?_⟩
  · rcases List.mem_cons.1 hU with rfl | hU
    · exact hT
    · exact s.own U (by simp [hU])
  · rcases List.mem_cons.1 hU with rfl | hU
    · rcases hf b hb with h | h
      · exact s.old T1 (by simp) b h
      · exact s.old T2 (by simp) b h
    · exact s.old U (by simp [hU]) b hb
  · rcases hf b hb with h | h
    · exact hp.1 U (by simp [hU]) b h
    · exact hp2.1 U hU b h
  · rcases List.mem_cons.1 hU with rfl | hU
    · rcases hf b hb with h | h
      · exact s.disR T1 (by simp) V hV b h
      · exact s.disR T2 (by simp) V hV b h
    · exact s.disR U (by simp [hU]) V hV b hb
/-- The contents of rows. -/
def rL (hs : List Value) (ls : List Bytes) : Res := ⟨rowsF hs ls, fun w => RowsL w hs ls, fun h => h.lt, fun h e hd => h.keep e hd⟩
theorem rowsF_snoc {h : Value} {l : Bytes} : ∀ {hs : List Value} {ls : List Bytes}, hs.length = ls.length → rowsF (hs ++ [h]) (ls ++ [l]) = rowsF hs ls ++ rdB h (bc l)
  | [], [], _ => by simp [rowsF]
  | _ :: hs, _ :: ls, e => by simp [rowsF, rowsF_snoc (h := h) (l := l) (hs := hs) (ls := ls) (by simpa using e)]
  | [], _ :: _, e => by simp at e
  | _ :: _, [], e => by simp at e
theorem part_bc (l : Bytes) (a b : Nat) : ((bc l).drop (a * 1)).take ((b - a) * 1) = bc ((l.drop a).take (b - a)) := by
  rw [Nat.mul_one, Nat.mul_one, bc_part]

section
variable {S : List Nat} {w0 w : World} {L R : List Res} {K : VPost}

theorem Sep.loadM {n b : Nat} {cs : List Value} {t : TypeId} (s : Sep S w0 w L R) (hm : rB b cs t ∈ L) (hn : cs.length = n) (h : K (.agg cs.toArray) w) : loadW (some (true, n)) (.pointer (some ⟨b, 0, none⟩)) w K :=
  Go.Proofs.YtbaddpnlokmldaaDoor.loadAll (Blk.r (s.own _ hm)) hn h
/-- Bytes of one's own. -/
def rDb (v : Value) (l : Bytes) : Res := rO v 5 1 (bc l) l.length
end

section
variable {P : Program} {w : World} {K : VPost} {t : TypeId} {c : Bool}

theorem pick_ti {a b : Value} (h : K a w) : pickW (.bool true) a b w K := h
theorem pick_fi {a b : Value} (h : K b w) : pickW (.bool false) a b w K := h
theorem not_ti {b : Bool} (h : K (.bool !b) w) : unN P .not (.bool b) w K := h
theorem bool_eql {a b : Bool} (hu : P.underlying t = some .bool) (h : K (.bool (a == b)) w) : binW P .eql t c (.bool a) (.bool b) w K := by
  refine (bin_equal (fun _ => by cases c <;> rfl) rfl ?_).mpr h
  show (Op.equalIn (9999 + 1) t _ _).run P w = _
  unfold Op.equalIn
  rw [Sem.run_bind, run_und hu]
  rfl

end

theorem und_boolB : Tryd.prog.underlying 4 = some .bool := by kernel_rfl

theorem bool_neq {P : Program} {w : World} {K : VPost} {t : TypeId} {c : Bool} {a b : Bool} (hu : P.underlying t = some .bool) (h : K (.bool (!(a == b))) w) : binW P .neq t c (.bool a) (.bool b) w K := by
  refine (bin_nequal (fun _ => by cases c <;> rfl) rfl ?_).mpr h
  show (Op.equalIn (9999 + 1) t _ _).run P w = _
  unfold Op.equalIn
  rw [Sem.run_bind, run_und hu]
  rfl
theorem rows_nil (w : World) : RowsR w (.slice none 0 0) [] [] := ⟨⟨rfl, .inl ⟨rfl, _, _, rfl⟩⟩, trivial⟩

theorem slArr_at {b o n sz : Nat} {w : World} {K : VPost} (h : K (.slice (some ⟨b, o, none⟩) n n) w) : sliceW (.arr n sz) (.pointer (some ⟨b, o, none⟩)) none none none w K := by
  refine ⟨by simp, 0, n, n, rfl, rfl, rfl, Nat.zero_le _, by simp, Nat.le_refl _, ?_⟩
  show K (.slice (some (if n = 0 then (⟨b, o, none⟩ : Addr) else Addr.add ⟨b, o, none⟩ (0 * sz))) (n - 0) (n - 0)) w
  rw [Nat.sub_zero, Nat.zero_mul, add_addr, Nat.add_zero]
  split <;> exact h

theorem each_le {ls : List Bytes} {m : Nat} (h : ls.flatten.length + ls.length ≤ m) : ∀ l ∈ ls, l.length ≤ m := by
  intro l hl
  have : l.length ≤ ls.flatten.length := by
    clear h
    induction ls with
    | nil => cases hl
    | cons x r ih =>
      rw [List.flatten_cons, List.length_append]
      rcases List.mem_cons.1 hl with rfl | hl
      · omega
      · have := ih hl; omega
  omega

theorem flat_take (ls : List Bytes) (i : Nat) (h : i < ls.length) : (ls.take (i + 1)).flatten = (ls.take i).flatten ++ ls[i] := by
  rw [List.take_succ_eq_append_getElem h, List.flatten_append]; simp
end Go.Proofs.YtbaddpnlokmldaaDoor
