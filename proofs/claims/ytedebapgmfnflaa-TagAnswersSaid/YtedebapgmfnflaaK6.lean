/- Rows that are made; frames taken apart: the walks of the program's. Conditions: at most 2^30 bytes. -/
import Derived.Test.YtedebapgmfnflaaK5
namespace Go.Proofs.Ytedebapgmfnflaa
open Go
set_option maxRecDepth 100000

/-- Two things of one's own are one. -/
theorem Sep.join {S : List Nat} {w0 w : World} {L R : List Res} {T1 T2 T : Res} (s : Sep S w0 w (T1 :: T2 :: L) R) (hT : T.holds w) (hf : ∀ b ∈ T.foot, b ∈ T1.foot ∨ b ∈ T2.foot) : Sep S w0 w (T :: L) R := by
  have hp := List.pairwise_cons.1 s.dis
  have hp2 := List.pairwise_cons.1 hp.2
  refine ⟨s.ext, fun U hU => ?_, s.rd, fun U hU b hb => ?_, List.pairwise_cons.2 ⟨fun U hU b hb => ?_, hp2.2⟩, fun U hU V hV b hb => ?_⟩
  · rcases List.mem_cons.1 hU with rfl | hU
    · exact hT
    · exact s.own U (by simp [hU])
  · rcases List.mem_cons.1 hU with rfl | hU
    · rcases hf b hb with h | h
      · exact s.old T1 (by simp) b h
      · exact s.old T2 (by simp) b h
    · exact s.old U (by simp [hU]) b hb
  · rcases hf b hb with h | h
    · exact hp.1 U (by simp [hU]) b h
    · exact hp2.1 U hU b h
  · rcases List.mem_cons.1 hU with rfl | hU
    · rcases hf b hb with h | h
      · exact s.disR T1 (by simp) V hV b h
      · exact s.disR T2 (by simp) V hV b h
    · exact s.disR U (by simp [hU]) V hV b hb

/-- The contents of rows. -/
def rL (hs : List Value) (ls : List Bytes) : Res := ⟨rowsF hs ls, fun w => RowsL w hs ls, fun h => h.lt, fun h e hd => h.keep e hd⟩
theorem rowsF_snoc {h : Value} {l : Bytes} : ∀ {hs : List Value} {ls : List Bytes}, hs.length = ls.length → rowsF (hs ++ [h]) (ls ++ [l]) = rowsF hs ls ++ rdB h (bc l)
  | [], [], _ => by simp [rowsF]
  | _ :: hs, _ :: ls, e => by simp [rowsF, rowsF_snoc (h := h) (l := l) (hs := hs) (ls := ls) (by simpa using e)]
  | [], _ :: _, e => by simp at e
  | _ :: _, [], e => by simp at e

theorem ty_row : tyI Try.prog 34 = some (.slice none 0 0, 1, 24) := by kernel_rfl
/-- A row more. -/
theorem Sep.addRow {S : List Nat} {w0 w : World} {L R : List Res} {K : Value → VPost} {v r : Value} {hs : List Value} {n : Nat} (s : Sep S w0 w L R) (i : Nat) (hL : L[i]? = some (rO v 34 1 hs n)) {a : Option Addr} {m c : Nat} (hr : r = .slice a m c) (hn : n ≤ 2 ^ 30)
    (h : ∀ t v' w', Sep S w0 w' (L.set i (rO v' 34 1 (hs ++ [r]) (n + 1))) R → K t v' w') :
    insW Try.prog (Instr.buildSlice 56 1 #[(0, r)]) w fun t w' => insW Try.prog (Builtin.append_ #[56, 56] 56 #[v, t]) w' (K t) := by
  subst hr
  obtain ⟨ui, hui, huz, husz, huby⟩ := tyI_spec ty_row
  refine s.lit (vs := [.slice a m c]) und_rows hui huz rfl (by intro x hx; simp at hx; subst hx; rw [husz]; rfl) (by rw [husz]; simp) fun t w1 s1 ht _ => ?_
  have s1 : Sep S w0 w1 (rO t 34 ui.size [.slice a m c] 1 :: L) R := s1
  rw [husz] at s1
  refine s1.appendO (v := v) (n := n) (m := 1) (ys := [.slice a m c]) (xs := hs) (i + 1) (by rw [husz]; simpa using hL) und_rows und_rows hui huz (by rw [husz]; rfl) (by rw [huby]; decide) (by rw [husz]; exact OwnAt.rd (s1.at 0 rfl)) (by intro y hy; simp at hy; subst hy; rfl) (by rw [huby]; omega) fun v' w2 s2 => ?_
  rw [husz] at s2
  exact h t v' w2 (s2.drop 0)

theorem bytesClone_c {w : World} {K : VPost} {x : Value} {l : Bytes} (hx : RdSl w x 1 (bc l) l.length) (hn : l.length ≤ 2 ^ 30)
    (hK : ∀ v w', OwnAt w' v 5 1 (bc l) l.length → Ext [] w w' → (∀ b ∈ slB v, w.heap.size ≤ b) → K v w') : Calls Try.prog 93 #[x] w (retK K) := by
  refine c93_calls _ w K ?_
  unfold c93
  obtain ⟨xa, xc, rfl⟩ := hx.len
  rw [slice_eql_nil und_u8s]
  cases xa with
  | none =>
    show condW (.bool true) _ _
    rw [condW_t]
    have hl : l = [] := by
      obtain ⟨_, ⟨h0, _⟩ | ⟨b, o, c, cs, h0, _⟩⟩ := hx
      · cases l with
        | nil => rfl
        | cons y r => simp [bc] at h0
      · cases h0
    subst hl
    exact hK _ w (.inl ⟨rfl, rfl, rfl⟩) (Ext.refl _ _) (by simp [slB])
  | some a =>
    show condW (.bool false) _ _
    rw [condW_f]
    refine (Sep.zero1 (U := rR _ 1 (bc l) l.length) hx).litB [] rfl (by simp) fun t w1 s _ _ => ?_
    obtain ⟨ui, hui, huz, husz, huby⟩ := tyI_spec ty_u8
    refine s.appendO (v := t) (n := 0) (m := l.length) (ys := bc l) (xs := bc []) 0 (by rw [husz]; rfl) und_u8s und_u8s hui huz (by rw [husz]; rfl) (by rw [huby]; decide) (by rw [husz]; exact s.rat 0 rfl) (bc_one _) (by rw [huby]; omega) fun v' w2 s => ?_
    rw [husz, ← bc_append, List.nil_append, Nat.zero_add] at s
    exact hK v' w2 (s.at 0 rfl) s.ext (s.fresh 0 rfl)
end Go.Proofs.Ytedebapgmfnflaa
