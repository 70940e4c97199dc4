/- Things in hand found by what they are; literal digests, texts and rows; texts compared. -/
import Derived.Test.YtedebapgmfnflaaM16
import Derived.Test.YtedebapgmfnflaaK3
import Derived.Lib.Bytealg
namespace Go.Proofs.Ytedebapgmfnflaa
open Go
set_option maxRecDepth 100000

section
variable {S : List Nat} {w0 w : World} {L R : List Res} {K : VPost}
theorem Sep.loadM {n b : Nat} {cs : List Value} {t : TypeId} (s : Sep S w0 w L R) (hm : rB b cs t ∈ L) (hn : cs.length = n) (h : K (.agg cs.toArray) w) : loadW (some (true, n)) (.pointer (some ⟨b, 0, none⟩)) w K :=
  Go.Proofs.Ytedebapgmfnflaa.loadAll (Blk.r (s.own _ hm)) hn h
theorem flatV_digs (ds : List Bytes) : flatV (ds.map fun d => Value.agg (bc d).toArray) = fl ds := by
  induction ds with
  | nil => rfl
  | cons d r ih =>
    have e : flatV ((d :: r).map fun d => Value.agg (bc d).toArray) = (Value.agg (bc d).toArray).cells.toList ++ flatV (r.map fun d => Value.agg (bc d).toArray) := by simp [flatV]
    rw [e, ih]
    rfl
/-- Literal digests. -/
theorem Sep.litD (s : Sep S w0 w L R) (ds : List Bytes) {parts : List (Nat × Value)} (hp : parts = enumV 0 (ds.map fun d => Value.agg (bc d).toArray)) (hd : ∀ d ∈ ds, d.length = 32) (hl : ds.length ≤ 1000)
    (h : ∀ v' w', Sep S w0 w' (rO v' 62 32 (fl ds) ds.length :: L) R → K v' w') : insW Try.prog (Instr.buildSlice 75 ds.length parts.toArray) w K := by
  obtain ⟨ti, hti, htz, hts, htb⟩ := tyI_spec ty_dig
  have key := s.lit (K := K) (vs := ds.map fun d => Value.agg (bc d).toArray) und_digs hti htz hp (by
    intro v hv
    obtain ⟨d, hd', rfl⟩ := List.mem_map.1 hv
    rw [hts]
    show (bc d).toArray.size = 32
    rw [List.size_toArray, bc_length]
    exact hd d hd') (by rw [hts, List.length_map]; omega) fun v' w' s' _ _ => h v' w' (by
    rw [hts, flatV_digs, List.length_map] at s'
    exact s')
  rw [List.length_map] at key
  exact key
/-- Literal texts. -/
theorem ty_str : tyI Try.prog 9 = some (.string ⟨#[]⟩, 1, 16) := by kernel_rfl
theorem und_strs : Try.prog.underlying 88 = some (.slice 9) := by kernel_rfl
theorem flatV_one {vs : List Value} (h : ∀ v ∈ vs, v.cells = #[v]) : flatV vs = vs := by
  induction vs with
  | nil => rfl
  | cons v r ih =>
    have e : flatV (v :: r) = v.cells.toList ++ flatV r := by simp [flatV]
    rw [e, h v (by simp), ih (fun x hx => h x (by simp [hx]))]
    rfl
theorem Sep.litS (s : Sep S w0 w L R) (ls : List Bytes) {parts : List (Nat × Value)} (hp : parts = enumV 0 (ls.map sv)) (hl : ls.length ≤ 1000)
    (h : ∀ v' w', Sep S w0 w' (rO v' 9 1 (ls.map sv) ls.length :: L) R → K v' w') : insW Try.prog (Instr.buildSlice 88 ls.length parts.toArray) w K := by
  obtain ⟨ti, hti, htz, hts, htb⟩ := tyI_spec ty_str
  have h1 : ∀ v ∈ ls.map sv, v.cells = #[v] := by
    intro v hv
    obtain ⟨l, _, rfl⟩ := List.mem_map.1 hv
    rfl
  have key := s.lit (K := K) (vs := ls.map sv) und_strs hti htz hp (fun v hv => by rw [h1 v hv, hts]; rfl) (by rw [hts, List.length_map]; omega) fun v' w' s' _ _ => h v' w' (by
    rw [hts, flatV_one h1, List.length_map] at s'
    exact s')
  rw [List.length_map] at key
  exact key
/-- Bytes of one's own. -/
def rDb (v : Value) (l : Bytes) : Res := rO v 5 1 (bc l) l.length
theorem Sep.apB {v x : Value} {l y : Bytes} (s : Sep S w0 w L R) (i : Nat) (hL : L[i]? = some (rDb v l)) (hx : RdSl w x 1 (bc y) y.length) (hn : l.length + y.length ≤ 2 ^ 36)
    (h : ∀ v' w', Sep S w0 w' (L.set i (rDb v' (l ++ y))) R → K v' w') : insW Try.prog (Builtin.append_ #[34, 34] 34 #[v, x]) w K := by
  obtain ⟨ui, hui, huz, husz, huby⟩ := tyI_spec ty_u8
  refine s.appendO (v := v) (n := l.length) (m := y.length) (ys := bc y) (xs := bc l) i (by rw [husz]; exact hL) und_u8s und_u8s hui huz (by rw [husz]; rfl) (by rw [huby]; decide) (by rw [husz]; exact hx) (bc_one _) (by rw [huby]; omega) fun v' w' s => ?_
  rw [husz, ← bc_append, ← List.length_append] at s
  exact h v' w' s
/-- A literal row. -/
theorem Sep.litR {a : Option Addr} {m c : Nat} (s : Sep S w0 w L R) (h : ∀ v' w', Sep S w0 w' (rO v' 34 1 [.slice a m c] 1 :: L) R → K v' w') : insW Try.prog (Instr.buildSlice 56 1 #[(0, .slice a m c)]) w K := by
  obtain ⟨ti, hti, htz, hts, htb⟩ := tyI_spec ty_row
  exact s.lit (vs := [.slice a m c]) und_rows hti htz rfl (by intro x hx; simp at hx; subst hx; rw [hts]; rfl) (by rw [hts]; simp) fun t w1 s1 _ _ => h t w1 (by rw [hts] at s1; exact s1)
end

section
variable {P : Program} {w : World} {K : VPost} {t : TypeId} {c : Bool}
theorem bindV_i {α : Sort _} {k : α} {F : α → Prop} (h : ∀ J : α, J = k → F J) : bindV k F := h k rfl
theorem pick_ti {a b : Value} (h : K a w) : pickW (.bool true) a b w K := h
theorem pick_fi {a b : Value} (h : K b w) : pickW (.bool false) a b w K := h
theorem not_ti {b : Bool} (h : K (.bool !b) w) : unN P .not (.bool b) w K := h
theorem bl_list (a : Bytes) : (ByteArray.mk a.toArray).toList = a := by rw [Lib.toList_data]
theorem str_eql {a b : Bytes} (h : K (.bool (decide (a = b))) w) : binW P .eql t c (.string ⟨a.toArray⟩) (.string ⟨b.toArray⟩) w K := by
  have e : (Op.stringOp .eql ⟨a.toArray⟩ ⟨b.toArray⟩).run P w = .ok (.bool (decide (a = b))) w := by
    simp only [Op.stringOp, bl_list, Sem.run_pure]
    congr 2
    by_cases h : a = b <;> simp [h]
  unfold binW insW binE
  rw [Sem.run_bind]
  have hg : (guardE .eql t c (.string ⟨a.toArray⟩) (.string ⟨b.toArray⟩)).run P w = .ok () w := by cases c <;> rfl
  rw [hg, Result.andThen_ok]
  show okW K ((Op.stringOp .eql ⟨a.toArray⟩ ⟨b.toArray⟩).run P w)
  rw [e]
  exact h
theorem str_lss {a b : Bytes} (h : K (.bool (decide (Lib.compareBytes a b < 0))) w) : binW P .lss t c (.string ⟨a.toArray⟩) (.string ⟨b.toArray⟩) w K := by
  have e : (Op.stringOp .lss ⟨a.toArray⟩ ⟨b.toArray⟩).run P w = .ok (.bool (decide (Lib.compareBytes a b < 0))) w := by
    simp only [Op.stringOp, bl_list, Sem.run_pure, less_cmp]
  unfold binW insW binE
  rw [Sem.run_bind]
  have hg : (guardE .lss t c (.string ⟨a.toArray⟩) (.string ⟨b.toArray⟩)).run P w = .ok () w := by cases c <;> rfl
  rw [hg, Result.andThen_ok]
  show okW K ((Op.stringOp .lss ⟨a.toArray⟩ ⟨b.toArray⟩).run P w)
  rw [e]
  exact h
theorem str_gtr {a b : Bytes} (h : K (.bool (decide (0 < Lib.compareBytes a b))) w) : binW P .gtr t c (.string ⟨a.toArray⟩) (.string ⟨b.toArray⟩) w K := by
  have e : (Op.stringOp .gtr ⟨a.toArray⟩ ⟨b.toArray⟩).run P w = .ok (.bool (decide (0 < Lib.compareBytes a b))) w := by
    simp only [Op.stringOp, bl_list, Sem.run_pure, less_cmp]
    congr 2
    have hz := cmp_zero a b
    rcases cmp_three a b with h | h | h
    · have hne : ¬ a = b := fun e => by rw [hz.2 e] at h; cases h
      simp [h, hne]
    · have he := hz.1 h
      subst he
      simp [h]
    · have hne : ¬ a = b := fun e => by rw [hz.2 e] at h; cases h
      simp [h, hne]
  unfold binW insW binE
  rw [Sem.run_bind]
  have hg : (guardE .gtr t c (.string ⟨a.toArray⟩) (.string ⟨b.toArray⟩)).run P w = .ok () w := by cases c <;> rfl
  rw [hg, Result.andThen_ok]
  show okW K ((Op.stringOp .gtr ⟨a.toArray⟩ ⟨b.toArray⟩).run P w)
  rw [e]
  exact h
theorem bool_eql {a b : Bool} (hu : P.underlying t = some .bool) (h : K (.bool (a == b)) w) : binW P .eql t c (.bool a) (.bool b) w K := by
  refine (bin_equal (fun _ => by cases c <;> rfl) rfl ?_).mpr h
  show (Op.equalIn (9999 + 1) t _ _).run P w = _
  unfold Op.equalIn
  rw [Sem.run_bind, run_und hu]
  rfl
theorem build_dig {parts : List (Nat × Value)} {out : Bytes} {w : World} {K : VPost} (hf : fillA 1 (bc (List.replicate 32 0)) parts = some (bc out)) (h : K (.agg (bc out).toArray) w) : insW Try.prog (Instr.build 62 parts.toArray) w K := by
  obtain ⟨ti, hi, hz, hs, hb⟩ := tyI_spec ty_dig
  obtain ⟨ui, hui, huz, husz, huby⟩ := tyI_spec ty_u8
  refine buildA_i (parts := parts) (by kernel_rfl : Try.prog.underlying 62 = some (.array 32 5)) hi hz hui ?_ h
  rw [husz]
  exact hf
end
end Go.Proofs.Ytedebapgmfnflaa
