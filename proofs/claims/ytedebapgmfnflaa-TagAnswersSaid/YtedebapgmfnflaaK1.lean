/- Functions without a body; strings.Builder. Condition of the builder: at most 2^30 bytes, at least one when it tells its string. -/
import Derived.Test.YtedebapgmfnflaaSB
import Derived.Test.YtedebapgmfnflaaCU
import Derived.Lib.BytesEntry
import Derived.Lib.UnsafeStr
import Derived.Lib.Builder
namespace Go.Proofs.Ytedebapgmfnflaa
open Go
set_option maxRecDepth 100000

/-- A call of a function without a body. -/
theorem fnW_ext {P : Program} {f : FuncId} {fn : Func} {e : Array Value → Sem Value} {args : Array Value} {v : Value} {w w' : World} {K : VPost}
    (hf : P.funcs[f]? = some fn) (hname : (fn.name == "runtime.NumGoroutine") = false) (hb : fn.body.isNone = true) (hn : Extern.findNext fn = none) (he : Extern.find fn = some e)
    (hr : (e args).run P w = .ok v w') (hK : K v w') : fnW P f args w K := by
  unfold fnW
  rw [run_callFunc_extern hf hname hb hn he, hr]
  exact hK

theorem bytesOf_map (l : Bytes) : Lib.bytesOf (l.map fun b => (b.toNat : Int)) = l := by
  unfold Lib.bytesOf
  rw [List.map_map]
  induction l with
  | nil => rfl
  | cons x r ih => rw [List.map_cons, ih]; simp
theorem RBlk.cellAt {w : World} {b j : Nat} {cs : List Value} {v : Value} (h : RBlk w b cs) (hv : cs[j]? = some v) : w.cell? ⟨b, j, none⟩ = some v := by
  obtain ⟨t, fz, h⟩ := h
  simp [World.cell?, h, hv]
/-- The bytes of a slice, for a function without a body. -/
theorem RdSl.bytesX {P : Program} {w : World} {v : Value} {l : Bytes} (h : RdSl w v 1 (bc l) l.length) : (Extern.Bytes.bytesOf v).run P w = .ok ⟨l.toArray⟩ w := by
  obtain ⟨_, ⟨h0, a, c, rfl⟩ | ⟨b, o, c, cs, rfl, hb, ht, hle⟩⟩ := h
  · have hl : l = [] := by cases l with
      | nil => rfl
      | cons x r => simp [bc] at h0
    subst hl
    cases a <;> rfl
  · have hx := Lib.run_loadBytesX (P := P) w (l.map fun b => (b.toNat : Int)) ⟨b, o, none⟩ .empty (fun j x hj => by
      rw [add_addr]
      refine hb.cellAt ?_
      rw [List.getElem?_map] at hj
      have h2 : ((cs.drop o).take (l.length * 1))[j]? = (bc l)[j]? := by rw [ht]
      cases hlj : l[j]? with
      | none => rw [hlj] at hj; simp at hj
      | some y =>
        rw [hlj] at hj
        have hx : (y.toNat : Int) = x := by simpa using hj
        have hjl : j < l.length := (List.getElem?_eq_some_iff.1 hlj).1
        rw [List.getElem?_take_of_lt (by omega), List.getElem?_drop] at h2
        rw [h2, ← hx]
        simp [bc, hlj, bv])
    rw [bytesOf_map, List.length_map] at hx
    show (Extern.Bytes.loadBytes ⟨b, o, none⟩ l.length .empty).run P w = _
    rw [hx]
    congr 1
    apply ByteArray.ext
    show (#[] : Array UInt8) ++ l.toArray = l.toArray
    simp

theorem run_cmpX {P : Program} {w : World} {va vb : Value} {a b : Bytes} (ha : RdSl w va 1 (bc a) a.length) (hb : RdSl w vb 1 (bc b) b.length) :
    (Extern.BytealgCompare.compare #[va, vb]).run P w = .ok (.int .i64 (Lib.compareBytes a b)) w := by
  change Sem.run P (do pure (goInt (Extern.BytealgCompare.cmp (← Extern.Bytes.bytesOf va) (← Extern.Bytes.bytesOf vb)))) w = _
  simp only [Sem.run_bind, ha.bytesX, hb.bytesX, Result.andThen_ok, Sem.run_pure]
  rw [Lib.cmp_eq]
  rfl

theorem bytesCompare_c {w : World} {K : VPost} {va vb : Value} {a b : Bytes} (ha : RdSl w va 1 (bc a) a.length) (hb : RdSl w vb 1 (bc b) b.length) (hK : K (.int .i64 (Lib.compareBytes a b)) w) :
    Calls Try.prog 89 #[va, vb] w (retK K) := by
  refine c89_calls _ _ w K ?_
  unfold c89
  exact fnW_ext Try.func108 (by kernel_rfl) (by kernel_rfl) (by kernel_rfl) (e := Extern.BytealgCompare.compare) (by kernel_rfl) (run_cmpX ha hb) hK

theorem indexByte_c {w : World} {K : VPost} {s : ByteArray} {c : UInt8} (hK : K (.int .i64 (Lib.indexByte s.data.toList c)) w) : Calls Try.prog 85 #[.string s, bv c] w (retK K) := by
  refine c85_calls _ _ w K ?_
  unfold c85
  refine fnW_of (by kernel_rfl) ?_
  refine c106_calls _ _ w _ ?_
  unfold c106
  have hr := Lib.run_indexByteString (P := Try.prog) s (c.toNat : Int) w
  have hc : ((c.toNat : Int).toNat).toUInt8 = c := by simp
  rw [hc] at hr
  exact fnW_ext Try.func112 (by kernel_rfl) (by kernel_rfl) (by kernel_rfl) (e := Extern.BytealgIndexByte.indexByte) (by kernel_rfl) hr hK

/-! ### strings.Builder -/
theorem und_pbld : Try.prog.underlying 120 = some (.pointer 122) := by kernel_rfl
theorem und_unsafe : Try.prog.underlying 147 = some .unsafePointer := by kernel_rfl
theorem und_pu8 : Try.prog.underlying 143 = some (.pointer 5) := by kernel_rfl
theorem ty_bld : tyI Try.prog 122 = some (.agg #[.pointer none, .slice none 0 0], 2, 32) := by kernel_rfl
theorem zero_bld : zeroO Try.prog 122 = some (.agg #[.pointer none, .slice none 0 0]) := by kernel_rfl
theorem lies_bld : liesAt Try.prog Try.prog.depth 122 (2 / Try.prog.cellsOf 122) 0 122 1 = true := by kernel_rfl
theorem cells_u8 : Try.prog.cellsOf 5 = 1 := by kernel_rfl

theorem ptr_neq_same {P : Program} {w : World} {K : VPost} {t e : TypeId} {c : Bool} {a : Addr} {j : TypeInfo} (hp : P.underlying t = some (.pointer e)) (hte : P.info? e = some j) : binW P .neq t c (.pointer (some a)) (.pointer (some a)) w K = K (.bool false) w := by
  have h : ∀ d : Nat, (Op.equalIn (d + 1) t (.pointer (some a)) (.pointer (some a))).run P w = .ok true w := fun d => by
    simp [Op.equalIn, run_underlying hp, sizeOf, typeInfo, hte, run_sameAddr_same]
  exact bin_nequal (fun _ => by cases c <;> rfl) rfl (h 9999)

theorem Blk.shape {w : World} {b : Nat} {cs : List Value} {t : TypeId} (h : Blk w b cs t) : w.shape? b = some (t, cs.length) := by
  unfold Blk at h
  simp [World.shape?, h]

theorem copyCheck_c {S : List Nat} {w0 w : World} {L R : List Res} {K : VPost} {b : Nat} {p v : Value} (s : Sep S w0 w (rB b [p, v] 122 :: L) R) (hp : p = .pointer none ∨ p = .pointer (some ⟨b, 0, none⟩))
    (hK : ∀ u w', Sep S w0 w' (rB b [.pointer (some ⟨b, 0, none⟩), v] 122 :: L) R → K u w') : Calls Try.prog 107 #[.pointer (some ⟨b, 0, none⟩)] w (retK K) := by
  refine c107_calls _ w K ?_
  unfold c107
  obtain ⟨bi, hbi, hbz, hbs, hbb⟩ := tyI_spec ty_bld
  refine nil_i ?_
  refine off_i ?_
  refine s.load1 0 rfl (o := 0) rfl ?_
  rcases hp with rfl | rfl
  · rw [nil_eql_nil und_pbld, condW_t]
    have hsh : w.shape? b = some (122, 2) := Blk.shape (s.at 0 rfl)
    have h1 := Lib.run_to_unsafe (P := Try.prog) w (a := ⟨b, 0, none⟩) und_pbld und_unsafe hbi (by rw [hbs]; decide) hsh (show 0 < 2 by decide)
    have h2 := Lib.run_from_unsafe (P := Try.prog) w (a := ⟨b, 0, none⟩) und_unsafe und_pbld hbi hsh lies_bld
    refine insW_ok h1 ?_
    refine fnW_ext (w' := w) (v := .pointer (some ⟨b, 0, none⟩)) Try.func113 (by kernel_rfl) (by kernel_rfl) (by kernel_rfl) (e := Extern.AbiNoEscape.same) (by kernel_rfl) (Lib.run_noEscape w _) ?_
    refine insW_ok h2 ?_
    refine nil_i ?_
    refine off_i ?_
    refine s.store1 0 rfl (o := 0) rfl (by simp) rfl fun w1 s _ => ?_
    exact hK _ _ s
  · rw [ptr_eql_nil und_pbld, condW_f]
    refine nil_i ?_
    refine off_i ?_
    refine s.load1 0 rfl (o := 0) rfl ?_
    rw [ptr_neq_same und_pbld hbi, condW_f]
    exact hK _ _ s

/-- A byte more, behind a slice from its block's beginning. -/
theorem Sep.addByteS {S : List Nat} {w0 w : World} {L R : List Res} {K : Value → VPost} {v : Value} {l : Bytes} {n : Nat} (s : Sep S w0 w L R) (i : Nat) (hL : L[i]? = some (rS v 5 1 (bc l) n)) (b : UInt8) (hn : n ≤ 2 ^ 38)
    (h : ∀ t v' w', Sep S w0 w' (L.set i (rS v' 5 1 (bc (l ++ [b])) (n + 1))) R → K t v' w') :
    insW Try.prog (Instr.buildSlice 34 1 #[(0, bv b)]) w fun t w' => insW Try.prog (Builtin.append_ #[34, 34] 34 #[v, t]) w' (K t) := by
  obtain ⟨ui, hui, huz, husz, huby⟩ := tyI_spec ty_u8
  refine s.lit (vs := [bv b]) und_u8s hui huz rfl (by intro x hx; simp at hx; subst hx; rw [husz]; rfl) (by rw [husz]; simp) fun t w1 s1 ht _ => ?_
  have s1 : Sep S w0 w1 (rO t 5 ui.size [bv b] 1 :: L) R := s1
  rw [husz] at s1
  refine s1.append (v := v) (n := n) (m := 1) (ys := [bv b]) (xs := bc l) (i + 1) (by rw [husz]; simpa using hL) und_u8s und_u8s hui huz (by rw [husz]; rfl) (by rw [huby]; decide) (by rw [husz]; exact OwnAt.rd (s1.at 0 rfl)) (by intro y hy; simp at hy; subst hy; rfl) (by rw [huby]; omega) fun v' w2 s2 => ?_
  rw [husz] at s2
  have e : bc l ++ [bv b] = bc (l ++ [b]) := by simp [bc]
  rw [e] at s2
  exact h t v' w2 (s2.drop 0)

theorem writeByte_c {S : List Nat} {w0 w : World} {L R : List Res} {K : VPost} {b n : Nat} {p v : Value} {l : Bytes} {c : UInt8} (s : Sep S w0 w (rB b [p, v] 122 :: rS v 5 1 (bc l) n :: L) R) (hp : p = .pointer none ∨ p = .pointer (some ⟨b, 0, none⟩)) (hn : n ≤ 2 ^ 30)
    (hK : ∀ v' w', Sep S w0 w' (rB b [.pointer (some ⟨b, 0, none⟩), v'] 122 :: rS v' 5 1 (bc (l ++ [c])) (n + 1) :: L) R → K .nilIface w') : Calls Try.prog 87 #[.pointer (some ⟨b, 0, none⟩), bv c] w (retK K) := by
  refine c87_calls _ _ w K ?_
  unfold c87
  refine fnW_of (by kernel_rfl) (copyCheck_c s hp fun u w1 s => ?_)
  refine nil_i ?_
  refine off_i ?_
  refine s.load1 0 rfl (o := 1) rfl ?_
  refine s.addByteS 1 rfl c (by omega) fun t v' w2 s => ?_
  have s : Sep S w0 w2 (rB b [.pointer (some ⟨b, 0, none⟩), v] 122 :: rS v' 5 1 (bc (l ++ [c])) (n + 1) :: L) R := s
  refine nil_i ?_
  refine off_i ?_
  have hv : OwnSl w2 v' 5 1 (bc (l ++ [c])) (n + 1) := s.at 1 rfl
  obtain ⟨a, d, rfl⟩ := hv.rd.len
  refine s.store1 0 rfl (o := 1) rfl (by simp) rfl fun w3 s _ => ?_
  exact hK _ _ s

/-- Nothing. -/
def rNo : Res := ⟨[], fun _ => True, fun _ b hb => (by cases hb), fun h _ _ => h⟩
theorem Ext.freeze (w : World) (g o n : Nat) : Ext [g] w (w.freeze ⟨g, o, none⟩ n) := by
  unfold World.freeze
  split
  · exact Ext.refl _ _
  · exact ⟨rfl, rfl, rfl, by simp, fun b _ hb => by
      simp only [List.mem_singleton] at hb
      simp only [Array.getElem?_modify]
      rw [if_neg (fun e => hb e.symm)]⟩

theorem string_c {S : List Nat} {w0 w : World} {L R : List Res} {K : VPost} {b : Nat} {p v : Value} {l : Bytes} (s : Sep S w0 w (rB b [p, v] 122 :: rS v 5 1 (bc l) l.length :: L) R) (h0 : l ≠ []) (hn : l.length ≤ 2 ^ 30)
    (hK : ∀ w', Sep S w0 w' L R → K (.string ⟨l.toArray⟩) w') : Calls Try.prog 88 #[.pointer (some ⟨b, 0, none⟩)] w (retK K) := by
  refine c88_calls _ w K ?_
  unfold c88
  have s := s.drew
  have hv : OwnSl w.drew v 5 1 (bc l) l.length := s.at 1 rfl
  have hl : 0 < l.length := List.length_pos_iff.2 h0
  rcases hv with ⟨_, h1, _⟩ | ⟨g, c, rest, rfl, hb, _, hc, hn'⟩
  · omega
  refine nil_i ?_
  refine off_i ?_
  refine s.load1 0 rfl (o := 1) rfl ?_
  refine nil_i ?_
  refine off_i ?_
  refine s.load1 0 rfl (o := 1) rfl ?_
  rw [len_s]
  have r1 := Lib.run_unsafeSliceData_row (P := Try.prog) w.drew #[34] 143 ⟨g, 0, none⟩ l.length c (by omega)
  have hsh := Blk.shape hb
  have r2 := Lib.run_unsafeString_row (P := Try.prog) w.drew 143 3 9 5 und_pu8 cells_u8 g _ hsh l h0 (by simp [bc]) (by omega) (fun j x hj => by
    rw [add_addr, Nat.zero_add]
    refine RBlk.cellAt hb.r ?_
    have hjl : j < l.length := (List.getElem?_eq_some_iff.1 hj).1
    rw [List.getElem?_append_left (by rw [bc_length]; exact hjl)]
    simp [bc, hj, bv])
  refine insW_ok r1 ?_
  refine ⟨s.load1 0 rfl (o := 1) rfl ⟨rfl, rfl⟩, ?_⟩
  refine insW_ok r2 ?_
  have s := s.upd (T := rS (.slice (some ⟨g, 0, none⟩) l.length c) 5 1 (bc l) l.length) 1 rfl (T' := rNo) trivial (Ext.freeze w.drew g 0 l.length) (by simp [rNo])
  exact hK _ ((s.drop 0).drop 0)
end Go.Proofs.Ytedebapgmfnflaa
