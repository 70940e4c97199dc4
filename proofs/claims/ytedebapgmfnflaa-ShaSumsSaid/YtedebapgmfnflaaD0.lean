/- Bytes as cells; what a disk is, and what it is told. -/
import Derived.Test.YtedebapgmfnflaaG10
namespace Go.Proofs.Ytedebapgmfnflaa
open Go

abbrev Bytes := List UInt8
def bv (b : UInt8) : Value := .int .u8 b.toNat
def bc (l : Bytes) : List Value := l.map bv
theorem bc_length (l : Bytes) : (bc l).length = l.length := by simp [bc]
theorem bc_one (l : Bytes) : ∀ x ∈ bc l, x.oneCell' = true := by
  intro x hx
  obtain ⟨b, _, rfl⟩ := List.mem_map.1 hx
  rfl
theorem bv_inj {a b : UInt8} (h : bv a = bv b) : a = b := by
  unfold bv at h
  simp only [Value.int.injEq, true_and] at h
  exact UInt8.toNat_inj.1 (by omega)
theorem bc_inj {a b : Bytes} (h : bc a = bc b) : a = b := by
  induction a generalizing b with
  | nil => cases b with
    | nil => rfl
    | cons y r => simp [bc] at h
  | cons x r ih =>
    cases b with
    | nil => simp [bc] at h
    | cons y s =>
      simp only [bc, List.map_cons, List.cons.injEq] at h
      rw [bv_inj h.1, ih (by simpa [bc] using h.2)]

/-- Bytes with others in the place of some of them. -/
def bspl (l : Bytes) (o : Nat) (b : Bytes) : Bytes := l.take o ++ b ++ l.drop (o + b.length)
theorem bc_spl (l : Bytes) (o : Nat) (b : Bytes) : bc (bspl l o b) = lspl (bc l) o (bc b) := by
  simp [bc, bspl, lspl, List.map_take, List.map_drop]
theorem bspl_length {l : Bytes} {o : Nat} {b : Bytes} (h : o + b.length ≤ l.length) : (bspl l o b).length = l.length := by
  simp [bspl]; omega
theorem bc_part (l : Bytes) (o n : Nat) : ((bc l).drop o).take n = bc ((l.drop o).take n) := by
  simp [bc, List.map_take, List.map_drop]
theorem bc_append (a b : Bytes) : bc (a ++ b) = bc a ++ bc b := by simp [bc]

/-- What owns some blocks has gone on: the named blocks alone may have changed; it has of them, and new ones. -/
structure Mv (F : List Nat) (w : World) (F' : List Nat) (w' : World) : Prop where
  ext : Ext F w w'
  own : ∀ b ∈ F', b ∈ F ∨ w.heap.size ≤ b

theorem Mv.refl (F : List Nat) (w : World) : Mv F w F w := ⟨Ext.refl F w, fun b hb => .inl hb⟩
theorem Mv.trans {F F1 F2 : List Nat} {w w1 w2 : World} (h : Mv F w F1 w1) (k : Mv F1 w1 F2 w2) : Mv F w F2 w2 :=
  ⟨h.ext.step k.ext (fun x hx hlt => by rcases h.own x hx with h1 | h1 <;> first | exact h1 | omega),
   fun b hb => by
    rcases k.own b hb with h1 | h1
    · exact h.own b h1
    · exact .inr (Nat.le_trans h.ext.size h1)⟩

theorem Ext.undrew {S : List Nat} {w w' : World} (h : Ext S w.drew w') : Ext S w w' := ⟨h.os, h.tape, h.output, h.size, h.same⟩

/-- A block that begins with these cells. -/
def PB (w : World) (b : Nat) (cs : List Value) (t : TypeId) : Prop := ∃ rest, Blk w b (cs ++ rest) t
theorem Blk.pb {w : World} {b : Nat} {cs : List Value} {t : TypeId} (h : Blk w b cs t) : PB w b cs t := ⟨[], by rwa [List.append_nil]⟩
theorem PB.keep {w w' : World} {b : Nat} {cs : List Value} {t : TypeId} {S : List Nat} (h : PB w b cs t) (e : Ext S w w') (hn : b ∉ S) : PB w' b cs t := by
  obtain ⟨r, h⟩ := h; exact ⟨r, h.keep e hn⟩
theorem PB.lt {w : World} {b : Nat} {cs : List Value} {t : TypeId} (h : PB w b cs t) : b < w.heap.size := by obtain ⟨r, h⟩ := h; exact h.lt
theorem lspl_app {cs vs rest : List Value} {o : Nat} (h : o + vs.length ≤ cs.length) : lspl (cs ++ rest) o vs = lspl cs o vs ++ rest := by
  unfold lspl
  rw [List.take_append_of_le_length (by omega), List.drop_append_of_le_length (by omega), List.append_assoc, List.append_assoc, List.append_assoc]
theorem PB.loadN {w : World} {K : VPost} {n b o : Nat} {cs : List Value} {t : TypeId} (hb : PB w b cs t) (hn : o + n ≤ cs.length) (h : K (.agg ((cs.drop o).take n).toArray) w) : loadW (some (true, n)) (.pointer (some ⟨b, o, none⟩)) w K := by
  obtain ⟨r, hb⟩ := hb
  refine Go.Proofs.Ytedebapgmfnflaa.loadN hb.r (by rw [List.length_append]; omega) ?_
  rw [List.drop_append_of_le_length (by omega), List.take_append_of_le_length (by rw [List.length_drop]; omega)]
  exact h
theorem PB.store {g : Bool} {n b o : Nat} {w : World} {cs vs : List Value} {t : TypeId} {v : Value} {K : World → Prop} (hb : PB w b cs t) (hv : v.cells = vs.toArray) (hn : vs.length = n) (hle : o + n ≤ cs.length)
    (h1 : ∀ x ∈ vs, x.oneCell' = true) (h : ∀ w', Ext [b] w w' → PB w' b (lspl cs o vs) t → w'.heap.size = w.heap.size → K w') : storeW (some (g, n)) (.pointer (some ⟨b, o, none⟩)) v w K := by
  obtain ⟨r, hb⟩ := hb
  refine storeW_i hb hv hn (by rw [List.length_append]; omega) h1 fun w' e hb' hs => h w' e ⟨r, ?_⟩ hs
  rwa [lspl_app (by omega)] at hb'
theorem PB.rd {w : World} {b m s c : Nat} {cs : List Value} {t : TypeId} (hb : PB w b cs t) (hc : cs.length = m * s) : RdSl w (.slice (some ⟨b, 0, none⟩) m c) s cs m := by
  obtain ⟨r, hb⟩ := hb
  exact ⟨hc, .inr ⟨b, 0, c, _, rfl, hb.r, by rw [List.drop_zero, ← hc, List.take_left], by rw [List.length_append]; omega⟩⟩
theorem PB.copy {P : Program} {w : World} {K : VPost} {T T' ty e : TypeId} {i : TypeInfo} {x : Value} {ys cs : List Value} {n m c b o : Nat} {te : TypeId}
    (hu : P.underlying T = some (.slice e)) (hi : P.info? e = some i) (hb : PB w b cs te) (hx : RdSl w x i.size ys m) (h1 : ∀ y ∈ ys, y.oneCell' = true) (hle : o + n * i.size ≤ cs.length)
    (h : ∀ w', Ext [b] w w' → PB w' b (lspl cs o (ys.take (min m n * i.size))) te → w'.heap.size = w.heap.size → K (.int .i64 (min m n : Nat)) w') :
    insW P (Builtin.copy_ #[T, T'] ty #[.slice (some ⟨b, o, none⟩) n c, x]) w K := by
  obtain ⟨r, hb⟩ := hb
  have hmn2 : min m n * i.size ≤ n * i.size := Nat.mul_le_mul_right _ (Nat.min_le_right _ _)
  refine copy_i hu hi hb hx h1 (by rw [List.length_append]; omega) fun w' e hb' hs => h w' e ⟨r, ?_⟩ hs
  rwa [lspl_app (by rw [List.length_take]; omega)] at hb'

structure DiskM where
  n : Nat
  last : Bytes
  seen : Bytes
  pend : List (Nat × Bytes)
  left : Int

def pcells (p : List (Nat × Bytes)) : List Value := p.flatMap fun x => .int .i64 x.1 :: bc x.2

structure DiskM.ok (D : DiskM) : Prop where
  llen : D.last.length = 64 * D.n
  slen : D.seen.length = 64 * D.n
  plen : ∀ x ∈ D.pend, x.1 < D.n ∧ x.2.length = 64
  n1 : 1 ≤ D.n
  n2 : D.n ≤ 4096
  l1 : -1 ≤ D.left
  l2 : D.left ≤ 9223372036854775807

structure IsDisk (w : World) (p bl bs zl zs : Nat) (pv : Value) (D : DiskM) : Prop where
  hdr : Blk w p [.slice (some ⟨bl, 0, none⟩) D.n zl, .slice (some ⟨bs, 0, none⟩) D.n zs, pv, .int .i64 D.left] 102
  last : PB w bl (bc D.last) 33
  seen : PB w bs (bc D.seen) 33
  pend : OwnSl w pv 104 65 (pcells D.pend) D.pend.length
  ok : D.ok
  ne1 : p ≠ bl
  ne2 : p ≠ bs
  ne3 : bl ≠ bs
  ne4 : p ∉ slB pv
  ne5 : bl ∉ slB pv
  ne6 : bs ∉ slB pv

/-- The disk behind a pointer, and the blocks that are its. -/
def Disk (w : World) (p : Nat) (F : List Nat) (D : DiskM) : Prop := ∃ bl bs zl zs pv, IsDisk w p bl bs zl zs pv D ∧ F = [p, bl, bs] ++ slB pv

theorem Disk.keep {w w' : World} {p : Nat} {F S : List Nat} {D : DiskM} (h : Disk w p F D) (e : Ext S w w') (hd : ∀ b ∈ F, b ∉ S) : Disk w' p F D := by
  obtain ⟨bl, bs, zl, zs, pv, h, rfl⟩ := h
  exact ⟨bl, bs, zl, zs, pv, ⟨h.hdr.keep e (hd p (by simp)), h.last.keep e (hd bl (by simp)), h.seen.keep e (hd bs (by simp)), h.pend.keep e (fun b hb => hd b (by simp [hb])), h.ok, h.ne1, h.ne2, h.ne3, h.ne4, h.ne5, h.ne6⟩, rfl⟩

theorem Disk.lt {w : World} {p : Nat} {F : List Nat} {D : DiskM} (h : Disk w p F D) : ∀ b ∈ F, b < w.heap.size := by
  obtain ⟨bl, bs, zl, zs, pv, h, rfl⟩ := h
  intro b hb
  simp only [List.cons_append, List.nil_append, List.mem_cons] at hb
  rcases hb with rfl | rfl | rfl | hb
  · exact h.hdr.lt
  · exact h.last.lt
  · exact h.seen.lt
  · exact h.pend.lt b hb

/-! ### Facts of the program's types -/
/-- A type's zero value, cells and bytes. -/
def tyI (P : Program) (t : TypeId) : Option (Value × Nat × Nat) :=
  match P.info? t with
  | some i => match i.zero with | some z => some (z, i.size, i.bytes) | none => none
  | none => none
theorem tyI_spec {P : Program} {t : TypeId} {z : Value} {s b : Nat} (h : tyI P t = some (z, s, b)) : ∃ i, P.info? t = some i ∧ i.zero = some z ∧ i.size = s ∧ i.bytes = b := by
  unfold tyI at h
  split at h
  · rename_i i hi
    split at h
    · rename_i z' hz
      simp only [Option.some.injEq, Prod.mk.injEq] at h
      obtain ⟨rfl, rfl, rfl⟩ := h
      exact ⟨i, hi, hz, rfl, rfl⟩
    · cases h
  · cases h
theorem ty_block : tyI Try.prog 33 = some (.agg (Array.replicate 64 (Value.int .u8 0)), 64, 64) := by kernel_rfl
theorem ty_write : tyI Try.prog 104 = some (.agg (List.replicate 1 (Value.int .i64 0) ++ List.replicate 64 (Value.int .u8 0)).toArray, 65, 72) := by kernel_rfl
theorem ty_u8 : tyI Try.prog 5 = some (.int .u8 0, 1, 1) := by kernel_rfl
theorem und_blocks : Try.prog.underlying 99 = some (.slice 33) := by kernel_rfl
theorem und_writes : Try.prog.underlying 100 = some (.slice 104) := by kernel_rfl
theorem und_u8s : Try.prog.underlying 34 = some (.slice 5) := by kernel_rfl
theorem str_disk : strI Try.prog 102 = some ([(0, 1), (1, 1), (2, 1), (3, 1)], [.slice none 0 0, .slice none 0 0, .slice none 0 0, .int .i64 0]) := by kernel_rfl
theorem str_write : strI Try.prog 104 = some ([(0, 1), (1, 64)], List.replicate 1 (Value.int .i64 0) ++ List.replicate 64 (Value.int .u8 0)) := by kernel_rfl

end Go.Proofs.Ytedebapgmfnflaa
