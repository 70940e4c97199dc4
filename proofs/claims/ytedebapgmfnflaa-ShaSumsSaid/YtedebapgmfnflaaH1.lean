/- What a call has in its hands: its own things, apart from each other, and things that are read alone. -/
import Derived.Test.YtedebapgmfnflaaG10
namespace Go.Proofs.Ytedebapgmfnflaa
open Go

/-- A thing in memory: the blocks that it takes, and what is so of them. -/
structure Res where
  foot : List Nat
  holds : World → Prop
  lt : ∀ {w : World}, holds w → ∀ b ∈ foot, b < w.heap.size
  keep : ∀ {S : List Nat} {w w' : World}, holds w → Ext S w w' → (∀ b ∈ foot, b ∉ S) → holds w'

/-- A block. -/
def rB (b : Nat) (cs : List Value) (t : TypeId) : Res :=
  ⟨[b], fun w => Blk w b cs t, fun h x hx => by simp at hx; subst hx; exact h.lt, fun h e hd => h.keep e (hd b (by simp))⟩
/-- A slice of the call's own. -/
def rS (v : Value) (e : TypeId) (s : Nat) (xs : List Value) (n : Nat) : Res :=
  ⟨slB v, fun w => OwnSl w v e s xs n, fun h => h.lt, fun h e hd => h.keep e hd⟩
def rdB (v : Value) (ys : List Value) : List Nat :=
  match ys with
  | [] => []
  | _ => slB v
/-- A slice that is read. -/
def rR (v : Value) (s : Nat) (ys : List Value) (m : Nat) : Res :=
  ⟨rdB v ys, fun w => RdSl w v s ys m, fun {w} h x hx => by
    obtain ⟨_, ⟨rfl, _⟩ | ⟨b, o, c, cs, rfl, hb, _, _⟩⟩ := h
    · simp [rdB] at hx
    · cases ys with
      | nil => simp [rdB] at hx
      | cons y ys => simp [rdB, slB] at hx; subst hx; exact hb.lt,
   fun {S w w'} h e hd => by
    obtain ⟨hl, ⟨rfl, h⟩ | ⟨b, o, c, cs, rfl, hb, h1, h2⟩⟩ := h
    · exact ⟨hl, .inl ⟨rfl, h⟩⟩
    · cases ys with
      | nil => exact ⟨hl, .inl ⟨rfl, _, _, rfl⟩⟩
      | cons y ys => exact ⟨hl, .inr ⟨b, o, c, cs, rfl, hb.keep e (hd b (by simp [rdB, slB])), h1, h2⟩⟩⟩

structure Sep (S : List Nat) (w0 w : World) (L R : List Res) : Prop where
  ext : Ext S w0 w
  own : ∀ T ∈ L, T.holds w
  rd : ∀ T ∈ R, T.holds w
  old : ∀ T ∈ L, ∀ b ∈ T.foot, b ∈ S ∨ w0.heap.size ≤ b
  dis : L.Pairwise fun T T' => ∀ b ∈ T.foot, b ∉ T'.foot
  disR : ∀ T ∈ L, ∀ T' ∈ R, ∀ b ∈ T.foot, b ∉ T'.foot

section
variable {S : List Nat} {w0 w w' : World} {L R : List Res}

theorem Sep.nil (w : World) : Sep [] w w [] [] := ⟨Ext.refl _ _, by simp, by simp, by simp, .nil, by simp⟩
theorem Sep.one {T : Res} (h : T.holds w) : Sep T.foot w w [T] [] :=
  ⟨Ext.refl _ _, by simpa using h, by simp, fun T' h' b hb => by simp at h'; subst h'; exact .inl hb, by simp, by simp⟩

theorem Sep.ext0 (s : Sep S w0 w L R) (e : Ext [] w w') : Sep S w0 w' L R :=
  ⟨s.ext.new e, fun T hT => T.keep (s.own T hT) e (by simp), fun T hT => T.keep (s.rd T hT) e (by simp), s.old, s.dis, s.disR⟩
theorem Sep.drew (s : Sep S w0 w L R) : Sep S w0 w.drew L R := s.ext0 (Ext.drew [] w)

theorem Sep.at (s : Sep S w0 w L R) (i : Nat) {T : Res} (h : L[i]? = some T) : T.holds w := s.own T (List.mem_of_getElem? h)
theorem Sep.rat (s : Sep S w0 w L R) (i : Nat) {T : Res} (h : R[i]? = some T) : T.holds w := s.rd T (List.mem_of_getElem? h)

/-- A new thing. -/
theorem Sep.add {T : Res} (s : Sep S w0 w L R) (hT : T.holds w') (e : Ext [] w w') (hf : ∀ b ∈ T.foot, w.heap.size ≤ b) : Sep S w0 w' (T :: L) R := by
  have s' := s.ext0 e
  refine ⟨s'.ext, fun T' h' => ?_, s'.rd, fun T' h' b hb => ?_, ?_, fun T' h' U hU b hb hm => ?_⟩
  · rcases List.mem_cons.1 h' with rfl | h'
    · exact hT
    · exact s'.own T' h'
  · rcases List.mem_cons.1 h' with rfl | h'
    · exact .inr (Nat.le_trans s.ext.size (hf b hb))
    · exact s'.old T' h' b hb
  · refine List.pairwise_cons.2 ⟨fun U hU b hb hm => ?_, s'.dis⟩
    have := U.lt (s.own U hU) b hm
    have := hf b hb
    omega
  · rcases List.mem_cons.1 h' with rfl | h'
    · have := U.lt (s.rd U hU) b hm
      have := hf b hb
      omega
    · exact s'.disR T' h' U hU b hb hm

/-- A thing that is read, apart from what may change. -/
theorem Sep.addR {T : Res} (s : Sep S w0 w L R) (hT : T.holds w) (hd : ∀ U ∈ L, ∀ b ∈ U.foot, b ∉ T.foot) : Sep S w0 w L (T :: R) :=
  ⟨s.ext, s.own, fun U hU => by
    rcases List.mem_cons.1 hU with rfl | hU
    · exact hT
    · exact s.rd U hU, s.old, s.dis, fun U hU V hV b hb hm => by
    rcases List.mem_cons.1 hV with rfl | hV
    · exact hd U hU b hb hm
    · exact s.disR U hU V hV b hb hm⟩
/-- A thing that is read and is new. -/
theorem Sep.addN {T : Res} (s : Sep S w0 w L R) (hT : T.holds w') (e : Ext [] w w') (hf : ∀ b ∈ T.foot, w.heap.size ≤ b) : Sep S w0 w' L (T :: R) :=
  (s.ext0 e).addR hT fun U hU b hb hm => by
    have := U.lt (s.own U hU) b hb
    have := hf b hm
    omega
/-- What takes blocks of a thing that is read is read. -/
theorem Sep.part {T U : Res} (s : Sep S w0 w L R) (hU : U ∈ R) (hT : T.holds w) (hf : ∀ b ∈ T.foot, b ∈ U.foot) : Sep S w0 w L (T :: R) :=
  s.addR hT fun V hV b hb hm => s.disR V hV U hU b hb (hf b hm)

/-- A thing of one's own has gone on. -/
theorem Sep.upd {T T' : Res} (s : Sep S w0 w L R) (i : Nat) (h : L[i]? = some T) (hT : T'.holds w') (e : Ext T.foot w w') (hf : ∀ b ∈ T'.foot, b ∈ T.foot ∨ w.heap.size ≤ b) : Sep S w0 w' (L.set i T') R := by
  have hTL := List.mem_of_getElem? h
  have hp := List.pairwise_iff_getElem.1 s.dis
  have hi : i < L.length := (List.getElem?_eq_some_iff.1 h).1
  have hTi : L[i] = T := (List.getElem?_eq_some_iff.1 h).2
  have hne : ∀ (j : Nat) (hj : j < L.length), j ≠ i → ∀ b ∈ (L[j]).foot, b ∉ T.foot := by
    intro j hj hji b hb hm
    rcases Nat.lt_or_gt_of_ne hji with hl | hl
    · exact hp j i hj hi hl b hb (hTi ▸ hm)
    · exact hp i j hi hj hl b (hTi ▸ hm) hb
  have hkeep : ∀ (j : Nat) (hj : j < L.length), j ≠ i → (L[j]).holds w' := fun j hj hji => (L[j]).keep (s.own _ (List.getElem_mem hj)) e (hne j hj hji)
  have hsep : ∀ (j : Nat) (hj : j < L.length), j ≠ i → ∀ b ∈ T'.foot, b ∉ (L[j]).foot := by
    intro j hj hji b hb hm
    rcases hf b hb with h1 | h1
    · exact hne j hj hji b hm h1
    · have := (L[j]).lt (s.own _ (List.getElem_mem hj)) b hm
      omega
  refine ⟨s.ext.step e (fun x hx hlt => by rcases s.old T hTL x hx with h1 | h1 <;> first | exact h1 | omega), fun U hU => ?_, fun U hU => U.keep (s.rd U hU) e (fun b hb hm => s.disR T hTL U hU b hm hb), fun U hU b hb => ?_, ?_, fun U hU V hV b hb hm => ?_⟩
  · obtain ⟨j, hj, rfl⟩ := List.mem_iff_getElem.1 hU
    rw [List.length_set] at hj
    by_cases hji : i = j
    · subst hji; rw [List.getElem_set_self]; exact hT
    · rw [List.getElem_set_ne hji]; exact hkeep j hj (Ne.symm hji)
  · obtain ⟨j, hj, rfl⟩ := List.mem_iff_getElem.1 hU
    rw [List.length_set] at hj
    by_cases hji : i = j
    · subst hji
      rw [List.getElem_set_self] at hb
      rcases hf b hb with h1 | h1
      · exact s.old T hTL b h1
      · exact .inr (Nat.le_trans s.ext.size h1)
    · rw [List.getElem_set_ne hji] at hb; exact s.old _ (List.getElem_mem hj) b hb
  · refine List.pairwise_iff_getElem.2 fun a c ha hc hac b hb hm => ?_
    rw [List.length_set] at ha hc
    by_cases hia : i = a
    · subst hia
      rw [List.getElem_set_self] at hb
      rw [List.getElem_set_ne (by omega)] at hm
      exact hsep c hc (by omega) b hb hm
    · rw [List.getElem_set_ne hia] at hb
      by_cases hic : i = c
      · subst hic
        rw [List.getElem_set_self] at hm
        exact hsep a ha (Ne.symm hia) b hm hb
      · rw [List.getElem_set_ne hic] at hm
        exact hp a c ha hc hac b hb hm
  · obtain ⟨j, hj, rfl⟩ := List.mem_iff_getElem.1 hU
    rw [List.length_set] at hj
    by_cases hji : i = j
    · subst hji
      rw [List.getElem_set_self] at hb
      rcases hf b hb with h1 | h1
      · exact s.disR T hTL V hV b h1 hm
      · have := V.lt (s.rd V hV) b hm
        omega
    · rw [List.getElem_set_ne hji] at hb
      exact s.disR _ (List.getElem_mem hj) V hV b hb hm

/-- Things are let go. -/
theorem Sep.sub {L' R' : List Res} (s : Sep S w0 w L R) (h : L'.Sublist L) (hR : ∀ T ∈ R', T ∈ R) : Sep S w0 w L' R' :=
  ⟨s.ext, fun T hT => s.own T (h.subset hT), fun T hT => s.rd T (hR T hT), fun T hT => s.old T (h.subset hT), s.dis.sublist h, fun T hT U hU => s.disR T (h.subset hT) U (hR U hU)⟩
theorem Sep.drop (s : Sep S w0 w L R) (i : Nat) : Sep S w0 w (L.eraseIdx i) R := s.sub (List.eraseIdx_sublist L i) (fun _ h => h)

/-- A thing of one's own that won't change any more is read. -/
theorem Sep.freeze {T T' : Res} (s : Sep S w0 w L R) (i : Nat) (h : L[i]? = some T) (hT : T'.holds w) (hf : ∀ b ∈ T'.foot, b ∈ T.foot) : Sep S w0 w (L.eraseIdx i) (T' :: R) := by
  refine (s.drop i).addR hT fun U hU b hb hm => ?_
  have hm := hf b hm
  have hi : i < L.length := (List.getElem?_eq_some_iff.1 h).1
  have hTi : L[i] = T := (List.getElem?_eq_some_iff.1 h).2
  have hp := List.pairwise_iff_getElem.1 s.dis
  obtain ⟨j, hj, rfl⟩ := List.mem_iff_getElem.1 hU
  rw [List.getElem_eraseIdx] at hb
  have hjl : j < (L.eraseIdx i).length := hj
  rw [List.length_eraseIdx_of_lt hi] at hjl
  split at hb
  · exact hp j i (by omega) hi (by omega) b hb (hTi ▸ hm)
  · exact hp i (j + 1) hi (by omega) (by omega) b (hTi ▸ hm) hb

/-- The one thing that a call was handed, behind it. -/
theorem Sep.out (s : Sep S w0 w L R) (i : Nat) {T : Res} (h : L[i]? = some T) : T.holds w ∧ Ext S w0 w ∧ ∀ b ∈ T.foot, b ∈ S ∨ w0.heap.size ≤ b :=
  ⟨s.at i h, s.ext, s.old T (List.mem_of_getElem? h)⟩
theorem Sep.fresh (s : Sep [] w0 w L R) (i : Nat) {T : Res} (h : L[i]? = some T) : ∀ b ∈ T.foot, w0.heap.size ≤ b := fun b hb => by
  rcases s.old T (List.mem_of_getElem? h) b hb with h | h
  · cases h
  · exact h
/-- What a call begins with. -/
theorem Sep.start (hL : ∀ T ∈ L, T.holds w) (hR : ∀ T ∈ R, T.holds w) (hS : ∀ T ∈ L, ∀ b ∈ T.foot, b ∈ S) (hd : L.Pairwise fun T T' => ∀ b ∈ T.foot, b ∉ T'.foot) (hdR : ∀ T ∈ L, ∀ T' ∈ R, ∀ b ∈ T.foot, b ∉ T'.foot) : Sep S w w L R :=
  ⟨Ext.refl _ _, hL, hR, fun T hT b hb => .inl (hS T hT b hb), hd, hdR⟩
theorem Sep.one1 {T U : Res} (h : T.holds w) (k : U.holds w) (hd : ∀ b ∈ T.foot, b ∉ U.foot) : Sep T.foot w w [T] [U] :=
  Sep.start (by intro V hV; rw [List.mem_singleton] at hV; subst hV; exact h) (by intro V hV; rw [List.mem_singleton] at hV; subst hV; exact k) (by intro V hV b hb; rw [List.mem_singleton] at hV; subst hV; exact hb) (by simp)
    (by intro V hV V' hV' b hb; rw [List.mem_singleton] at hV hV'; subst hV; subst hV'; exact hd b hb)
theorem Sep.zero1 {U : Res} (k : U.holds w) : Sep [] w w [] [U] := (Sep.nil w).addR k (by simp)
/-- Inside a call, with more that is read. -/
theorem Sep.into {T : Res} (s : Sep S w0 w L R) (i : Nat) (h : L[i]? = some T) : Sep T.foot w w [T] R :=
  ⟨Ext.refl _ _, by simpa using s.at i h, s.rd, fun U hU b hb => by simp at hU; subst hU; exact .inl hb, by simp, fun U hU V hV b hb hm => by
    simp at hU; subst hU; exact s.disR U (List.mem_of_getElem? h) V hV b hb hm⟩
end

section
variable {P : Program} {S : List Nat} {w0 w : World} {L R : List Res} {K : VPost}

theorem Sep.box {e : TypeId} {v : Value} (s : Sep S w0 w L R) (h : ∀ b w', Sep S w0 w' (rB b v.cells.toList e :: L) R → w.heap.size = b → K (.pointer (some ⟨b, 0, none⟩)) w') : boxW e v w K :=
  boxW_i fun b w' hb e hk _ => h b w' (s.add (T := rB b v.cells.toList _) hk e (by simp [rB]; omega)) hb

theorem Sep.alloc {e : TypeId} {z : Option Value} {v : Value} {cs : List Value} (s : Sep S w0 w L R) (hz : z = some v) (hc : v.cells.toList = cs) (h : ∀ b w', Sep S w0 w' (rB b cs e :: L) R → w.heap.size = b → K (.pointer (some ⟨b, 0, none⟩)) w') : allocW z e w K := by
  subst hz hc
  exact s.box h

theorem Sep.load1 {n : Nat} {b o : Nat} {cs : List Value} {t : TypeId} {v : Value} (s : Sep S w0 w L R) (i : Nat) (hL : L[i]? = some (rB b cs t)) (hv : cs[o]? = some v) (h : K v w) : loadW (some (false, n)) (.pointer (some ⟨b, o, none⟩)) w K :=
  Go.Proofs.Ytedebapgmfnflaa.load1 (Blk.r (s.at i hL)) hv h
theorem Sep.loadN {n : Nat} {b o : Nat} {cs : List Value} {t : TypeId} (s : Sep S w0 w L R) (i : Nat) (hL : L[i]? = some (rB b cs t)) (hn : o + n ≤ cs.length) (h : K (.agg ((cs.drop o).take n).toArray) w) : loadW (some (true, n)) (.pointer (some ⟨b, o, none⟩)) w K :=
  Go.Proofs.Ytedebapgmfnflaa.loadN (Blk.r (s.at i hL)) hn h
theorem Sep.loadAll {n : Nat} {b : Nat} {cs : List Value} {t : TypeId} (s : Sep S w0 w L R) (i : Nat) (hL : L[i]? = some (rB b cs t)) (hn : cs.length = n) (h : K (.agg cs.toArray) w) : loadW (some (true, n)) (.pointer (some ⟨b, 0, none⟩)) w K :=
  Go.Proofs.Ytedebapgmfnflaa.loadAll (Blk.r (s.at i hL)) hn h

theorem Sep.store1 {g : Bool} {b o : Nat} {cs : List Value} {t : TypeId} {v : Value} {K : World → Prop} (s : Sep S w0 w L R) (i : Nat) (hL : L[i]? = some (rB b cs t)) (hv : v.cells = #[v]) (hle : o < cs.length) (h1 : v.oneCell' = true)
    (h : ∀ w', Sep S w0 w' (L.set i (rB b (cs.set o v) t)) R → w'.heap.size = w.heap.size → K w') : storeW (some (g, 1)) (.pointer (some ⟨b, o, none⟩)) v w K :=
  Go.Proofs.Ytedebapgmfnflaa.store1 (s.at i hL) hv hle h1 fun w' e hk hs => h w' (s.upd i hL (T' := rB b (cs.set o v) t) hk e (by simp [rB])) hs
theorem Sep.storeN {g : Bool} {n : Nat} {b o : Nat} {cs vs : List Value} {t : TypeId} {v : Value} {K : World → Prop} (s : Sep S w0 w L R) (i : Nat) (hL : L[i]? = some (rB b cs t)) (hv : v.cells = vs.toArray) (hn : vs.length = n) (hle : o + n ≤ cs.length)
    (h1 : ∀ x ∈ vs, x.oneCell' = true) (h : ∀ w', Sep S w0 w' (L.set i (rB b (lspl cs o vs) t)) R → w'.heap.size = w.heap.size → K w') : storeW (some (g, n)) (.pointer (some ⟨b, o, none⟩)) v w K :=
  storeW_i (s.at i hL) hv hn hle h1 fun w' e hk hs => h w' (s.upd i hL (T' := rB b (lspl cs o vs) t) hk e (by simp [rB])) hs
theorem Sep.storeAll {n : Nat} {b : Nat} {cs vs : List Value} {t : TypeId} {K : World → Prop} (s : Sep S w0 w L R) (i : Nat) (hL : L[i]? = some (rB b cs t)) (hn : vs.length = n) (hc : cs.length = n)
    (h1 : ∀ x ∈ vs, x.oneCell' = true) (h : ∀ w', Sep S w0 w' (L.set i (rB b vs t)) R → w'.heap.size = w.heap.size → K w') : storeW (some (true, n)) (.pointer (some ⟨b, 0, none⟩)) (.agg vs.toArray) w K :=
  Go.Proofs.Ytedebapgmfnflaa.storeAll (s.at i hL) hn hc h1 fun w' e hk hs => h w' (s.upd i hL (T' := rB b vs t) hk e (by simp [rB])) hs

/-- append onto a slice of one's own. -/
theorem Sep.append {T T' ty e e' : TypeId} {ti : TypeInfo} {z : Value} {v x : Value} {xs ys : List Value} {n m : Nat} (s : Sep S w0 w L R) (i : Nat) (hL : L[i]? = some (rS v e ti.size xs n))
    (hu : P.underlying T = some (.slice e)) (hu' : P.underlying T' = some (.slice e')) (hi : P.info? e = some ti) (hz : ti.zero = some z) (hzs : z.cells.size = ti.size) (hbp : 0 < ti.bytes)
    (hx : RdSl w x ti.size ys m) (h1 : ∀ y ∈ ys, y.oneCell' = true) (hsm : (n + m) * ti.bytes + 600 * ti.bytes ≤ 2 ^ 40)
    (h : ∀ v' w', Sep S w0 w' (L.set i (rS v' e ti.size (xs ++ ys) (n + m))) R → K v' w') :
    insW P (Builtin.append_ #[T, T'] ty #[v, x]) w K :=
  append_i hu hu' hi hz hzs hbp (s.at i hL) hx h1 hsm fun v' w' hv e hb => h v' w' (s.upd i hL (T' := rS v' _ ti.size (xs ++ ys) (n + m)) hv e (by
    intro b hb'
    show b ∈ slB v ∨ _
    rcases hb with h2 | ⟨b', h2, h3⟩
    · exact .inl (h2 ▸ hb')
    · have hb' : b ∈ slB v' := hb'
      rw [h2] at hb'; simp at hb'; subst hb'; exact .inr h3))
end
end Go.Proofs.Ytedebapgmfnflaa
