/- Arrays of numbers, compared; a slice and nil; the disk's twin; bytes copied and compared. -/
import Derived.Test.YtedebapgmfnflaaD5
import Derived.Test.YtedebapgmfnflaaCE
import Derived.ChangeKeysEq
namespace Go.Proofs.Ytedebapgmfnflaa
open Go
set_option maxRecDepth 100000

section
variable {P : Program} {w : World} {K : VPost}

theorem eqItems_ints {e : TypeId} {k : IntKind} (he : P.underlying e = some (.int k)) (hp : P.plainKey e = true) (d : Nat) (xs ys : List Int) : ∀ (is : List Nat), (∀ i ∈ is, i < xs.length ∧ i < ys.length) →
    (Op.eqItems (d + 1) e 1 (xs.map (Value.int k)).toArray (ys.map (Value.int k)).toArray is).run P w = .ok (decide (∀ i ∈ is, xs[i]? = ys[i]?)) w := by
  intro is
  induction is with
  | nil => intro _; simp [Op.eqItems]
  | cons i is ih =>
    intro h
    have h0 := h i List.mem_cons_self
    have hx : (xs.map (Value.int k)).toArray[i * 1]? = some (.int k xs[i]) := by simp [h0.1]
    have hy : (ys.map (Value.int k)).toArray[i * 1]? = some (.int k ys[i]) := by simp [h0.2]
    have he' : (Op.equalIn (d + 1) e (.int k xs[i]) (.int k ys[i])).run P w = .ok (xs[i] == ys[i]) w := by
      unfold Op.equalIn
      rw [Sem.run_bind, run_und he]
      simp
    simp only [Op.eqItems, Sem.run_bind, run_part_plain w hp hx, run_part_plain w hp hy, he', Result.andThen_ok]
    have ih := ih (fun j hj => h j (List.mem_cons_of_mem _ hj))
    by_cases hq : xs[i] = ys[i]
    · simp only [hq, beq_self_eq_true, Bool.not_true, Bool.false_eq_true, if_false, ih, List.mem_cons, forall_eq_or_imp, h0.1, h0.2, List.getElem?_eq_getElem, true_and]
    · have : (xs[i] == ys[i]) = false := by simpa using hq
      simp only [this, Bool.not_false, if_true, Sem.run_pure, List.mem_cons, forall_eq_or_imp, h0.1, h0.2, List.getElem?_eq_getElem, Option.some.injEq, hq, false_and, decide_false]

theorem equal_ints {t e : TypeId} {n : Nat} {i : TypeInfo} {k : IntKind} (hu : P.underlying t = some (.array n e)) (hi : P.info? e = some i) (he : P.underlying e = some (.int k)) (hp : P.plainKey e = true) (hc : P.cellsOf e = 1)
    (xs ys : List Int) (hx : xs.length = n) (hy : ys.length = n) : (Op.equal t (.agg (xs.map (Value.int k)).toArray) (.agg (ys.map (Value.int k)).toArray)).run P w = .ok (decide (xs = ys)) w := by
  show (Op.equalIn (9999 + 1) t _ _).run P w = _
  rw [run_equalIn_array w _ _ _ hu hi, hc, eqItems_ints he hp 9998 xs ys _ (by intro j hj; have := List.mem_range.1 hj; omega)]
  congr 2
  rw [eq_iff_iff]
  constructor
  · intro h
    apply List.ext_getElem?
    intro j
    by_cases hj : j < n
    · exact h j (List.mem_range.2 hj)
    · rw [List.getElem?_eq_none (by omega), List.getElem?_eq_none (by omega)]
  · intro h; subst h; intro _ _; rfl

theorem guard_agg {op : BinOp} {t : TypeId} {c : Bool} {xs ys : Array Value} (hg : P.eqGuardType P.depth t = false) (w : World) : (guardE op t c (.agg xs) (.agg ys)).run P w = .ok () w := by
  unfold guardE eqGuard
  cases op <;> simp [Sem.run_bind, Go.program, Sem.run, hg, Result.andThen]

theorem bin_ints_eql {t e : TypeId} {n : Nat} {c : Bool} {i : TypeInfo} {k : IntKind} (hu : P.underlying t = some (.array n e)) (hi : P.info? e = some i) (he : P.underlying e = some (.int k)) (hp : P.plainKey e = true) (hc : P.cellsOf e = 1) (hg : P.eqGuardType P.depth t = false)
    (xs ys : List Int) (hx : xs.length = n) (hy : ys.length = n) : binW P .eql t c (.agg (xs.map (Value.int k)).toArray) (.agg (ys.map (Value.int k)).toArray) w K = K (.bool (decide (xs = ys))) w :=
  bin_equal (guard_agg hg) rfl (equal_ints hu hi he hp hc xs ys hx hy)
theorem bin_ints_neq {t e : TypeId} {n : Nat} {c : Bool} {i : TypeInfo} {k : IntKind} (hu : P.underlying t = some (.array n e)) (hi : P.info? e = some i) (he : P.underlying e = some (.int k)) (hp : P.plainKey e = true) (hc : P.cellsOf e = 1) (hg : P.eqGuardType P.depth t = false)
    (xs ys : List Int) (hx : xs.length = n) (hy : ys.length = n) : binW P .neq t c (.agg (xs.map (Value.int k)).toArray) (.agg (ys.map (Value.int k)).toArray) w K = K (.bool (!decide (xs = ys))) w :=
  bin_nequal (guard_agg hg) rfl (equal_ints hu hi he hp hc xs ys hx hy)

theorem slice_eql_nil {t e : TypeId} {c : Bool} {a : Option Addr} {n m : Nat} (hu : P.underlying t = some (.slice e)) : binW P .eql t c (.slice a n m) (.slice none 0 0) w K = K (.bool a.isNone) w := by
  refine bin_equal (fun _ => by cases c <;> rfl) rfl ?_
  show (Op.equalIn (9999 + 1) t _ _).run P w = _
  unfold Op.equalIn
  rw [Sem.run_bind, run_und hu]
  cases a <;> rfl
end

theorem bc_ints (l : Bytes) : bc l = (l.map fun b => (b.toNat : Int)).map (Value.int .u8) := by simp [bc, bv]
theorem ints_inj (a b : Bytes) : (a.map fun b => (b.toNat : Int)) = (b.map fun b => (b.toNat : Int)) ↔ a = b := by
  constructor
  · intro h
    exact bc_inj (by rw [bc_ints, bc_ints, h])
  · intro h; rw [h]

/-- Two sectors, compared. -/
theorem block_eql {w : World} {K : VPost} {c : Bool} {a b : Bytes} (ha : a.length = 64) (hb : b.length = 64) (h : K (.bool (decide (a = b))) w) : binW Try.prog .eql 33 c (.agg (bc a).toArray) (.agg (bc b).toArray) w K := by
  obtain ⟨ui, hui, huz, husz, huby⟩ := tyI_spec ty_u8
  rw [bc_ints a, bc_ints b, bin_ints_eql (by kernel_rfl : Try.prog.underlying 33 = some (.array 64 5)) hui (by kernel_rfl) (by kernel_rfl) (by kernel_rfl) (by kernel_rfl) _ _ (by simpa using ha) (by simpa using hb)]
  simpa only [ints_inj] using h
theorem block_neq {w : World} {K : VPost} {c : Bool} {a b : Bytes} (ha : a.length = 64) (hb : b.length = 64) (h : K (.bool (!decide (a = b))) w) : binW Try.prog .neq 33 c (.agg (bc a).toArray) (.agg (bc b).toArray) w K := by
  obtain ⟨ui, hui, huz, husz, huby⟩ := tyI_spec ty_u8
  rw [bc_ints a, bc_ints b, bin_ints_neq (by kernel_rfl : Try.prog.underlying 33 = some (.array 64 5)) hui (by kernel_rfl) (by kernel_rfl) (by kernel_rfl) (by kernel_rfl) _ _ (by simpa using ha) (by simpa using hb)]
  simpa only [ints_inj] using h

/-- Sectors as new memory. -/
theorem clone_c {w : World} {a : Addr} {n c : Nat} {ys : List Value} (hr : RdSl w (.slice (some a) n c) 64 ys n) (h1 : ∀ y ∈ ys, y.oneCell' = true) (hn : n ≤ 4096) {K : VPost}
    (hK : ∀ b c' rest w', Blk w' b (ys ++ rest) 33 → (ys ++ rest).length = c' * 64 → n ≤ c' → Ext [] w w' → w.heap.size ≤ b → K (.slice (some ⟨b, 0, none⟩) n c') w') (hpos : 0 < n) :
    Calls Try.prog 78 #[.slice (some a) n c] w (retK K) := by
  refine c78_calls _ w K ?_
  unfold c78
  obtain ⟨i, hi, hz, hsz, hby⟩ := tyI_spec ty_block
  rw [slice_eql_nil und_blocks]
  show condW (.bool false) _ _
  rw [condW_f]
  refine buildSlice_i (vs := []) und_blocks hi hz rfl (by simp) (by simp) fun b1 w1 hb1 e1 hk1 hs1 => ?_
  have hl := hr.1
  refine append_i (ys := ys) (m := n) (xs := []) (n := 0) und_blocks und_blocks hi hz (by rw [hsz]; rfl) (by rw [hby]; decide) (.inr ⟨b1, 0, [], rfl, by simpa [flatV] using hk1, by simp, by simp, Nat.le_refl _⟩) (by rw [hsz]; exact hr.keep e1 (by simp)) h1 (by rw [hby]; omega) fun v2 w2 hv2 e2 hb2 => ?_
  rw [hsz, Nat.zero_add, List.nil_append] at hv2
  rcases hv2 with ⟨_, h0, _⟩ | ⟨b, c', rest, rfl, hb, h3, h4, h5⟩
  · omega
  · refine hK b c' rest w2 hb h4 h5 (((Ext.refl [] w).new e1).step e2 (by intro x hx hlt; simp [slB] at hx; omega)) ?_
    rcases hb2 with e | ⟨b', e, hge⟩
    · simp [slB] at e; omega
    · simp [slB] at e; omega

def DiskM.twin (D : DiskM) : DiskM := { D with last := D.seen, pend := [], left := -1 }

theorem fill_disk2 (a b : Value) (z : Int) (ha : a.cells = #[a]) (hb : b.cells = #[b]) : fillL [(0, 1), (1, 1), (2, 1), (3, 1)] [.slice none 0 0, .slice none 0 0, .slice none 0 0, .int .i64 0] [(0, a), (1, b), (3, .int .i64 z)] = some [a, b, .slice none 0 0, .int .i64 z] := fill_disk a b .nilIface z ha hb

theorem twin_c {w : World} {p : Nat} {F : List Nat} {D : DiskM} (h : Disk w p F D) {K : VPost} (hK : ∀ q G w', Disk w' q G D.twin → Ext [] w w' → (∀ b ∈ G, w.heap.size ≤ b) → K (.pointer (some ⟨q, 0, none⟩)) w') :
    Calls Try.prog 39 #[.pointer (some ⟨p, 0, none⟩)] w (retK K) := by
  refine c39_calls _ w K ?_
  unfold c39
  have e0 := Ext.drew [] w
  replace h : Disk w.drew p F D := h.keep e0 (by simp)
  have hsz : w.drew.heap.size = w.heap.size := rfl
  generalize w.drew = w0 at *
  obtain ⟨bl, bs, zl, zs, pv, h, rfl⟩ := h
  simp only [nilW_e]
  refine off_i (load1 (o := 0 + 1) h.hdr.r rfl (off_i (load1 (o := 0 + 1) h.hdr.r rfl ?_)))
  have hs := h.ok.slen
  have hn1 := h.ok.n1
  have hn2 := h.ok.n2
  refine fnW_of (by kernel_rfl) (clone_c (h.seen.rd (by rw [bc_length]; omega)) (bc_one _) hn2 (fun b1 c1 r1 w1 hb1 hc1 hl1 e1 hg1 => ?_) hn1)
  refine ⟨load1 (o := 0 + 1) (h.hdr.r.keep e1 (by simp)) rfl ⟨rfl, rfl⟩, ?_⟩
  refine fnW_of (by kernel_rfl) (clone_c ((h.seen.keep e1 (by simp)).rd (by rw [bc_length]; omega)) (bc_one _) hn2 (fun b2 c2 r2 w2 hb2 hc2 hl2 e2 hg2 => ?_) hn1)
  refine build_i str_disk (fill_disk2 _ _ _ rfl rfl) ⟨rfl, boxW_i fun q w3 hq e3 hq3 hs3 => ?_⟩
  have hb1' := hb1.keep e2 (by simp)
  have l1 := hb1.lt
  have l2 := hb2.lt
  have l1' := hb1'.lt
  refine hK q [q, b1, b2] w3 ⟨b1, b2, c1, c2, .slice none 0 0, ⟨hq3, ⟨r1, hb1'.keep e3 (by simp)⟩, ⟨r2, hb2.keep e3 (by simp)⟩, .inl ⟨rfl, rfl, rfl⟩, ⟨hs, hs, by simp [DiskM.twin], hn1, hn2, by simp [DiskM.twin], by simp [DiskM.twin]⟩, ?_, ?_, ?_, by simp [slB], by simp [slB], by simp [slB]⟩, by simp [slB]⟩ (((e0.new e1).new e2).new e3) ?_
  · omega
  · omega
  · omega
  · have := e1.size
    have := e2.size
    intro b hb
    simp only [List.mem_cons, List.not_mem_nil, or_false] at hb
    rcases hb with rfl | rfl | rfl <;> omega

/-- Bytes as new memory. -/
theorem copyBytes_c {w : World} {v : Value} {l : Bytes} (hv : RdSl w v 1 (bc l) l.length) (hl : l.length ≤ 2 ^ 30) {K : VPost}
    (hK : ∀ v' w', OwnSl w' v' 5 1 (bc l) l.length → Ext [] w w' → (∀ b ∈ slB v', w.heap.size ≤ b) → K v' w') :
    Calls Try.prog 27 #[v] w (retK K) := by
  refine c27_calls _ w K ?_
  unfold c27
  obtain ⟨ui, hui, huz, husz, huby⟩ := tyI_spec ty_u8
  refine buildSlice_i (vs := []) und_u8s hui huz rfl (by simp) (by simp) fun b1 w1 hb1 e1 hk1 hs1 => ?_
  refine append_i (ys := bc l) (m := l.length) (xs := []) (n := 0) und_u8s und_u8s hui huz (by rw [husz]; rfl) (by rw [huby]; decide) (.inr ⟨b1, 0, [], rfl, by simpa [flatV] using hk1, by simp, by simp, Nat.le_refl _⟩) (by rw [husz]; exact hv.keep e1 (by simp)) (bc_one _) (by rw [huby]; omega) fun v2 w2 hv2 e2 hb2 => ?_
  rw [husz, Nat.zero_add, List.nil_append] at hv2
  refine hK v2 w2 hv2 (((Ext.refl [] w).new e1).step e2 (by intro x hx hlt; simp [slB] at hx; omega)) ?_
  intro b hb
  rcases hb2 with e | ⟨b', e, hge⟩
  · rw [e] at hb; simp [slB] at hb; omega
  · rw [e] at hb; simp at hb; omega

theorem sameBytes_c {w : World} {v v' : Value} {l l' : Bytes} (hv : RdSl w v 1 (bc l) l.length) (hv' : RdSl w v' 1 (bc l') l'.length) (hl : l.length < 2 ^ 62) {K : VPost}
    (hK : ∀ w', Ext [] w w' → K (.bool (decide (l = l'))) w') :
    Calls Try.prog 30 #[v, v'] w (retK K) := by
  refine c30_calls _ _ w K ?_
  unfold c30
  obtain ⟨a, c, hva⟩ := hv.len
  obtain ⟨a', c', hva'⟩ := hv'.len
  have hl1 : ∀ (w : World) (K : VPost), lenW Try.prog (some true) #[34] 3 #[v] w K = K (.int .i64 l.length) w := fun w K => by rw [hva, len_s]
  have hl2 : ∀ (w : World) (K : VPost), lenW Try.prog (some true) #[34] 3 #[v'] w K = K (.int .i64 l'.length) w := fun w K => by rw [hva', len_s]
  simp only [hl1, hl2, bin_neq]
  refine cond_b (fun hc => ?_) (fun hc => ?_)
  · have hne : ¬ l = l' := fun e => by subst e; simp at hc
    have := hK w (Ext.refl _ _)
    simpa [hne] using this
  · have hll : l.length = l'.length := by simp at hc; omega
    refine bindX_i fun J0 h0 => bindX_i fun J1 h1 => bindX_i fun J2 h2 => ?_
    refine loop_i (fun m fr w1 => ∃ k : Nat, m = l.length - k ∧ k ≤ l.length ∧ fr 0 = v ∧ fr 1 = v' ∧ fr 5 = .int .i64 k ∧ l.take k = l'.take k ∧ Ext [] w w1) l.length ?_ ?_
    · exact ⟨0, rfl, Nat.zero_le _, rfl, rfl, rfl, rfl, Ext.refl _ _⟩
    · rintro m fr w1 J ⟨k, rfl, hk, f0, f1, f5, heq, e1⟩ hJ hX
      simp only [f0, f1, f5, hl1, bin_lss]
      refine cond_d (fun hlt => ?_) (fun hlt => ?_)
      · have hlt : k < l.length := by omega
        have e2 : Ext [] w w1.drew := e1.new (Ext.drew _ _)
        generalize w1.drew = w2 at *
        obtain ⟨b, o, hix, hld⟩ := (hv.keep e2 (by simp)).at1 hlt .i64
        obtain ⟨b', o', hix', hld'⟩ := (hv'.keep e2 (by simp)).at1 (i := k) (by omega) .i64
        refine hix _ (hld _ (hix' _ (hld' _ ?_)))
        unfold bv
        simp only [bin_neq]
        refine ⟨trivial, cond_b (fun hc => ?_) (fun hc => ?_)⟩
        · have hne : ¬ l = l' := fun e => by subst e; simp at hc
          refine hX _ _ _ (by simp) (h2 _ _ _ (h1 _ _ _ (h0 _ _ _ ?_)))
          have := hK w2 e2
          show K (Value.bool false) w2
          simpa [hne] using this
        · have heq1 : l.getD k 0 = l'.getD k 0 := by
            have : ((l.getD k 0).toNat : Int) = ((l'.getD k 0).toNat : Int) := by simpa using hc
            exact UInt8.toNat_inj.1 (by omega)
          simp only [bin_add]
          rw [i64_self (by omega)]
          refine hJ (l.length - (k + 1)) _ _ (by omega) ⟨k + 1, rfl, hlt, f0, f1, ?_, ?_, e2⟩
          · show Value.int .i64 ((k : Int) + 1) = _
            simp
          · have hlt' : k < l'.length := by omega
            rw [List.take_succ_eq_append_getElem hlt, List.take_succ_eq_append_getElem hlt', heq]
            simp only [List.getD_eq_getElem?_getD, List.getElem?_eq_getElem hlt, List.getElem?_eq_getElem hlt', Option.getD_some] at heq1
            rw [heq1]
      · have hkn : k = l.length := by omega
        subst hkn
        rw [List.take_length, hll, List.take_length] at heq
        refine hX _ _ _ (by simp) (h2 _ _ _ (blk_x (seq_n h1 ?_)))
        have := hK w1 e1
        simpa [heq] using this
end Go.Proofs.Ytedebapgmfnflaa
