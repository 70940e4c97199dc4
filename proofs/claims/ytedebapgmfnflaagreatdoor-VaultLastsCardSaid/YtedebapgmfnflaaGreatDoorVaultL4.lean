/- Texts that the law VaultLasts stands on, part 5 of 5. Conditions: see each. -/
import Derived.Test.YtedebapgmfnflaaGreatDoorVaultL3
import Derived.LaidMore
import Derived.Lay
import Derived.Stop.Joined

/- What laws on disks and areas need in common. -/
namespace Go.Proofs.YtedebapgmfnflaaGreatDoor
open Go Go.ChangeShapes Go.WideShapes
set_option maxRecDepth 100000

theorem ptr_disk : Tryz.prog.underlying 25 = some (.pointer 63) := by kernel_rfl
theorem firstB_or (D : DiskM) : firstB D = 0 ∨ firstB D = D.n / 2 := by
  unfold firstB
  split
  · split
    · exact .inr rfl
    · exact .inl rfl
  · exact .inl rfl
/-- What was there from the first. -/
theorem Sep.addBase {w0 w : World} {L R : List Res} {T : Res} (s : Sep [] w0 w L R) (h : T.holds w0) : Sep [] w0 w L (T :: R) :=
  s.addR (T.keep h s.ext (by simp)) fun U hU b hb hm => by
    rcases s.old U hU b hb with h1 | h1
    · cases h1
    · have := T.lt h b hm
      omega
theorem RowsL.takeL {w : World} : ∀ {hs : List Value} {ls : List Bytes}, RowsL w hs ls → ∀ k, RowsL w (hs.take k) (ls.take k)
  | [], [], _, k => by simp [RowsL]
  | _ :: _, _ :: _, h, 0 => trivial
  | _ :: _, _ :: _, h, k + 1 => ⟨h.1, RowsL.takeL h.2 k⟩
def strF (P : Program) (t : TypeId) : Option (List (TypeId × Nat)) :=
  match P.underlying t with
  | some (.struct fs) => some (fs.toList.map fun f => (f.type, f.offset))
  | _ => none
theorem trod_fields {H : Type} {enc : TypeId × Value → H} {P : Program} {w : World} {sp : Nat → Bool} {held : Bool} {t : TypeId} {l : List (TypeId × Nat)} {cs : List Value} {x : DataW H × List MemPlace} {fuel : Nat} (hs : strF P t = some l) (h : DataW.trod enc P w 0 sp held fuel t cs = some x) (hfit : fitsD P t x.1) :
    cs.length = P.cellsOf t ∧ ∀ (i : Nat) te off, l[i]? = some (te, off) → ∃ y n, DataW.trod enc P w 0 sp held n te ((cs.drop off).take (P.cellsOf te)) = some y ∧ fitsD P te y.1 := by
  unfold strF at hs
  split at hs
  · rename_i fs hu
    simp only [Option.some.injEq] at hs
    subst hs
    obtain ⟨xs, n, _, hx, hl, hxs, hf⟩ := DataW.trod_struct hu h
    rw [hx] at hfit
    refine ⟨hl, fun i te off hi => ?_⟩
    rw [List.getElem?_map, Option.map_eq_some_iff] at hi
    obtain ⟨f, hfi, he⟩ := hi
    simp only [Prod.mk.injEq] at he
    obtain ⟨rfl, rfl⟩ := he
    have hlt : i < fs.size := by
      have := (List.getElem?_eq_some_iff.1 hfi).1
      simpa using this
    have := hf i f (by simpa using hfi)
    rw [List.getElem?_eq_getElem (by omega)] at this
    exact ⟨_, n, this, fits_struct hu hfit (i := i) (by simp [hfi]) (by rw [List.getElem?_map, List.getElem?_eq_getElem (by omega)]; rfl)⟩
  · cases hs
theorem flat_cut {α : Type} (f : α → List Value) (s : Nat) (P : α → Prop) : ∀ (m : Nat) (ys : List Value), ys.length = m * s → (∀ i, i < m → ∃ c : α, P c ∧ (ys.drop (i * s)).take s = f c) → ∃ l : List α, l.length = m ∧ (∀ c ∈ l, P c) ∧ ys = l.flatMap f := by
  intro m
  induction m with
  | zero => intro ys hl _; exact ⟨[], rfl, by simp, List.length_eq_zero_iff.1 (by rw [hl, Nat.zero_mul])⟩
  | succ m ih =>
    intro ys hl hel
    obtain ⟨c, hc, he⟩ := hel 0 (by omega)
    obtain ⟨l, h1, h2, h3⟩ := ih (ys.drop s) (by rw [List.length_drop, hl, Nat.add_mul, Nat.one_mul, Nat.add_sub_cancel]) (fun i hi => by
      obtain ⟨c, hc, he⟩ := hel (i + 1) (by omega)
      refine ⟨c, hc, ?_⟩
      rw [List.drop_drop, show s + i * s = (i + 1) * s by rw [Nat.add_mul, Nat.one_mul, Nat.add_comm]]; exact he)
    refine ⟨c :: l, by simp [h1], fun d hd => ?_, ?_⟩
    · rcases List.mem_cons.1 hd with rfl | hd
      · exact hc
      · exact h2 d hd
    · rw [List.flatMap_cons, ← h3, ← he, Nat.zero_mul, List.drop_zero, List.take_append_drop]
theorem roomB_ok {size : Nat} {rs : List Bytes} (h : ∀ r ∈ rs, r.length ≤ 2000) (hf : posR rs rs.length ≤ size) : roomB size rs = 0 := by
  unfold roomB
  have ha : (rs.all fun r => decide (needN r.length ≠ 0)) = true := by
    rw [List.all_eq_true]
    intro r hr
    have := need_pos (h r hr)
    exact decide_eq_true (by omega)
  rw [if_pos ha, if_neg (by omega)]

section
variable {S : List Nat} {w0 w : World} {L R : List Res} {K : VPost} {F : List Nat} {D : DiskM} {p : Nat}
/-- A literal of one byte row. -/
theorem Sep.rows1 {v : Value} {l : Bytes} (s : Sep S w0 w (rDb v l :: L) R) (h : ∀ v' a m c w', v = .slice a m c → Sep S w0 w' (rO v' 36 1 [v] 1 :: L) (rL [v] [l] :: rL [] [] :: R) → K v' w') : insW Tryz.prog (Instr.buildSlice 71 1 #[(0, v)]) w K := by
  have hv : OwnAt w v 5 1 (bc l) l.length := s.at 0 rfl
  obtain ⟨ra, rc, hra⟩ := hv.rd.len
  subst hra
  refine s.litR fun v' w1 s => ?_
  have s := s.swap.noRows.growR (hs := []) (ls := []) (by simp)
  exact h v' ra l.length rc w1 rfl s
theorem Sep.dcrash (s : Sep S w0 w L R) (i : Nat) (hL : L[i]? = some (rDk p F D)) (picks : Bytes) {pv : Value} (hx : rR pv 1 (bc picks) picks.length ∈ R) (hlen : D.pend.length ≤ 1000000) (h : ∀ e F' w', Sep S w0 w' (L.set i (rDk p F' (D.crash picks))) R → K (.int .i64 e) w') :
    fnW Tryz.prog 24 #[ptrA p, pv] w K := by
  have hpb : 0 < picks.length → ∀ b ∈ slB pv, b ∈ rdB pv (bc picks) := by
    intro h0 b hb
    cases picks with
    | nil => simp at h0
    | cons x r => exact hb
  exact fnW_of (by kernel_rfl) (crash_c (s.at i hL) picks (s.rd _ hx) (fun h0 b hb => ⟨fun hm => s.disR _ (List.mem_of_getElem? hL) _ hx b hm (hpb h0 b hb), (rR pv 1 (bc picks) picks.length).lt (s.rd _ hx) b (hpb h0 b hb)⟩) hlen fun F' w' hd m => h _ F' w' (s.moved i hL hd m))
theorem Sep.litRv {r : Value} {a : Option Addr} {m c : Nat} (s : Sep S w0 w L R) (hr : r = .slice a m c) (h : ∀ v' w', Sep S w0 w' (rO v' 36 1 [r] 1 :: L) R → K v' w') : insW Tryz.prog (Instr.buildSlice 71 1 #[(0, r)]) w K := by
  subst hr
  exact s.litR h
theorem posR_take (rs : List Bytes) (m : Nat) (hm : m ≤ rs.length) : posR (rs.take m) (rs.take m).length = posR rs m := by
  unfold posR
  rw [List.take_length]
theorem Sep.rows0 (s : Sep S w0 w L R) (h : ∀ v' w', Sep S w0 w' (rO v' 36 1 [] 0 :: L) R → K v' w') : insW Tryz.prog (Instr.buildSlice 71 0 #[]) w K := by
  obtain ⟨ti, hti, htz, hts, htb⟩ := tyI_spec ty_row
  exact s.lit (vs := []) und_rows hti htz rfl (by simp) (by simp) fun t w1 s1 _ _ => h t w1 (by rw [hts] at s1; exact s1)
theorem Sep.toBack {T : Res} (s : Sep S w0 w (T :: L) R) : Sep S w0 w (L ++ [T]) R := s.perm (List.perm_append_comm (l₁ := [T]) (l₂ := L))
theorem HistX.facts {A : AreaH} {list extra : List Bytes} {sure i H F W base : Nat} (h : HistX D A list extra sure i H F W base) :
    1 ≤ A.gen ∧ A.gen ≤ 4294967295 ∧ A.next ≤ A.size ∧ A.first + A.size ≤ D.n ∧ (∀ r ∈ list, r.length ≤ 2000) ∧ A.size = D.n / 2 ∧ (A.first = 0 ∨ A.first = A.size) ∧ D.pend.length ≤ 100 * i ∧ 2 ≤ A.size ∧ H < 256 := by
  have h1 := h.area.g1
  have h2 := h.area.gH
  have h3 := h.area.H256
  have h4 := h.area.half
  have h5 := h.area.ends
  have h6 := h.fit
  have h7 := h.next
  have h8 := posR_app list extra (Nat.le_refl list.length)
  have h9 := posR_mono (list ++ extra) (show list.length ≤ (list ++ extra).length by rw [List.length_append]; omega)
  have h10 := h.area.two
  exact ⟨h1, by omega, by omega, by omega, fun r hr => h.area.short r (by simp [hr]), h4, h5, h.pend, h10, h3⟩
theorem layD_nA (D : DiskM) (q : Nat) (ls : List Bytes) : (layD D q ls).1.n = D.n := by
  have := layD_n D q ls ls.length (Nat.le_refl _)
  rwa [List.take_length] at this
end
end Go.Proofs.YtedebapgmfnflaaGreatDoor

/- Digests in a slice: read, appended, copied, looked for. Condition: at most 10^6 of them. -/
namespace Go.Proofs.YtedebapgmfnflaaGreatDoor
open Go
set_option maxRecDepth 100000

theorem und_digs : Tryz.prog.underlying 57 = some (.slice 34) := by kernel_rfl
theorem ty_dig : tyI Tryz.prog 34 = some (.agg (Array.replicate 32 (Value.int .u8 0)), 32, 32) := by kernel_rfl
theorem zero_digG : zeroO Tryz.prog 34 = some (.agg (Array.replicate 32 (.int .u8 0))) := by kernel_rfl
theorem cells_digG : (Value.agg (Array.replicate 32 (.int .u8 0))).cells.toList = bc (List.replicate 32 0) := by simp [Value.cells, bc, bv]

/-- Digests in hand. -/
abbrev rG (v : Value) (ks : List Bytes) : Res := rO v 34 32 (bc ks.flatten) ks.length
abbrev rGR (v : Value) (ks : List Bytes) : Res := rR v 32 (bc ks.flatten) ks.length

theorem flatG {ls : List Bytes} (h : ∀ l ∈ ls, l.length = 32) : ls.flatten.length = 32 * ls.length := by
  induction ls with
  | nil => rfl
  | cons x r ih =>
    rw [List.flatten_cons, List.length_append, h x (by simp), ih (fun l hl => h l (by simp [hl])), List.length_cons]
    omega
theorem flatG_get {ls : List Bytes} (h : ∀ l ∈ ls, l.length = 32) {i : Nat} (hi : i < ls.length) : (ls.flatten.drop (i * 32)).take 32 = ls[i] := by
  have e : ls = ls.take i ++ ls[i] :: ls.drop (i + 1) := by rw [← List.drop_eq_getElem_cons hi, List.take_append_drop]
  have h1 : (ls.take i).flatten.length = i * 32 := by
    rw [flatG (fun l hl => h l (List.mem_of_mem_take hl)), List.length_take, Nat.min_eq_left (by omega), Nat.mul_comm]
  have h2 : ls.flatten = (ls.take i).flatten ++ (ls[i] ++ (ls.drop (i + 1)).flatten) := by
    rw [← List.flatten_cons, ← List.flatten_append, ← e]
  rw [h2, List.drop_left' h1, List.take_left' (h _ (List.getElem_mem hi))]
theorem RdSl.digAt {w : World} {x : Value} {ls : List Bytes} (h : RdSl w x 32 (bc ls.flatten) ls.length) (h32 : ∀ l ∈ ls, l.length = 32) {i : Nat} (hi : i < ls.length) (kk : IntKind) :
    ∃ b o, (∀ K : VPost, K (.pointer (some ⟨b, o, none⟩)) w → idxW (some (none, 32)) x (.int kk i) w K) ∧ (∀ K : VPost, K (kv ls[i]) w → loadW (some (true, 32)) (.pointer (some ⟨b, o, none⟩)) w K) := by
  have hfl := flatG h32
  obtain ⟨hl, ⟨h0, _⟩ | ⟨b, o, c, cs, rfl, hb, h1, h2⟩⟩ := h
  · rw [h0] at hl; simp at hl; omega
  · have hcl := congrArg List.length h1
    rw [bc_length, List.length_take, List.length_drop, hfl] at hcl
    refine ⟨b, o + i * 32, fun K hK => idx_i hi hK, fun K hK => loadN hb (by omega) ?_⟩
    rw [take_drop_part cs o (i * 32) 32 (ls.length * 32) (by omega), h1, bc_part, flatG_get h32 hi]
    exact hK

section
variable {S : List Nat} {w0 w : World} {L R : List Res} {K : VPost}
theorem Sep.apG {v x : Value} {ls ms : List Bytes} (s : Sep S w0 w L R) (i : Nat) (hL : L[i]? = some (rG v ls)) (hx : RdSl w x 32 (bc ms.flatten) ms.length) (hn : ls.length + ms.length ≤ 10000000)
    (h : ∀ v' w', Sep S w0 w' (L.set i (rG v' (ls ++ ms))) R → K v' w') : insW Tryz.prog (Builtin.append_ #[57, 57] 57 #[v, x]) w K := by
  obtain ⟨ti, hti, htz, hts, htb⟩ := tyI_spec ty_dig
  refine s.appendO (v := v) (n := ls.length) (m := ms.length) (ys := bc ms.flatten) (xs := bc ls.flatten) i (by rw [hts]; exact hL) und_digs und_digs hti htz (by rw [hts]; rfl) (by rw [htb]; decide) (by rw [hts]; exact hx) (bc_one _) (by rw [htb]; omega) fun v' w' s => ?_
  rw [hts, ← bc_append, ← List.flatten_append, ← List.length_append] at s
  exact h v' w' s
theorem Sep.litG {b : Bytes} (s : Sep S w0 w L R) (hb : b.length = 32) (h : ∀ v' w', Sep S w0 w' (rG v' [b] :: L) R → K v' w') : insW Tryz.prog (Instr.buildSlice 57 1 #[(0, kv b)]) w K := by
  obtain ⟨ti, hti, htz, hts, htb⟩ := tyI_spec ty_dig
  refine s.lit (vs := [kv b]) und_digs hti htz rfl (by intro y hy; rw [List.mem_singleton] at hy; subst hy; rw [hts]; show (bc b).toArray.size = 32; rw [List.size_toArray, bc_length, hb]) (by rw [hts]; simp) fun t w1 s1 _ _ => h t w1 ?_
  have e : flatV [kv b] = bc [b].flatten := by simp [flatV, Value.cells]
  rw [hts, e] at s1
  exact s1
theorem Sep.litG0 (s : Sep S w0 w L R) (h : ∀ v' w', Sep S w0 w' (rG v' [] :: L) R → K v' w') : insW Tryz.prog (Instr.buildSlice 57 0 #[]) w K := by
  obtain ⟨ti, hti, htz, hts, htb⟩ := tyI_spec ty_dig
  exact s.lit (vs := []) und_digs hti htz rfl (by simp) (by simp) fun t w1 s1 _ _ => h t w1 (by rw [hts] at s1; exact s1)
end

theorem cloneG_c {w : World} {K : VPost} {x : Value} {ks : List Bytes} (hx : RdSl w x 32 (bc ks.flatten) ks.length) (h32 : ∀ l ∈ ks, l.length = 32) (hn : ks.length ≤ 1000000)
    (hK : ∀ v w', OwnAt w' v 34 32 (bc ks.flatten) ks.length → Ext [] w w' → (∀ b ∈ slB v, w.heap.size ≤ b) → K v w') : Calls Tryz.prog 42 #[x] w (retK K) := by
  refine c42_calls _ w K ?_
  unfold c42
  obtain ⟨xa, xc, rfl⟩ := hx.len
  rw [slice_eql_nil und_digs]
  cases xa with
  | none =>
    show condW (.bool true) _ _
    rw [condW_t]
    have hl : ks = [] := by
      obtain ⟨h0, ⟨h1, _⟩ | ⟨b, o, c, cs, h1, _⟩⟩ := hx
      · cases ks with
        | nil => rfl
        | cons y r =>
          have := congrArg List.length h1
          rw [bc_length, flatG h32] at this
          simp at this
      · cases h1
    subst hl
    exact hK _ w (.inl ⟨rfl, rfl, rfl⟩) (Ext.refl _ _) (by simp [slB])
  | some a =>
    show condW (.bool false) _ _
    rw [condW_f]
    refine (Sep.zero1 (U := rGR _ ks) hx).litG0 fun t w1 s => ?_
    refine s.apG (v := t) (ls := []) 0 rfl (s.rat 0 rfl) (by simp; omega) fun v' w2 s => ?_
    rw [List.nil_append] at s
    exact hK v' w2 (s.at 0 rfl) s.ext (s.fresh 0 rfl)

/-- Where a digest is first. -/
theorem index_c {w : World} {K : VPost} {x : Value} {ks : List Bytes} {k : Bytes} (hx : RdSl w x 32 (bc ks.flatten) ks.length) (h32 : ∀ l ∈ ks, l.length = 32) (hk : k.length = 32) (hn : ks.length ≤ 1000000)
    (hK : ∀ r w', Ext [] w w' → ((0 ≤ r) ↔ k ∈ ks) → K (.int .i64 r) w') : Calls Tryz.prog 58 #[x, kv k] w (retK K) := by
  refine c58_calls _ _ w K ?_
  unfold c58
  have hbl : (bc k).length = 32 := by rw [bc_length, hk]
  refine (Sep.zero1 (U := rGR x ks) hx).box fun b w1 s _ => ?_
  have s : Sep [] w w1 [rB b (bc k) 34] [rGR x ks] := by simpa [Value.cells] using s
  refine bindX_i fun J0 h0 => bindX_i fun J1 h1 => ?_
  rw [hx.lenw]
  refine bindX_i fun J2 h2 => ?_
  refine loop_i (fun m fr wr => ∃ i : Nat, m = ks.length - i ∧ i ≤ ks.length ∧ k ∉ ks.take i ∧ fr 0 = x ∧ fr 3 = ptrA b ∧ fr 7 = .int .i64 ks.length ∧ fr 8 = .int .i64 i ∧ Sep [] w wr [rB b (bc k) 34] [rGR x ks]) ks.length ?_ ?_
  · exact ⟨0, rfl, by omega, by simp, rfl, rfl, rfl, rfl, s⟩
  · rintro m fr wr J ⟨i, rfl, hi, hno, f0, f3, f7, f8, s⟩ hJ hX
    rw [f7, f8]
    refine nlss (cond_d (fun hlt => ?_) (fun hlt => ?_))
    · have s := s.drew
      generalize wr.drew = wr at *
      rw [f3, f0]
      refine s.loadAll 0 rfl hbl ?_
      obtain ⟨b0, o0, hix, hld⟩ := RdSl.digAt (s.rat 0 rfl) h32 hlt .i64
      refine hix _ ?_
      refine hld _ ?_
      have hki := h32 _ (List.getElem_mem hlt)
      refine dig_eql hk hki ⟨rfl, ?_⟩
      refine cond_d (fun he => ?_) (fun he => ?_)
      · refine hX _ _ _ (by simp) (h2 _ _ _ (h1 _ _ _ (h0 _ _ _ ?_)))
        exact hK i wr s.ext ⟨fun _ => by rw [he]; exact List.getElem_mem hlt, fun _ => by omega⟩
      · refine nadd (y := 1) (by omega) ?_
        refine hJ (ks.length - (i + 1)) _ _ (by omega) ⟨i + 1, rfl, by omega, ?_, f0, f3, f7, rfl, s⟩
        rw [List.take_succ_eq_append_getElem hlt, List.mem_append, List.mem_singleton]
        rintro (h | h)
        · exact hno h
        · exact he h
    · obtain rfl : i = ks.length := by omega
      refine hX _ _ _ (by simp) (h2 _ _ _ (h1 _ _ _ ?_))
      rw [List.take_length] at hno
      exact hK (-1) wr s.ext ⟨fun h => by omega, fun h => absurd h hno⟩
theorem contains_c {w : World} {K : VPost} {x : Value} {ks : List Bytes} {k : Bytes} (hx : RdSl w x 32 (bc ks.flatten) ks.length) (h32 : ∀ l ∈ ks, l.length = 32) (hk : k.length = 32) (hn : ks.length ≤ 1000000)
    (hK : ∀ w', Ext [] w w' → K (.bool (decide (k ∈ ks))) w') : Calls Tryz.prog 45 #[x, kv k] w (retK K) := by
  refine c45_calls _ _ w K ?_
  unfold c45
  have hbl : (bc k).length = 32 := by rw [bc_length, hk]
  refine (Sep.zero1 (U := rGR x ks) hx).box fun b w1 s _ => ?_
  have s : Sep [] w w1 [rB b (bc k) 34] [rGR x ks] := by simpa [Value.cells] using s
  refine s.loadAll 0 rfl hbl ?_
  refine fnW_of (by kernel_rfl) (index_c (s.rat 0 rfl) h32 hk hn fun r w2 e2 hr => ?_)
  rw [igeq]
  have := hK w2 (s.ext0 e2).ext
  have e : decide (k ∈ ks) = decide (0 ≤ r) := by
    by_cases h : k ∈ ks
    · rw [decide_eq_true h, decide_eq_true (hr.2 h)]
    · rw [decide_eq_false h, decide_eq_false (fun h0 => h (hr.1 h0))]
  rw [e] at this
  exact this
end Go.Proofs.YtedebapgmfnflaaGreatDoor

/- A vault's entries; note, records, load: walks. Conditions: keys have 32 bytes, values at most 1000. -/
namespace Go.Proofs.YtedebapgmfnflaaGreatDoor
open Go
set_option maxRecDepth 100000

/-- Entries: keys and values, in order. -/
abbrev Ents := List (Bytes × Bytes)
abbrev keysE (es : Ents) : List Bytes := es.map (·.1)
abbrev valsE (es : Ents) : List Bytes := es.map (·.2)
def recE (e : Bytes × Bytes) : Bytes := e.1 ++ e.2
def getE (es : Ents) (k : Bytes) : Option Bytes := (es.find? fun p => decide (p.1 = k)).map (·.2)
/-- The map of entries whose values head so. -/
def mapE : Ents → List Value → List (Bytes × Value)
  | e :: es, h :: hs => (e.1, h) :: mapE es hs
  | _, _ => []

theorem getE_none {es : Ents} {k : Bytes} : getE es k = none ↔ k ∉ keysE es := by
  unfold getE
  rw [Option.map_eq_none_iff, List.find?_eq_none]
  simp only [decide_eq_true_eq, List.mem_map, not_exists, not_and]
theorem getM_mapE {w : World} : ∀ {es : Ents} {hv : List Value} (k : Bytes), RowsL w hv (valsE es) → (getM (mapE es hv) k = none ∧ getE es k = none) ∨ ∃ h l, getM (mapE es hv) k = some h ∧ getE es k = some l ∧ RdSl w h 1 (bc l) l.length ∧ capOk h ∧ l ∈ valsE es ∧ ∀ b ∈ rdB h (bc l), b ∈ rowsF hv (valsE es)
  | [], [], k, _ => .inl ⟨rfl, rfl⟩
  | e :: es, h :: hv, k, hr => by
    obtain ⟨⟨h1, h2⟩, h3⟩ := hr
    by_cases hk : e.1 = k
    · refine .inr ⟨h, e.2, ?_, ?_, h1, h2, by simp [valsE], fun b hb => List.mem_append_left _ hb⟩
      · unfold getM mapE
        rw [List.find?_cons_of_pos (by simpa using hk)]; rfl
      · unfold getE
        rw [List.find?_cons_of_pos (by simpa using hk)]; rfl
    · have e1 : getM (mapE (e :: es) (h :: hv)) k = getM (mapE es hv) k := by
        unfold getM
        rw [mapE, List.find?_cons_of_neg (by simpa using hk)]
      have e2 : getE (e :: es) k = getE es k := by
        unfold getE
        rw [List.find?_cons_of_neg (by simpa using hk)]
      rw [e1, e2]
      rcases getM_mapE (es := es) k h3 with h4 | ⟨x, l, h4, h5, h6, h7, h8, h9⟩
      · exact .inl h4
      · exact .inr ⟨x, l, h4, h5, h6, h7, List.mem_cons_of_mem _ h8, fun b hb => List.mem_append_right _ (h9 b hb)⟩
theorem mapE_snoc {e : Bytes × Bytes} {h : Value} : ∀ {es : Ents} {hv : List Value}, hv.length = es.length → mapE (es ++ [e]) (hv ++ [h]) = mapE es hv ++ [(e.1, h)]
  | [], [], _ => rfl
  | x :: es, y :: hv, hl => by
    show (x.1, y) :: mapE (es ++ [e]) (hv ++ [h]) = _
    rw [mapE_snoc (es := es) (hv := hv) (by simpa using hl)]
    rfl
  | [], _ :: _, hl => by simp at hl
  | _ :: _, [], hl => by simp at hl

structure VaultH where
  disk : Nat
  area : Option Nat
  map : Nat
  order : Value
abbrev apV (o : Option Nat) : Value := .pointer (o.map fun a => ⟨a, 0, none⟩)
def VaultH.cells (V : VaultH) : List Value := [ptrA V.disk, apV V.area, .map (some V.map), V.order]
abbrev rV (v : Nat) (V : VaultH) : Res := rB v V.cells 69

theorem cloneB_c {w : World} {K : VPost} {x : Value} {l : Bytes} (hx : RdSl w x 1 (bc l) l.length) (hn : l.length ≤ 2 ^ 30)
    (hK : ∀ v w', OwnAt w' v 5 1 (bc l) l.length → Ext [] w w' → (∀ b ∈ slB v, w.heap.size ≤ b) → K v w') : Calls Tryz.prog 56 #[x] w (retK K) := by
  refine c56_calls _ w K ?_
  unfold c56
  obtain ⟨xa, xc, rfl⟩ := hx.len
  rw [slice_eql_nil und_u8s]
  cases xa with
  | none =>
    show condW (.bool true) _ _
    rw [condW_t]
    have hl : l = [] := by
      obtain ⟨_, ⟨h0, _⟩ | ⟨b, o, c, cs, h0, _⟩⟩ := hx
      · cases l with
        | nil => rfl
        | cons y r => simp [bc] at h0
      · cases h0
    subst hl
    exact hK _ w (.inl ⟨rfl, rfl, rfl⟩) (Ext.refl _ _) (by simp [slB])
  | some a =>
    show condW (.bool false) _ _
    rw [condW_f]
    refine (Sep.zero1 (U := rR _ 1 (bc l) l.length) hx).litB [] rfl (by simp) fun t w1 s _ _ => ?_
    refine s.apB (v := t) (l := []) 0 rfl (s.rat 0 rfl) (by simp; omega) fun v' w2 s => ?_
    rw [List.nil_append] at s
    exact hK v' w2 (s.at 0 rfl) s.ext (s.fresh 0 rfl)

theorem record_c {w : World} {K : VPost} {x : Value} {k l : Bytes} (hk : k.length = 32) (hx : RdSl w x 1 (bc l) l.length) (hn : l.length ≤ 2 ^ 30)
    (hK : ∀ v w', OwnAt w' v 5 1 (bc (k ++ l)) (k ++ l).length → Ext [] w w' → (∀ b ∈ slB v, w.heap.size ≤ b) → K v w') : Calls Tryz.prog 36 #[kv k, x] w (retK K) := by
  refine c36_calls _ _ w K ?_
  unfold c36
  refine (Sep.zero1 (U := rR x 1 (bc l) l.length) hx).box fun b w1 s _ => ?_
  have s : Sep [] w w1 [rB b (bc k) 34] [rR x 1 (bc l) l.length] := by simpa [Value.cells] using s
  refine slArr_at ?_
  have r1 : RdSl w1 (.slice (some ⟨b, 0, none⟩) 32 32) 1 (bc (k.take 32)) (k.take 32).length := Blk.rdTo (s.at 0 rfl) hk (by decide)
  rw [List.take_of_length_le (by omega)] at r1
  refine fnW_of (by kernel_rfl) (cloneB_c r1 (by omega) fun v2 w2 hv2 e2 hf2 => ?_)
  have s := s.add (T := rDb v2 k) hv2 e2 hf2
  refine s.apB (v := v2) (l := k) 0 rfl (s.rat 0 rfl) (by omega) fun v3 w3 s => ?_
  exact hK v3 w3 (s.at 0 rfl) s.ext (s.fresh 0 rfl)

/-- Bytes that are read, or are one's own and stay. -/
def Reads (L R : List Res) (x : Value) (l : Bytes) : Prop := rR x 1 (bc l) l.length ∈ R ∨ rDb x l ∈ L
theorem Reads.mono {L L' R R' : List Res} {x : Value} {l : Bytes} (h : Reads L R x l) (hL : ∀ T ∈ L, T ∈ L') (hR : ∀ T ∈ R, T ∈ R') : Reads L' R' x l := by
  rcases h with h | h
  · exact .inl (hR _ h)
  · exact .inr (hL _ h)
theorem Reads.rd {S : List Nat} {w0 w : World} {L R : List Res} {x : Value} {l : Bytes} (h : Reads L R x l) (s : Sep S w0 w L R) : RdSl w x 1 (bc l) l.length := by
  rcases h with h | h
  · exact s.rd _ h
  · exact OwnAt.rd (s.own _ h)

section
variable {S : List Nat} {w0 w : World} {L R : List Res} {K : VPost}
/-- What note does. -/
def noteE (es : Ents) (k l : Bytes) : Ents := if k ∈ keysE es then es else es ++ [(k, l)]

set_option maxHeartbeats 1000000 in
theorem Sep.note {v : Nat} {V : VaultH} {x : Value} {k l : Bytes} {es : Ents} {hv : List Value} (s : Sep S w0 w (rV v V :: rM V.map (mapE es hv) :: rG V.order (keysE es) :: L) R) (hr : rL hv (valsE es) ∈ R) (hx : Reads L R x l) (hk : k.length = 32) (hl : l.length ≤ 2 ^ 30) (hn : es.length ≤ 1000000)
    (h : ∀ o' hv' w', Sep S w0 w' (rV v { V with order := o' } :: rM V.map (mapE (noteE es k l) hv') :: rG o' (keysE (noteE es k l)) :: L) (rL hv' (valsE (noteE es k l)) :: R) → K (.tuple #[]) w') :
    fnW Tryz.prog 38 #[ptrA v, kv k, x] w K := by
  refine fnW_of (by kernel_rfl) (c38_calls _ _ _ w K ?_)
  unfold c38
  have hbl : (bc k).length = 32 := by rw [bc_length, hk]
  refine s.box fun b w1 s _ => ?_
  have s : Sep S w0 w1 (rB b (bc k) 34 :: rV v V :: rM V.map (mapE es hv) :: rG V.order (keysE es) :: L) R := by simpa [Value.cells] using s
  have s := s.drew
  generalize w1.drew = w1 at *
  rw [nilW_e]
  refine off_i ?_
  refine s.load1 1 rfl rfl ?_
  refine s.loadAll 0 rfl hbl ?_
  have hrl : RowsL w1 hv (valsE es) := s.rd _ hr
  have hvl : hv.length = es.length := by rw [hrl.length, List.length_map]
  refine lookup_i (s.at 2 rfl) hk ⟨rfl, ?_⟩
  rw [extr0, extr1]
  rcases getM_mapE k hrl with ⟨hm, hg⟩ | ⟨hh, ll, hm, hg, _⟩
  · rw [hm]
    have hnk : k ∉ keysE es := getE_none.1 hg
    have hno : noteE es k l = es ++ [(k, l)] := if_neg hnk
    rw [hno] at h
    refine cndF ?_
    have s := s.drew
    generalize w1.drew = w1 at *
    rw [nilW_e]
    refine off_i ?_
    refine s.load1 1 rfl rfl ?_
    refine s.loadAll 0 rfl hbl ?_
    have hxr : RdSl w1 x 1 (bc l) l.length := (hx.mono (fun T hT => by simp [hT]) (fun T h => h)).rd s
    refine fnW_of (by kernel_rfl) (bytesClone_c hxr (by omega) fun v4 w2 hv4 e4 hf4 => ?_)
    have s := s.add (T := rDb v4 l) hv4 e4 hf4
    refine ⟨s.load1 2 rfl rfl ⟨rfl, rfl⟩, ⟨s.loadAll 1 rfl hbl ⟨rfl, rfl⟩, ?_⟩⟩
    refine s.mapPut 3 rfl hk hm fun w3 s => ?_
    have s := s.drew
    generalize w3.drew = w3 at *
    rw [nilW_e]
    refine off_i ?_
    refine s.load1 2 rfl rfl ?_
    refine s.loadAll 1 rfl hbl ?_
    refine s.litG hk fun vl w4 s => ?_
    refine ⟨s.load1 3 rfl rfl ⟨rfl, rfl⟩, ?_⟩
    refine s.apG (ls := keysE es) (ms := [k]) 5 rfl (OwnAt.rd (s.at 0 rfl)) (by simp; omega) fun o2 w5 s => ?_
    rw [nilW_e]
    refine off_i ?_
    obtain ⟨qa, qc, hq⟩ := (OwnAt.rd (s.at 5 rfl)).len
    refine s.store1 3 rfl (by rw [hq]; rfl) (by show 3 < 4; decide) (by rw [hq]; rfl) fun w6 s _ => ?_
    have s := s.drop 0
    have s := s.growR hr
    have s := s.drop 0
    have em : mapE (es ++ [(k, l)]) (hv ++ [v4]) = mapE es hv ++ [(k, v4)] := mapE_snoc hvl
    have ek : keysE (es ++ [(k, l)]) = keysE es ++ [k] := by simp [keysE]
    have ev : valsE (es ++ [(k, l)]) = valsE es ++ [l] := by simp [valsE]
    have := h o2 (hv ++ [v4]) w6
    rw [em, ek, ev] at this
    exact this s
  · rw [hm]
    have hnk : k ∈ keysE es := by
      rcases Classical.em (k ∈ keysE es) with h1 | h1
      · exact h1
      · rw [getE_none.2 h1] at hg; cases hg
    have hno : noteE es k l = es := if_pos hnk
    rw [hno] at h
    refine cndT ?_
    have s := s.drop 0
    refine h V.order hv w1 (s.less (fun T hT => by
      rcases List.mem_cons.1 hT with rfl | hT
      · exact hr
      · exact hT))
end
end Go.Proofs.YtedebapgmfnflaaGreatDoor

/- A vault's Get, Keys, Len, Sound, Free, records, load: walks. Conditions: keys have 32 bytes, at most 10^6 entries. -/
namespace Go.Proofs.YtedebapgmfnflaaGreatDoor
open Go
set_option maxRecDepth 100000

/-- Conditions on entries. -/
structure EntsOk (es : Ents) : Prop where
  k32 : ∀ e ∈ es, e.1.length = 32
  v : ∀ e ∈ es, e.2.length ≤ 1000
  few : es.length ≤ 100000
theorem EntsOk.keys {es : Ents} (h : EntsOk es) : ∀ k ∈ keysE es, k.length = 32 := by
  intro k hk
  obtain ⟨e, he, rfl⟩ := List.mem_map.1 hk
  exact h.k32 e he
theorem EntsOk.vals {es : Ents} (h : EntsOk es) : ∀ l ∈ valsE es, l.length ≤ 1000 := by
  intro k hk
  obtain ⟨e, he, rfl⟩ := List.mem_map.1 hk
  exact h.v e he
theorem keysE_length (es : Ents) : (keysE es).length = es.length := List.length_map _
theorem valsE_length (es : Ents) : (valsE es).length = es.length := List.length_map _

section
variable {S : List Nat} {w0 w : World} {L R : List Res} {K : VPost}

theorem Sep.vLen {v : Nat} {V : VaultH} {es : Ents} (s : Sep S w0 w L R) (i j : Nat) (hi : L[i]? = some (rV v V)) (hj : L[j]? = some (rG V.order (keysE es))) (h : K (.int .i64 es.length) w) : fnW Tryz.prog 18 #[ptrA v] w K := by
  refine fnW_of (by kernel_rfl) (c18_calls _ w K ?_)
  unfold c18
  rw [nilW_e]
  refine off_i ?_
  refine s.load1 i hi rfl ?_
  rw [(OwnAt.rd (s.at j hj)).lenw, keysE_length]
  exact h
theorem Sep.vSound {v : Nat} {V : VaultH} (s : Sep S w0 w L R) (i : Nat) (hi : L[i]? = some (rV v V)) (h : K (.bool V.area.isSome) w) : fnW Tryz.prog 19 #[ptrA v] w K := by
  refine fnW_of (by kernel_rfl) (c19_calls _ w K ?_)
  unfold c19
  rw [nilW_e]
  refine off_i ?_
  refine s.load1 i hi rfl ?_
  cases ha : V.area with
  | none =>
    rw [ha] at h
    show binW _ _ _ _ (.pointer none) _ _ _
    rw [nil_neq_nilA ptr_area]
    exact h
  | some a =>
    rw [ha] at h
    show binW _ _ _ _ (.pointer (some _)) _ _ _
    rw [ptr_neq_nil ptr_area]
    exact h
theorem Sep.vKeys {v : Nat} {V : VaultH} {es : Ents} (s : Sep S w0 w L R) (ok : EntsOk es) (i j : Nat) (hi : L[i]? = some (rV v V)) (hj : L[j]? = some (rG V.order (keysE es))) (h : ∀ x w', Sep S w0 w' (rG x (keysE es) :: L) R → K x w') : fnW Tryz.prog 26 #[ptrA v] w K := by
  refine fnW_of (by kernel_rfl) (c26_calls _ w K ?_)
  unfold c26
  rw [nilW_e]
  refine off_i ?_
  refine s.load1 i hi rfl ?_
  have hf := ok.few
  refine fnW_of (by kernel_rfl) (cloneG_c (OwnAt.rd (s.at j hj)) ok.keys (by rw [keysE_length]; omega) fun x w1 hx e hf => ?_)
  exact h x w1 (s.add (T := rG x (keysE es)) hx e hf)
theorem Sep.vGet {v : Nat} {V : VaultH} {es : Ents} {hv : List Value} {k : Bytes} (s : Sep S w0 w L R) (ok : EntsOk es) (hk : k.length = 32) (i j : Nat) (hi : L[i]? = some (rV v V)) (hj : L[j]? = some (rM V.map (mapE es hv))) (hr : rL hv (valsE es) ∈ R)
    (h : ∀ x w', Sep S w0 w' (rDb x ((getE es k).getD []) :: L) R → K (.tuple #[x, .bool (getE es k).isSome]) w') : fnW Tryz.prog 25 #[ptrA v, kv k] w K := by
  refine fnW_of (by kernel_rfl) (c25_calls _ _ w K ?_)
  unfold c25
  have hbl : (bc k).length = 32 := by rw [bc_length, hk]
  refine s.box fun b w1 s _ => ?_
  have s : Sep S w0 w1 (rB b (bc k) 34 :: L) R := by simpa [Value.cells] using s
  have s := s.drew
  generalize w1.drew = w1 at *
  rw [nilW_e]
  refine off_i ?_
  refine s.load1 (i + 1) (by simpa using hi) rfl ?_
  refine s.loadAll 0 rfl hbl ?_
  have hrl : RowsL w1 hv (valsE es) := s.rd _ hr
  refine lookup_i (s.at (j + 1) (by simpa using hj)) hk ⟨rfl, ?_⟩
  rw [extr0, extr1]
  rcases getM_mapE k hrl with ⟨hm, hg⟩ | ⟨hh, ll, hm, hg, hrd, _, hmem, _⟩
  · rw [hm]
    rw [hg] at h
    refine fnW_of (by kernel_rfl) (bytesClone_c (l := []) ⟨rfl, .inl ⟨rfl, _, _, rfl⟩⟩ (by simp) fun x w2 hx e hf => ?_)
    have s := (s.add (T := rDb x []) hx e hf).drop 1
    exact h x w2 s
  · rw [hm]
    rw [hg] at h
    have := ok.vals ll hmem
    refine fnW_of (by kernel_rfl) (bytesClone_c (l := ll) hrd (by omega) fun x w2 hx e hf => ?_)
    have s := (s.add (T := rDb x ll) hx e hf).drop 1
    exact h x w2 s

/-- The records of keys. -/
def recsE (es : Ents) (ks : List Bytes) : List Bytes := ks.map fun k => k ++ (getE es k).getD []
set_option maxHeartbeats 1000000 in
theorem Sep.vRecords {v : Nat} {V : VaultH} {es : Ents} {hv : List Value} {x : Value} {ks : List Bytes} (s : Sep S w0 w L R) (ok : EntsOk es) (h32 : ∀ k ∈ ks, k.length = 32) (hn : ks.length ≤ 100000) (i j l : Nat) (hi : L[i]? = some (rV v V)) (hj : L[j]? = some (rM V.map (mapE es hv))) (hl : L[l]? = some (rG x ks)) (hr : rL hv (valsE es) ∈ R)
    (h : ∀ y hs w', Sep S w0 w' (rO y 36 1 hs (recsE es ks).length :: L) (rL hs (recsE es ks) :: R) → K y w') : fnW Tryz.prog 32 #[ptrA v, x] w K := by
  refine fnW_of (by kernel_rfl) (c32_calls _ _ w K ?_)
  unfold c32
  refine bindX_i fun J0 h0 => bindX_i fun J1 h1 => ?_
  have hxo : OwnAt w x 34 32 (bc ks.flatten) ks.length := s.at l hl
  rw [hxo.rd.lenw]
  refine bindX_i fun J2 h2 => ?_
  have hrl0 : RowsL w hv (valsE es) := s.rd _ hr
  have s := (s.add (T := rO (.slice none 0 0) 36 1 [] 0) (.inl ⟨rfl, rfl, rfl⟩) (Ext.refl _ _) (by simp [rO, slB])).noRows
  refine loop_i (fun m fr wr => ∃ (q : Nat) (y : Value) (hs : List Value), m = ks.length - q ∧ q ≤ ks.length ∧ fr 0 = ptrA v ∧ fr 5 = y ∧ fr 8 = x ∧ fr 9 = .int .i64 ks.length ∧ fr 10 = .int .i64 q ∧ Sep S w0 wr (rO y 36 1 hs (recsE es (ks.take q)).length :: L) (rL hs (recsE es (ks.take q)) :: R)) ks.length ?_ ?_
  · exact ⟨0, _, [], rfl, by omega, rfl, rfl, rfl, rfl, rfl, s⟩
  · rintro m fr wr J ⟨q, y, hs, rfl, hq, f0, f5, f8, f9, f10, s⟩ hJ hX
    rw [f9, f10]
    refine nlss (cond_d (fun hlt => ?_) (fun hlt => ?_))
    · rw [f8, f0]
      have hL : ∀ (T : Res) (n : Nat) (U : Res), L[n]? = some U → (T :: L)[n + 1]? = some U := fun T n U hu => by simpa using hu
      have hxr : RdSl wr x 32 (bc ks.flatten) ks.length := OwnAt.rd (s.at (l + 1) (hL _ _ _ hl))
      obtain ⟨b0, o0, hix, hld⟩ := hxr.digAt h32 hlt .i64
      refine hix _ ?_
      refine hld _ ?_
      have hk := h32 _ (List.getElem_mem hlt)
      have htk : ks.take (q + 1) = ks.take q ++ [ks[q]] := List.take_succ_eq_append_getElem hlt
      generalize ks[q] = k at *
      have hbl : (bc k).length = 32 := by rw [bc_length, hk]
      refine s.alloc zero_digG cells_digG fun b w1 s _ => ?_
      refine s.storeAll 0 rfl hbl (by rw [bc_length]; rfl) (bc_one _) fun w2 s _ => ?_
      have s : Sep S w0 w2 (rB b (bc k) 34 :: rO y 36 1 hs (recsE es (ks.take q)).length :: L) (rL hs (recsE es (ks.take q)) :: R) := s
      have s := s.drew
      generalize w2.drew = w2 at *
      refine s.loadAll 0 rfl hbl ?_
      rw [nilW_e]
      refine off_i ?_
      refine s.load1 (i + 2) (by simpa using hi) rfl ?_
      refine s.loadAll 0 rfl hbl ?_
      have hrl : RowsL w2 hv (valsE es) := s.rd (rL hv (valsE es)) (by simp [hr])
      refine lookup1_i (s.at (j + 2) (by simpa using hj)) hk ⟨rfl, ?_⟩
      have hval : ∃ ll, (getE es k).getD [] = ll ∧ RdSl w2 ((getM (mapE es hv) k).getD (.slice none 0 0)) 1 (bc ll) ll.length ∧ ll.length ≤ 1000 := by
        rcases getM_mapE k hrl with ⟨hm, hg⟩ | ⟨hh, ll, hm, hg, hrd, _, hmem, _⟩
        · exact ⟨[], by rw [hg]; rfl, by rw [hm]; exact ⟨rfl, .inl ⟨rfl, _, _, rfl⟩⟩, by simp⟩
        · exact ⟨ll, by rw [hg]; rfl, by rw [hm]; exact hrd, ok.vals ll hmem⟩
      obtain ⟨ll, hle, hlr, hll⟩ := hval
      refine fnW_of (by kernel_rfl) (record_c hk hlr (by omega) fun vr w3 hvr e3 hf3 => ?_)
      have s := s.add (T := rDb vr (k ++ ll)) hvr e3 hf3
      obtain ⟨ra, rc, hra⟩ := hvr.rd.len
      have s := s.drop 1
      rw [f5]
      refine s.litRv hra fun vl w4 s => ?_
      have hln : (recsE es (ks.take q)).length ≤ 2 ^ 30 := by unfold recsE; rw [List.length_map, List.length_take]; omega
      refine s.apRow (v := y) (hs := hs) (n := (recsE es (ks.take q)).length) 2 rfl (OwnAt.rd (s.at 0 rfl)) (by rw [hra]; rfl) hln fun y2 w5 s => ?_
      have s := (s.drop 0).growR (hs := hs) (ls := recsE es (ks.take q)) (by simp)
      refine nadd (y := 1) (by omega) ?_
      have er : recsE es (ks.take (q + 1)) = recsE es (ks.take q) ++ [k ++ ll] := by
        rw [htk]
        unfold recsE
        rw [List.map_append, ← hle]
        rfl
      have el : (recsE es (ks.take q) ++ [k ++ ll]).length = (recsE es (ks.take q)).length + 1 := by simp
      refine hJ (ks.length - (q + 1)) _ _ (by omega) ⟨q + 1, y2, hs ++ [vr], rfl, by omega, f0, rfl, f8, f9, rfl, ?_⟩
      rw [er, el]
      exact s.less (fun T hT => by
        rcases List.mem_cons.1 hT with rfl | hT
        · simp
        · simp [hT])
    · obtain rfl : q = ks.length := by omega
      refine hX _ _ _ (by simp) (h2 _ _ _ (h1 _ _ _ ?_))
      rw [List.take_length] at s
      show K (fr 5) _
      rw [f5]
      exact h y hs wr s
end
end Go.Proofs.YtedebapgmfnflaaGreatDoor

/- A vault's load, Free, Flush, Put: walks. Conditions: see each. -/
namespace Go.Proofs.YtedebapgmfnflaaGreatDoor
open Go
set_option maxRecDepth 100000

theorem arrAt_i {w : World} {K : VPost} {v : Value} {k : Bytes} (h : RdSl w v 1 (bc k) 32) (hk : k.length = 32)
    (hK : ∀ b o, (∀ K : VPost, K (kv k) w → loadW (some (true, 32)) (.pointer (some ⟨b, o, none⟩)) w K) → K (.pointer (some ⟨b, o, none⟩)) w) : genW Tryz.prog (do pure (Next.value (← Instr.arrayAt 34 v))) w K := by
  obtain ⟨hl, ⟨h0, _⟩ | ⟨b, o, c, cs, rfl, hb, h1, h2⟩⟩ := h
  · have := congrArg List.length h0
    rw [bc_length, hk] at this
    simp at this
  · have hc := congrArg List.length h1
    rw [bc_length, hk, List.length_take, List.length_drop] at hc
    have := hK b o (fun K hK => loadN hb (by omega) (by rw [h1]; exact hK))
    unfold genW nextW
    have hr : (do pure (Next.value (← Instr.arrayAt 34 (.slice (some ⟨b, o, none⟩) 32 c))) : Sem Next).run Tryz.prog w = .ok (.value (.pointer (some ⟨b, o, none⟩))) w := by
      unfold Instr.arrayAt
      simp [Sem.run_bind, run_und und_dig, Result.andThen]
    rw [hr]
    exact this

def loadE (es : Ents) (r : Bytes) : Ents := if 32 ≤ r.length ∧ r.length ≤ 1032 then noteE es (r.take 32) (r.drop 32) else es
theorem noteE_ok {es : Ents} {k l : Bytes} {n : Nat} (h1 : ∀ e ∈ es, e.1.length = 32) (h2 : ∀ e ∈ es, e.2.length ≤ 1000) (h3 : es.length ≤ n) (hk : k.length = 32) (hl : l.length ≤ 1000) :
    (∀ e ∈ noteE es k l, e.1.length = 32) ∧ (∀ e ∈ noteE es k l, e.2.length ≤ 1000) ∧ (noteE es k l).length ≤ n + 1 := by
  unfold noteE
  split
  · exact ⟨h1, h2, by omega⟩
  · refine ⟨fun e he => ?_, fun e he => ?_, by rw [List.length_append, List.length_singleton]; omega⟩
    · rcases List.mem_append.1 he with he | he
      · exact h1 e he
      · rw [List.mem_singleton] at he
        subst he
        exact hk
    · rcases List.mem_append.1 he with he | he
      · exact h2 e he
      · rw [List.mem_singleton] at he
        subst he
        exact hl
theorem loadE_ok {es : Ents} {r : Bytes} {n : Nat} (h1 : ∀ e ∈ es, e.1.length = 32) (h2 : ∀ e ∈ es, e.2.length ≤ 1000) (h3 : es.length ≤ n) : (∀ e ∈ loadE es r, e.1.length = 32) ∧ (∀ e ∈ loadE es r, e.2.length ≤ 1000) ∧ (loadE es r).length ≤ n + 1 := by
  unfold loadE
  split
  · rename_i h
    exact noteE_ok h1 h2 h3 (by rw [List.length_take]; omega) (by rw [List.length_drop]; omega)
  · exact ⟨h1, h2, by omega⟩
theorem loadsE_ok (rs : List Bytes) : ∀ (n : Nat), n ≤ rs.length → (∀ e ∈ (rs.take n).foldl loadE [], e.1.length = 32) ∧ (∀ e ∈ (rs.take n).foldl loadE [], e.2.length ≤ 1000) ∧ ((rs.take n).foldl loadE []).length ≤ n
  | 0, _ => ⟨by simp, by simp, by simp⟩
  | n + 1, hn => by
    obtain ⟨h1, h2, h3⟩ := loadsE_ok rs n (by omega)
    rw [List.take_succ_eq_append_getElem (show n < rs.length by omega), List.foldl_append]
    exact loadE_ok h1 h2 h3

section
variable {S : List Nat} {w0 w : World} {L R : List Res} {K : VPost} {F : List Nat} {D : DiskM}
set_option maxHeartbeats 1000000 in
theorem Sep.vLoad {v : Nat} {V : VaultH} {x : Value} {hs : List Value} {rs : List Bytes} (s : Sep S w0 w (rV v V :: rM V.map [] :: rG V.order [] :: L) R) (i : Nat) (hi : L[i]? = some (rO x 36 1 hs rs.length)) (hr : rL hs rs ∈ R) (hn : rs.length ≤ 100000) (hb : ∀ r ∈ rs, r.length ≤ 2 ^ 30)
    (h : ∀ o' hv' w', Sep S w0 w' (rV v { V with order := o' } :: rM V.map (mapE (rs.foldl loadE []) hv') :: rG o' (keysE (rs.foldl loadE [])) :: L) (rL hv' (valsE (rs.foldl loadE [])) :: R) → K (.tuple #[]) w') :
    fnW Tryz.prog 29 #[ptrA v, x] w K := by
  refine fnW_of (by kernel_rfl) (c29_calls _ _ w K ?_)
  unfold c29
  have hxo : OwnAt w x 36 1 hs rs.length := s.at (i + 3) (by simpa using hi)
  rw [hxo.rd.lenw]
  refine bindX_i fun J0 h0 => bindX_i fun J1 h1 => ?_
  have s := s.noRows
  refine loop_i (fun m fr wr => ∃ (q : Nat) (o' : Value) (hv' : List Value), m = rs.length - q ∧ q ≤ rs.length ∧ fr 0 = ptrA v ∧ fr 6 = x ∧ fr 7 = .int .i64 rs.length ∧ fr 8 = .int .i64 q ∧
    Sep S w0 wr (rV v { V with order := o' } :: rM V.map (mapE ((rs.take q).foldl loadE []) hv') :: rG o' (keysE ((rs.take q).foldl loadE [])) :: L) (rL hv' (valsE ((rs.take q).foldl loadE [])) :: R)) rs.length ?_ ?_
  · exact ⟨0, V.order, [], rfl, by omega, rfl, rfl, rfl, rfl, s⟩
  · rintro m fr wr J ⟨q, o', hv', rfl, hq, f0, f6, f7, f8, s⟩ hJ hX
    rw [f7, f8]
    refine nlss (cond_d (fun hlt => ?_) (fun hlt => ?_))
    · refine bindX_i fun J3 g3 => bindX_i fun J4 g4 => ?_
      rw [f6, f0]
      have hxo : OwnAt wr x 36 1 hs rs.length := s.at (i + 3) (by simpa using hi)
      have hrl : RowsL wr hs rs := s.rd (rL hs rs) (by simp [hr])
      have hrw : RowsR wr x hs rs := ⟨by rw [hrl.length]; exact hxo.rd, hrl⟩
      obtain ⟨b0, o0, r, hix, hld, hrr, hc, hf⟩ := hrw.elemL hlt .i64
      refine hix _ ?_
      refine hld _ ?_
      have htk : (rs.take (q + 1)).foldl loadE [] = loadE ((rs.take q).foldl loadE []) rs[q] := by
        rw [List.take_succ_eq_append_getElem hlt, List.foldl_append]; rfl
      obtain ⟨k1, k2, k3⟩ := loadsE_ok rs q (by omega)
      have hbr := hb _ (List.getElem_mem hlt)
      have fin : ∀ (fr' : Fr) (w' : World) (o2 : Value) (hv2 : List Value), fr' 0 = ptrA v → fr' 6 = x → fr' 7 = .int .i64 rs.length → fr' 8 = .int .i64 q →
          Sep S w0 w' (rV v { V with order := o2 } :: rM V.map (mapE (loadE ((rs.take q).foldl loadE []) rs[q]) hv2) :: rG o2 (keysE (loadE ((rs.take q).foldl loadE []) rs[q])) :: L) (rL hv2 (valsE (loadE ((rs.take q).foldl loadE []) rs[q])) :: R) → J3 .normal fr' w' := by
        intro fr' w' o2 hv2 l0 l6 l7 l8 s
        refine seq_n g3 ?_
        rw [l8]
        refine nadd (y := 1) (by omega) ?_
        refine hJ (rs.length - (q + 1)) _ _ (by omega) ⟨q + 1, o2, hv2, rfl, by omega, l0, l6, l7, rfl, ?_⟩
        rw [htk]
        exact s
      generalize (rs.take q).foldl loadE [] = es at *
      generalize rs[q] = rr at *
      have s := s.part (T := rR r 1 (bc rr) rr.length) (U := rL hs rs) (by simp [hr]) hrr hf
      have same : ¬ (32 ≤ rr.length ∧ rr.length ≤ 1032) → ∀ (fr' : Fr), fr' 0 = ptrA v → fr' 6 = x → fr' 7 = .int .i64 rs.length → fr' 8 = .int .i64 q → J3 .normal fr' wr := by
        intro hn fr' l0 l6 l7 l8
        refine fin fr' wr o' hv' l0 l6 l7 l8 ?_
        rw [show loadE es rr = es from if_neg hn]
        exact s.less (fun T hT => by
          rcases List.mem_cons.1 hT with rfl | hT
          · simp
          · simp [hT])
      rw [hrr.lenw, igeq]
      by_cases h32 : (32 : Int) ≤ rr.length
      · rw [decide_eq_true h32]
        refine gs_t ?_
        refine gs_t ?_
        rw [hrr.lenw]
        refine gs_t ?_
        refine nleq (y := 1032) ?_
        refine pick_ti ?_
        refine cond_d (fun hle => ?_) (fun hle => ?_)
        · have s := s.drew
          generalize wr.drew = wr at *
          have hrr : RdSl wr r 1 (bc rr) rr.length := s.rat 0 rfl
          refine hrr.cut (l := 0) (h := 32) hc rfl rfl (by omega) (by omega) fun v1 hv1 _ _ _ => ?_
          rw [part_bc, List.drop_zero, Nat.sub_zero] at hv1
          refine hrr.cut (l := 32) (h := rr.length) hc rfl rfl (by omega) (by omega) fun v2 hv2 _ _ hf2 => ?_
          have ep : (rr.drop 32).take (rr.length - 32) = rr.drop 32 := List.take_of_length_le (by rw [List.length_drop]; omega)
          have hdl : (rr.drop 32).length = rr.length - 32 := List.length_drop
          rw [part_bc, ep] at hv2 hf2
          rw [← hdl] at hv2
          have hk : (rr.take 32).length = 32 := by rw [List.length_take]; omega
          refine arrAt_i hv1 hk fun b o hld1 => hld1 _ ?_
          have s := s.part (T := rR v2 1 (bc (rr.drop 32)) (rr.drop 32).length) (U := rR r 1 (bc rr) rr.length) (by simp) hv2 hf2
          refine s.note (V := { V with order := o' }) (es := es) (hv := hv') (k := rr.take 32) (l := rr.drop 32) (by simp) (.inl (by simp)) hk (by omega) (by omega) fun o2 hv2 w9 s => ?_
          refine fin _ w9 o2 hv2 ?_ ?_ ?_ ?_ ?_
          · exact f0
          · exact f6
          · exact f7
          · exact f8
          · rw [show loadE es rr = noteE es (rr.take 32) (rr.drop 32) from if_pos ⟨by omega, hle⟩]
            exact s.less (fun T hT => by
              rcases List.mem_cons.1 hT with rfl | hT
              · simp
              · simp [hT])
        · refine same (by omega) _ ?_ ?_ ?_ ?_
          · exact f0
          · exact f6
          · exact f7
          · exact f8
      · rw [decide_eq_false h32]
        iterate 3 refine gs_ft ?_
        refine pick_fi ?_
        refine cndF ?_
        refine same (by omega) _ ?_ ?_ ?_ ?_
        · exact f0
        · exact f6
        · exact f7
        · exact f8
    · obtain rfl : q = rs.length := by omega
      rw [List.take_length] at s
      refine hX _ _ _ (by simp) (h1 _ _ _ (h0 _ _ _ ?_))
      exact h o' hv' wr s
end
end Go.Proofs.YtedebapgmfnflaaGreatDoor

/- A vault's Put, Free, Flush: walks. -/
namespace Go.Proofs.YtedebapgmfnflaaGreatDoor
open Go
set_option maxRecDepth 100000

section
variable {S : List Nat} {w0 w : World} {L R : List Res} {K : VPost} {F : List Nat} {D : DiskM}

theorem Sep.vFree {v a : Nat} {V : VaultH} {A : AreaH} {t : TypeId} (s : Sep S w0 w L R) (i j : Nat) (hi : L[i]? = some (rV v V)) (ha : V.area = some a) (hj : L[j]? = some (rA a A t)) (h1 : A.next ≤ A.size) (h2 : A.size ≤ 1000000) (h : ∀ w', Sep S w0 w' L R → K (.int .i64 ((A.size - A.next : Nat) : Int)) w') : fnW Tryz.prog 11 #[ptrA v] w K := by
  refine fnW_of (by kernel_rfl) (c11_calls _ w K ?_)
  unfold c11
  rw [nilW_e]
  refine off_i ?_
  refine s.load1 (v := ptrA a) i hi (by show some (apV V.area) = _; rw [ha]; rfl) ?_
  rw [ptr_eql_nil ptr_area]
  refine cndF ?_
  rw [nilW_e]
  refine off_i ?_
  refine s.load1 (v := ptrA a) i hi (by show some (apV V.area) = _; rw [ha]; rfl) ?_
  exact fnW_of (by kernel_rfl) (areaFree_c (s.at j hj) h1 h2 fun w' e => h w' (s.ext0 e))
theorem Sep.vFlush {v a : Nat} {V : VaultH} {A : AreaH} {t : TypeId} (s : Sep S w0 w L R) (i j l : Nat) (hi : L[i]? = some (rV v V)) (ha : V.area = some a) (hj : L[j]? = some (rA a A t)) (hl : L[l]? = some (rDk A.disk F D)) (h : ∀ F' w', Sep S w0 w' (L.set l (rDk A.disk F' D.flush)) R → K (.int .i64 0) w') : fnW Tryz.prog 21 #[ptrA v] w K := by
  refine fnW_of (by kernel_rfl) (c21_calls _ w K ?_)
  unfold c21
  rw [nilW_e]
  refine off_i ?_
  refine s.load1 (v := ptrA a) i hi (by show some (apV V.area) = _; rw [ha]; rfl) ?_
  rw [ptr_eql_nil ptr_area]
  refine cndF ?_
  rw [nilW_e]
  refine off_i ?_
  refine s.load1 (v := ptrA a) i hi (by show some (apV V.area) = _; rw [ha]; rfl) ?_
  exact s.areaFlush l hl j hj fun F' w' s => h F' w' s
theorem Sep.vFlushN {v : Nat} {V : VaultH} (s : Sep S w0 w L R) (i : Nat) (hi : L[i]? = some (rV v V)) (ha : V.area = none) (h : K (.int .i64 0) w) : fnW Tryz.prog 21 #[ptrA v] w K := by
  refine fnW_of (by kernel_rfl) (c21_calls _ w K ?_)
  unfold c21
  rw [nilW_e]
  refine off_i ?_
  refine s.load1 (v := .pointer none) i hi (by show some (apV V.area) = _; rw [ha]; rfl) ?_
  rw [nil_eql_nil ptr_area]
  exact cndT h

set_option maxHeartbeats 2000000 in
/-- Put, with an area or without. -/
theorem Sep.vPut {L' : List Res} {v : Nat} {V : VaultH} {x : Value} {k l : Bytes} {es : Ents} {hv : List Value} (s : Sep S w0 w (rV v V :: rM V.map (mapE es hv) :: rG V.order (keysE es) :: L) R) (ok : EntsOk es) (hr : rL hv (valsE es) ∈ R) (hx : Reads L' R x l) (hLL : ∀ T ∈ L', T ∈ L) (hk : k.length = 32)
    (hform : 1000 < l.length → ∀ w', Sep S w0 w' (rV v V :: rM V.map (mapE es hv) :: rG V.order (keysE es) :: L) R → K (.int .i64 10) w')
    (hthere : ¬ 1000 < l.length → ∀ old, getE es k = some old → old ≠ l → ∀ w', Sep S w0 w' (rV v V :: rM V.map (mapE es hv) :: rG V.order (keysE es) :: L) R → K (.int .i64 13) w')
    (hsame : ¬ 1000 < l.length → getE es k = some l → ∀ w', Sep S w0 w' (rV v V :: rM V.map (mapE es hv) :: rG V.order (keysE es) :: L) R → K (.int .i64 0) w')
    (hnone : ¬ 1000 < l.length → getE es k = none → V.area = none → ∀ w', Sep S w0 w' (rV v V :: rM V.map (mapE es hv) :: rG V.order (keysE es) :: L) R → K (.int .i64 15) w')
    {a : Nat} {A : AreaH} {t : TypeId} {hs : List Value} {rs : List Bytes}
    (har : V.area = none ∨ (V.area = some a ∧ L = rA a A t :: rO A.recs 36 1 hs rs.length :: rDk A.disk F D :: L' ∧ rL hs rs ∈ R ∧ A.stuck = false ∧ 1 ≤ A.gen ∧ A.gen ≤ 4294967295 ∧ A.next ≤ A.size ∧ A.first + A.size ≤ 100000 ∧ D.pend.length ≤ 100000 ∧ rs.length ≤ 2 ^ 30))
    (hfull : ¬ 1000 < l.length → getE es k = none → V.area = some a → A.size - A.next < needN (k ++ l).length → ∀ w', Sep S w0 w' (rV v V :: rM V.map (mapE es hv) :: rG V.order (keysE es) :: L) R → K (.int .i64 15) w')
    (hstuck : ¬ 1000 < l.length → getE es k = none → V.area = some a → A.next + needN (k ++ l).length ≤ A.size → (layD D (A.first + A.next) (packB A.gen A.next (k ++ l))).2 = false → ∀ F' w', Sep S w0 w' (rV v { V with area := none } :: rM V.map (mapE es hv) :: rG V.order (keysE es) :: rA a { A with stuck := true } t :: rO A.recs 36 1 hs rs.length :: rDk A.disk F' (layD D (A.first + A.next) (packB A.gen A.next (k ++ l))).1 :: L') R → K (.int .i64 15) w')
    (hyes : ¬ 1000 < l.length → getE es k = none → V.area = some a → A.next + needN (k ++ l).length ≤ A.size → (layD D (A.first + A.next) (packB A.gen A.next (k ++ l))).2 = true → ∀ F' o' hv' r' h' w', Sep S w0 w' (rV v { V with order := o' } :: rM V.map (mapE (es ++ [(k, l)]) hv') :: rG o' (keysE (es ++ [(k, l)])) :: rA a { A with next := A.next + needN (k ++ l).length, recs := r' } t :: rO r' 36 1 (hs ++ [h']) (rs ++ [k ++ l]).length :: rDk A.disk F' (layD D (A.first + A.next) (packB A.gen A.next (k ++ l))).1 :: L') (rL hv' (valsE (es ++ [(k, l)])) :: rL (hs ++ [h']) (rs ++ [k ++ l]) :: R) → K (.int .i64 0) w') :
    fnW Tryz.prog 15 #[ptrA v, kv k, x] w K := by
  refine fnW_of (by kernel_rfl) (c15_calls _ _ _ w K ?_)
  unfold c15
  have hbl : (bc k).length = 32 := by rw [bc_length, hk]
  refine s.box fun b w1 s _ => ?_
  have s : Sep S w0 w1 (rB b (bc k) 34 :: rV v V :: rM V.map (mapE es hv) :: rG V.order (keysE es) :: L) R := by simpa [Value.cells] using s
  have s := s.drew
  generalize w1.drew = w1 at *
  rw [nilW_e]
  refine off_i ?_
  refine s.load1 1 rfl rfl ?_
  refine s.loadAll 0 rfl hbl ?_
  have hrl : RowsL w1 hv (valsE es) := s.rd _ hr
  have hxr : RdSl w1 x 1 (bc l) l.length := (hx.mono (fun T hT => by simp [hLL T hT]) (fun T h => h)).rd s
  refine lookup_i (s.at 2 rfl) hk ⟨rfl, ?_⟩
  rw [extr0, extr1, hxr.lenw]
  refine ngtr (y := 1000) (cond_d (fun h10 => hform h10 w1 (s.drop 0)) (fun h10 => ?_))
  rcases getM_mapE k hrl with ⟨hm, hg⟩ | ⟨hh, ll, hm, hg, hrd, _, _, _⟩
  · rw [hm]
    replace hnone := hnone h10 hg
    replace hfull := hfull h10 hg
    replace hstuck := hstuck h10 hg
    replace hyes := hyes h10 hg
    clear hform hthere hsame
    iterate 4 refine gs_ft ?_
    refine pick_fi ?_
    refine cndF ?_
    refine cndF ?_
    rcases har with hva | ⟨hva, rfl, hrr, hst, g1, g2, hns, hfs, hpe, hrn⟩
    · rw [nilW_e]
      refine off_i ?_
      refine s.load1 (v := .pointer none) 1 rfl (by show some (apV V.area) = _; rw [hva]; rfl) ?_
      rw [nil_eql_nil ptr_area]
      exact cndT (hnone hva w1 (s.drop 0))
    · have hld : ∀ (V' : VaultH), V'.area = V.area → V'.cells[1]? = some (ptrA a) := fun V' e => by
        show some (apV V'.area) = _
        rw [e, hva]; rfl
      rw [nilW_e]
      refine off_i ?_
      refine s.load1 (v := ptrA a) 1 rfl (hld V rfl) ?_
      rw [ptr_eql_nil ptr_area]
      refine cndF ?_
      refine bindX_i fun J0 h0 => bindX_i fun J1 h1 => ?_
      have s := s.drew
      generalize w1.drew = w1 at *
      rw [nilW_e]
      refine off_i ?_
      refine s.load1 (v := ptrA a) 1 rfl (hld V rfl) ?_
      refine s.loadAll 0 rfl hbl ?_
      have hxr : RdSl w1 x 1 (bc l) l.length := (hx.mono (fun T hT => by simp [hT]) (fun T h => h)).rd s
      refine fnW_of (by kernel_rfl) (record_c hk hxr (by omega) fun vr w2 hvr e2 hf2 => ?_)
      have s := s.add (T := rDb vr (k ++ l)) hvr e2 hf2
      refine ⟨s.load1 (v := ptrA a) 2 rfl (hld V rfl) ⟨rfl, rfl⟩, ?_⟩
      have s := s.freeze 0 rfl (T' := rR vr 1 (bc (k ++ l)) (k ++ l).length) hvr.rd (fun b hb => rdB_slB (ys := bc (k ++ l)) hb)
      have s : Sep S w0 w2 (rA a A t :: rO A.recs 36 1 hs rs.length :: rDk A.disk F D :: (L' ++ [rB b (bc k) 34, rV v V, rM V.map (mapE es hv), rG V.order (keysE es)])) (rR vr 1 (bc (k ++ l)) (k ++ l).length :: R) :=
        s.perm (List.perm_append_comm (l₁ := [rB b (bc k) 34, rV v V, rM V.map (mapE es hv), rG V.order (keysE es)]) (l₂ := rA a A t :: rO A.recs 36 1 hs rs.length :: rDk A.disk F D :: L'))
      have hlen : (k ++ l).length = 32 + l.length := by rw [List.length_append, hk]
      have hnd := need_pos (n := (k ++ l).length) (by omega)
      have back : ∀ {w' : World} {R' : List Res} {T1 T2 T3 : Res}, Sep S w0 w' (T1 :: T2 :: T3 :: (L' ++ [rB b (bc k) 34, rV v V, rM V.map (mapE es hv), rG V.order (keysE es)])) R' → Sep S w0 w' (rB b (bc k) 34 :: rV v V :: rM V.map (mapE es hv) :: rG V.order (keysE es) :: T1 :: T2 :: T3 :: L') R' := fun s =>
        s.perm (List.perm_append_comm (l₁ := _ :: _ :: _ :: L') (l₂ := [rB b (bc k) 34, rV v V, rM V.map (mapE es hv), rG V.order (keysE es)]))
      refine s.areaAdd (A := A) (r := k ++ l) (rs := rs) (hs := hs) (by simp [hrr]) (by simp) g1 g2 hns hfs hpe hrn (fun e he hee hre w3 s => ?_) (fun _ _ hfi hb F2 w3 s => ?_) (fun _ _ hfi hb F2 r2 h2 w3 s => ?_)
      · have s := back s
        have hf : A.size - A.next < needN (k ++ l).length := by
          rcases hre with h | h | h
          · omega
          · rw [hst] at h; cases h
          · exact h
        have he15 : e = 15 := by
          rw [hee]
          unfold addE
          rw [if_neg (by omega), if_pos (.inr hf)]
        subst he15
        rw [ineq]
        refine cond_d (fun _ => ?_) (fun h => absurd (by decide) h)
        refine bindX_i fun J2 h2 => ?_
        rw [nilW_e]
        refine off_i ?_
        refine s.load1 (v := ptrA a) 1 rfl (hld V rfl) ?_
        refine fnW_of (by kernel_rfl) (areaStuck_c (s.at 4 rfl) ?_)
        rw [hst]
        refine cndF ?_
        refine seq_n h2 ?_
        exact hfull hva hf w3 ((s.drop 0).less (fun T hT => by simp [hT]))
      · have s := back s
        rw [ineq]
        refine cond_d (fun _ => ?_) (fun h => absurd (by decide) h)
        refine bindX_i fun J2 h2 => ?_
        rw [nilW_e]
        refine off_i ?_
        refine s.load1 (v := ptrA a) 1 rfl (hld V rfl) ?_
        refine fnW_of (by kernel_rfl) (areaStuck_c (s.at 4 rfl) ?_)
        refine cndT ?_
        rw [nilW_e]
        refine off_i ?_
        refine s.store1 1 rfl rfl (by show 1 < 4; decide) rfl fun w4 s _ => ?_
        refine seq_n h2 ?_
        exact hstuck hva hfi hb F2 w4 ((s.drop 0).less (fun T hT => by simp [hT]))
      · have s := back s
        rw [ineq]
        refine cond_d (fun h => absurd rfl h) (fun _ => ?_)
        refine seq_n h1 ?_
        refine s.loadAll 0 rfl hbl ?_
        have s := s.drop 0
        have s : Sep S w0 w3 (rV v V :: rM V.map (mapE es hv) :: rG V.order (keysE es) :: rA a { A with next := A.next + needN (k ++ l).length, recs := r2 } t :: rO r2 36 1 (hs ++ [h2]) (rs ++ [k ++ l]).length :: rDk A.disk F2 (layD D (A.first + A.next) (packB A.gen A.next (k ++ l))).1 :: L') (rL (hs ++ [h2]) (rs ++ [k ++ l]) :: R) := s.less (fun T hT => by
          rcases List.mem_cons.1 hT with rfl | hT
          · simp
          · simp [hT])
        have hfew := ok.few
        show fnW _ _ #[ptrA v, kv k, x] w3 _
        refine s.note (es := es) (hv := hv) (k := k) (l := l) (by simp [hr]) (hx.mono (fun T hT => by simp [hT]) (fun T h => by simp [h])) hk (by omega) (by omega) fun o2 hv2 w4 s => ?_
        have hno : noteE es k l = es ++ [(k, l)] := if_neg (getE_none.1 hg)
        rw [hno] at s
        exact hyes hva hfi hb F2 o2 hv2 r2 h2 w4 s
  · rw [hm]
    refine gs_t ?_
    refine gs_t ?_
    refine gs_t ?_
    refine fnW_of (by kernel_rfl) (equal_c hrd hxr ?_)
    refine gs_t ?_
    refine not_ti ?_
    refine pick_ti ?_
    by_cases he : ll = l
    · rw [decide_eq_true he, Bool.not_true]
      subst he
      refine cndF ?_
      exact cndT (hsame h10 hg w1 (s.drop 0))
    · rw [decide_eq_false he, Bool.not_false]
      exact cndT (hthere h10 ll hg he w1 (s.drop 0))
end
end Go.Proofs.YtedebapgmfnflaaGreatDoor

/- slices.DeleteFunc of digests, by a list of those that are kept: walks. Condition: at most 10^6 digests. -/
namespace Go.Proofs.YtedebapgmfnflaaGreatDoor
open Go
set_option maxRecDepth 100000

theorem lspl_at (l vs : List Value) (o j : Nat) (h : o + vs.length ≤ l.length) : (lspl l o vs)[j]? = if j < o then l[j]? else if j < o + vs.length then vs[j - o]? else l[j]? := by
  unfold lspl
  have ht : (l.take o).length = o := by rw [List.length_take]; omega
  rw [List.append_assoc]
  by_cases h1 : j < o
  · rw [if_pos h1, List.getElem?_append_left (by omega), List.getElem?_take, if_pos h1]
  · rw [if_neg h1, List.getElem?_append_right (by omega), ht]
    by_cases h2 : j < o + vs.length
    · rw [if_pos h2, List.getElem?_append_left (by omega)]
    · rw [if_neg h2, List.getElem?_append_right (by omega), List.getElem?_drop]
      congr 1
      omega
theorem lspl_len (l vs : List Value) (o : Nat) (h : o + vs.length ≤ l.length) : (lspl l o vs).length = l.length := by
  unfold lspl
  simp only [List.length_append, List.length_take, List.length_drop]
  omega

theorem OwnAt.atN {w : World} {v : Value} {e : TypeId} {s : Nat} {xs : List Value} {n k : Nat} (h : OwnAt w v e s xs n) (hk : k < n) (kk : IntKind) :
    ∃ b o, slB v = [b] ∧ (∀ K : VPost, K (.pointer (some ⟨b, o, none⟩)) w → idxW (some (none, s)) v (.int kk k) w K) ∧
    (∀ (K : VPost), K (.agg ((xs.drop (k * s)).take s).toArray) w → loadW (some (true, s)) (.pointer (some ⟨b, o, none⟩)) w K) ∧
    (∀ (g : Bool) (vs : List Value) (K : World → Prop), vs.length = s → (∀ x ∈ vs, x.oneCell' = true) → (∀ w', Ext [b] w w' → OwnAt w' v e s (lspl xs (k * s) vs) n → K w') → storeW (some (g, s)) (.pointer (some ⟨b, o, none⟩)) (.agg vs.toArray) w K) := by
  have hks : k * s + s ≤ n * s := by
    have := Nat.mul_le_mul_right s (show k + 1 ≤ n from hk)
    rwa [Nat.add_mul, Nat.one_mul] at this
  rcases h with ⟨rfl, rfl, rfl⟩ | ⟨b, o, c, cs, rfl, hb, hl, ht, hc, hn⟩
  · omega
  · have hcs : n * s ≤ c * s := Nat.mul_le_mul_right s hn
    refine ⟨b, o + k * s, rfl, fun K hK => idx_i hk hK, fun K hK => loadN hb.r (by omega) ?_, fun g vs K hv h1 hK => storeW_i hb rfl hv (by omega) h1 fun w' e' hb' _ => hK w' e' (.inr ⟨b, o, c, _, rfl, hb', ?_, ?_, ?_, hn⟩)⟩
    · rw [at_part ht hks]; exact hK
    · rw [lspl_len _ _ _ (by omega)]; exact hl
    · apply List.ext_getElem?
      intro j
      rw [List.getElem?_take, List.getElem?_drop, lspl_at _ _ _ _ (by omega), lspl_at _ _ _ _ (by omega)]
      have hx : j < n * s → xs[j]? = cs[o + j]? := fun hj => by rw [← ht, List.getElem?_take, if_pos hj, List.getElem?_drop]
      have hx2 : ¬ j < n * s → xs[j]? = none := fun hj => by rw [List.getElem?_eq_none]; omega
      by_cases hj : j < n * s
      · rw [if_pos hj, hx hj]
        by_cases h2 : j < k * s
        · rw [if_pos h2, if_pos (by omega)]
        · rw [if_neg h2, if_neg (by omega)]
          by_cases h3 : j < k * s + vs.length
          · rw [if_pos h3, if_pos (by omega)]
            congr 1
            omega
          · rw [if_neg h3, if_neg (by omega)]
      · rw [if_neg hj, if_neg (by omega), if_neg (by omega), hx2 hj]
    · rw [lspl_len _ _ _ (by omega)]; exact hc

/-- Digests one behind the other, as cells. -/
def fl (ds : List Bytes) : List Value := ds.flatMap bc
theorem fl_get {ds : List Bytes} (hd : ∀ d ∈ ds, d.length = 32) {i : Nat} (h : i < ds.length) : ((fl ds).drop (i * 32)).take 32 = bc ds[i] :=
  flat_get bc 32 ds (fun d hm => by rw [bc_length]; exact hd d hm) i h
theorem fl_len {ds : List Bytes} (hd : ∀ d ∈ ds, d.length = 32) : (fl ds).length = ds.length * 32 := flat_len bc 32 ds (fun d hm => by rw [bc_length]; exact hd d hm)
theorem fl_append (a b : List Bytes) : fl (a ++ b) = fl a ++ fl b := by simp [fl]
theorem fl_set {ds : List Bytes} (hd : ∀ d ∈ ds, d.length = 32) {i : Nat} (h : i < ds.length) {x : Bytes} (hx : x.length = 32) : lspl (fl ds) (i * 32) (bc x) = fl (ds.set i x) := by
  have hsp : ds = ds.take i ++ ds[i] :: ds.drop (i + 1) := by rw [← List.drop_eq_getElem_cons h, List.take_append_drop]
  have h1 : (fl (ds.take i)).length = i * 32 := by rw [fl_len (fun d hm => hd d (List.mem_of_mem_take hm)), List.length_take, Nat.min_eq_left (by omega)]
  have h2 : ds.set i x = ds.take i ++ x :: ds.drop (i + 1) := by rw [List.set_eq_take_append_cons_drop, if_pos h]
  have h3 : fl ds = fl (ds.take i) ++ (bc ds[i] ++ fl (ds.drop (i + 1))) := by
    conv => lhs; rw [hsp]
    rw [fl_append]; rfl
  have h4 : (bc ds[i]).length = 32 := by rw [bc_length]; exact hd _ (List.getElem_mem h)
  rw [h2, fl_append, h3]
  unfold lspl
  rw [← h1, List.take_left, bc_length, hx, List.append_assoc]
  congr 1
  show bc x ++ _ = bc x ++ fl (ds.drop (i + 1))
  congr 1
  rw [List.drop_append, List.drop_of_length_le (by omega), List.nil_append, show (fl (ds.take i)).length + 32 - (fl (ds.take i)).length = 32 by omega, ← h4, List.drop_left]

theorem bc_flat (ks : List Bytes) : bc ks.flatten = fl ks := by
  induction ks with
  | nil => rfl
  | cons x r ih => rw [List.flatten_cons, bc_append, ih]; rfl

section
variable {S : List Nat} {w0 w : World} {L R : List Res} {K : VPost}
/-- A place of digests of one's own, read and written. -/
theorem Sep.digW {v : Value} {ks : List Bytes} {k : Nat} (s : Sep S w0 w L R) (i : Nat) (hL : L[i]? = some (rG v ks)) (h32 : ∀ l ∈ ks, l.length = 32) (hk : k < ks.length) (kk : IntKind) :
    ∃ b o, (∀ K : VPost, K (.pointer (some ⟨b, o, none⟩)) w → idxW (some (none, 32)) v (.int kk k) w K) ∧ (∀ K : VPost, K (kv ks[k]) w → loadW (some (true, 32)) (.pointer (some ⟨b, o, none⟩)) w K) ∧
      (∀ (x : Bytes) (K : World → Prop), x.length = 32 → (∀ w', Sep S w0 w' (L.set i (rG v (ks.set k x))) R → K w') → storeW (some (true, 32)) (.pointer (some ⟨b, o, none⟩)) (kv x) w K) := by
  have ho : OwnAt w v 34 32 (bc ks.flatten) ks.length := s.at i hL
  obtain ⟨b, o, hb, h1, h2, h3⟩ := ho.atN hk kk
  refine ⟨b, o, h1, fun K hK => h2 K ?_, fun x K hx hK => h3 true (bc x) K (by rw [bc_length, hx]) (bc_one _) fun w' e hw => hK w' ?_⟩
  · rw [bc_flat, fl_get h32 hk]
    exact hK
  · rw [bc_flat, fl_set h32 hk hx, ← bc_flat] at hw
    refine s.upd (T := rG v ks) i hL (T' := rG v (ks.set k x)) ?_ (e.mono (by intro y hy _; show y ∈ slB v; rw [hb]; exact hy)) (fun b hb => .inl hb)
    show OwnAt w' v 34 32 (bc (ks.set k x).flatten) (ks.set k x).length
    rw [List.length_set]
    exact hw
end

/-- What stands from a place on is cleared. -/
theorem clear_i {P : Program} {w : World} {K : Value → VPost} {T ty e : TypeId} {i : TypeInfo} {z v : Value} {xs : List Value} {n l : Nat} (hu : P.underlying T = some (.slice e)) (hi : P.info? e = some i) (hz : i.zero = some z) (hzs : z.cells.size = i.size) (hz1 : ∀ m, ∀ y ∈ (Builtin.zeroCells z.cells m).toList, y.oneCell' = true)
    (hv : OwnAt w v e i.size xs n) (hl : l ≤ n) (hK : ∀ t ys w', OwnAt w' v e i.size (xs.take (l * i.size) ++ ys) n → Ext (slB v) w w' → K t (.tuple #[]) w') :
    sliceW (.sl i.size) v (some (.int .i64 l)) none none w fun t w1 => insW P (Builtin.clear_ #[T] ty #[t]) w1 (K t) := by
  have none' : ∀ (a : Option Addr) (c : Nat), insW P (Builtin.clear_ #[T] ty #[.slice a 0 c]) w (fun r w' => r = .tuple #[] ∧ w' = w) := by
    intro a c
    refine insW_ok (v := .tuple #[]) (w' := w) ?_ ⟨rfl, rfl⟩
    unfold Builtin.clear_
    cases a <;> simp [Sem.run_bind, run_und hu, Result.andThen]
  have hxl : xs.length = n * i.size := by
    rcases hv with ⟨rfl, rfl, rfl⟩ | ⟨b, o, c, cs, rfl, hb, hl, ht, hc, hn⟩
    · simp
    · exact hl
  have fin : ∀ a c, insW P (Builtin.clear_ #[T] ty #[.slice a 0 c]) w (K (.slice a 0 c)) ∨ l < n := by
    intro a c
    by_cases h : l < n
    · exact .inr h
    · refine .inl ?_
      have := none' a c
      unfold insW okW at this ⊢
      split at this
      · rename_i r w' heq
        obtain ⟨rfl, rfl⟩ := this
        refine hK _ [] w' ?_ (Ext.refl _ _)
        rw [List.append_nil, List.take_of_length_le (by rw [hxl, show l = n by omega]; exact Nat.le_refl _)]
        exact hv
      · exact this.elim
  rcases hv with ⟨rfl, rfl, rfl⟩ | ⟨b, o, c, cs, rfl, hb, hll, ht, hc, hn⟩
  · obtain rfl : l = 0 := by omega
    refine cut_ok (l := 0) (h := 0) rfl rfl (Nat.le_refl _) (Nat.le_refl _) ?_
    rcases fin none 0 with h | h
    · exact h
    · omega
  · refine cut_ok (l := l) (h := n) rfl rfl hl hn ?_
    by_cases hcl : c = l
    · rw [if_pos hcl]
      have h0 : n - l = 0 := by omega
      rw [h0]
      rcases fin (some ⟨b, o, none⟩) (c - l) with h | h
      · exact h
      · omega
    · rw [if_neg hcl]
      simp only [Option.map_some, add_addr]
      by_cases hln : l < n
      · have hs1 : l * i.size + (n - l) * i.size = n * i.size := by rw [← Nat.add_mul]; congr 1; omega
        have hs2 : n * i.size ≤ c * i.size := Nat.mul_le_mul_right _ hn
        have hzl : (Builtin.zeroCells z.cells (n - l)).toList.length = (n - l) * i.size := by rw [Array.length_toList, zeroCells_size, hzs]
        have hst := run_storeCells_at P b (o + l * i.size) e (Builtin.zeroCells z.cells (n - l)).toList 0 cs.toArray w hb (by rw [hzl]; simp; omega) (hz1 _)
        rw [Nat.add_zero, setRow_setB hb] at hst
        have hzv : (zeroValue e).run P w = .ok z w := by
          unfold zeroValue; simp only [Sem.run_bind, run_info hi, Result.andThen_ok, hz, Sem.run_pure]
        obtain ⟨d, hd⟩ : ∃ d, n - l = d + 1 := ⟨n - l - 1, by omega⟩
        refine insW_ok (v := .tuple #[]) (w' := setB w b (.cells (lspl cs (o + l * i.size) (Builtin.zeroCells z.cells (n - l)).toList).toArray e)) ?_ (hK _ (Builtin.zeroCells z.cells (n - l)).toList _ (.inr ⟨b, o, c, lspl cs (o + l * i.size) (Builtin.zeroCells z.cells (n - l)).toList, rfl, ?_, ?_, ?_, ?_, hn⟩) (ext_setB w b _))
        · unfold Builtin.clear_
          rw [hd] at hst ⊢
          simp only [List.getElem?_toArray, List.getElem?_cons_zero, Sem.run_bind, run_und hu, Result.andThen_ok, hzv, hst, Sem.run_pure]
          rfl
        · unfold Blk
          show (w.heap.setIfInBounds b _)[b]? = _
          rw [Array.getElem?_setIfInBounds]
          have : b < w.heap.size := hb.lt
          simp only [if_true, this]
        · rw [List.length_append, List.length_take, hzl]; omega
        · apply List.ext_getElem?
          intro j
          rw [List.getElem?_take, List.getElem?_drop, lspl_at _ _ _ _ (by omega), hzl]
          have hx : j < n * i.size → xs[j]? = cs[o + j]? := fun hj => by rw [← ht, List.getElem?_take, if_pos hj, List.getElem?_drop]
          have htl : (xs.take (l * i.size)).length = l * i.size := by rw [List.length_take]; omega
          by_cases h1 : j < l * i.size
          · rw [if_pos (by omega), if_pos (by omega), List.getElem?_append_left (by omega), List.getElem?_take, if_pos h1, hx (by omega)]
          · rw [List.getElem?_append_right (by omega), htl]
            by_cases h2 : j < n * i.size
            · rw [if_pos h2, if_neg (by omega), if_pos (by omega)]
              congr 1
              omega
            · rw [if_neg h2, List.getElem?_eq_none]
              rw [hzl]; omega
        · rw [lspl_len _ _ _ (by omega)]; exact hc
      · have h0 : n - l = 0 := by omega
        rw [h0]
        rcases fin (some ⟨b, o + l * i.size, none⟩) (c - l) with h | h
        · exact h
        · omega
end Go.Proofs.YtedebapgmfnflaaGreatDoor

/- slices.IndexFunc, slices.DeleteFunc of digests, by those that are kept: walks. Condition: at most 10^6 digests. -/
namespace Go.Proofs.YtedebapgmfnflaaGreatDoor
open Go
set_option maxRecDepth 100000

/-- Is a digest not among those that are kept? A function value. -/
abbrev delV (q : Nat) : Value := .func (.func 44) #[] #[ptrA q]

section
variable {S : List Nat} {w0 w : World} {L R : List Res} {K : VPost}
theorem Sep.del {q : Nat} {kx : Value} {keep : List Bytes} {k : Bytes} {t : TypeId} (s : Sep S w0 w L R) (hq : rB q [kx] t ∈ R) (hx : rGR kx keep ∈ R) (h32 : ∀ l ∈ keep, l.length = 32) (hn : keep.length ≤ 1000000) (hk : k.length = 32)
    (h : ∀ w', Sep S w0 w' L R → K (.bool (!decide (k ∈ keep))) w') : dynW Tryz.prog (delV q) #[kv k] w K := by
  show fnW Tryz.prog 44 #[kv k, ptrA q] w K
  refine fnW_of (by kernel_rfl) (c44_calls _ _ w K ?_)
  unfold c44
  have hbl : (bc k).length = 32 := by rw [bc_length, hk]
  refine s.box fun b w1 s _ => ?_
  have s : Sep S w0 w1 (rB b (bc k) 34 :: L) R := by simpa [Value.cells] using s
  have hqb : Blk w1 q [kx] t := s.rd _ hq
  refine Go.Proofs.YtedebapgmfnflaaGreatDoor.load1 hqb.r rfl ?_
  refine s.loadAll 0 rfl hbl ?_
  have hxr : RdSl w1 kx 32 (bc keep.flatten) keep.length := s.rd _ hx
  refine fnW_of (by kernel_rfl) (contains_c hxr h32 hk hn fun w2 e2 => ?_)
  refine not_ti ?_
  exact h w2 ((s.ext0 e2).drop 0)

theorem Sep.indexFunc {q : Nat} {x kx : Value} {ks keep : List Bytes} {t : TypeId} (s : Sep S w0 w L R) (i : Nat) (hi : L[i]? = some (rG x ks)) (hq : rB q [kx] t ∈ R) (hx : rGR kx keep ∈ R) (h32 : ∀ l ∈ keep, l.length = 32) (hn : keep.length ≤ 1000000) (hk32 : ∀ l ∈ ks, l.length = 32) (hkn : ks.length ≤ 1000000)
    (hall : (∀ k ∈ ks, k ∈ keep) → ∀ w', Sep S w0 w' L R → K (.int .i64 (-1)) w')
    (hone : ∀ j (hj : j < ks.length), ks[j] ∉ keep → (∀ k ∈ ks.take j, k ∈ keep) → ∀ w', Sep S w0 w' L R → K (.int .i64 j) w') : fnW Tryz.prog 57 #[x, delV q] w K := by
  refine fnW_of (by kernel_rfl) (c57_calls _ _ w K ?_)
  unfold c57
  refine bindX_i fun J0 h0 => bindX_i fun J1 h1 => ?_
  rw [(OwnAt.rd (s.at i hi)).lenw]
  refine bindX_i fun J2 h2 => ?_
  refine loop_i (fun m fr wr => ∃ j : Nat, m = ks.length - j ∧ j ≤ ks.length ∧ (∀ k ∈ ks.take j, k ∈ keep) ∧ fr 0 = x ∧ fr 1 = delV q ∧ fr 7 = .int .i64 ks.length ∧ fr 8 = .int .i64 j ∧ Sep S w0 wr L R) ks.length ?_ ?_
  · exact ⟨0, rfl, by omega, by simp, rfl, rfl, rfl, rfl, s⟩
  · rintro m fr wr J ⟨j, rfl, hj, hno, f0, f1, f7, f8, s⟩ hJ hX
    rw [f7, f8]
    refine nlss (cond_d (fun hlt => ?_) (fun hlt => ?_))
    · rw [f0, f1]
      obtain ⟨b0, o0, hix, hld⟩ := RdSl.digAt (OwnAt.rd (s.at i hi)) hk32 hlt .i64
      refine hix _ ?_
      refine hld _ ?_
      refine s.del hq hx h32 hn (hk32 _ (List.getElem_mem hlt)) fun w1 s => ?_
      by_cases hm : ks[j] ∈ keep
      · rw [decide_eq_true hm, Bool.not_true]
        refine cndF ?_
        refine nadd (y := 1) (by omega) ?_
        refine hJ (ks.length - (j + 1)) _ _ (by omega) ⟨j + 1, rfl, by omega, ?_, f0, f1, f7, rfl, s⟩
        intro k hk
        rw [List.take_succ_eq_append_getElem hlt, List.mem_append, List.mem_singleton] at hk
        rcases hk with h | rfl
        · exact hno k h
        · exact hm
      · rw [decide_eq_false hm, Bool.not_false]
        refine cndT ?_
        refine hX _ _ _ (by simp) (h2 _ _ _ (h1 _ _ _ (h0 _ _ _ ?_)))
        exact hone j hlt hm hno w1 s
    · obtain rfl : j = ks.length := by omega
      refine hX _ _ _ (by simp) (h2 _ _ _ (h1 _ _ _ ?_))
      rw [List.take_length] at hno
      exact hall hno wr s

theorem zero_one32 (m : Nat) : ∀ y ∈ (Builtin.zeroCells (Value.agg (Array.replicate 32 (Value.int .u8 0))).cells m).toList, y.oneCell' = true := by
  intro y hy
  unfold Builtin.zeroCells at hy
  rw [Array.mem_toList_iff, Array.mem_map] at hy
  obtain ⟨i, _, rfl⟩ := hy
  show ((Array.replicate 32 (Value.int .u8 0))[i % (Array.replicate 32 (Value.int .u8 0)).size]!).oneCell' = true
  have : i % (Array.replicate 32 (Value.int .u8 0)).size < (Array.replicate 32 (Value.int .u8 0)).size := Nat.mod_lt _ (by simp)
  rw [getElem!_pos (Array.replicate 32 (Value.int .u8 0)) _ this, Array.getElem_replicate]
  rfl
abbrev keepL (ks keep : List Bytes) : List Bytes := ks.filter fun k => decide (k ∈ keep)

set_option maxHeartbeats 2000000 in
theorem Sep.deleteFunc {q : Nat} {x kx : Value} {ks keep : List Bytes} {t : TypeId} (s : Sep S w0 w (rG x ks :: L) R) (hq : rB q [kx] t ∈ R) (hx : rGR kx keep ∈ R) (h32 : ∀ l ∈ keep, l.length = 32) (hn : keep.length ≤ 1000000) (hk32 : ∀ l ∈ ks, l.length = 32) (hkn : ks.length ≤ 1000000)
    (h : ∀ y w', Sep S w0 w' (rG y (keepL ks keep) :: L) R → K y w') : fnW Tryz.prog 43 #[x, delV q] w K := by
  refine fnW_of (by kernel_rfl) (c43_calls _ _ w K ?_)
  unfold c43
  have keep_all : ∀ l : List Bytes, (∀ k ∈ l, k ∈ keep) → keepL l keep = l := fun l hl => List.filter_eq_self.2 fun k hk => decide_eq_true (hl k hk)
  refine s.indexFunc 0 rfl hq hx h32 hn hk32 hkn (fun hall w1 s => ?_) (fun j0 hj0 hnot hbef w1 s => ?_)
  · rw [ieql]
    refine cond_d (fun _ => ?_) (fun h => absurd rfl h)
    have := h x w1
    rw [keep_all ks hall] at this
    exact this s
  · rw [ieql]
    refine cond_d (fun h => absurd h (by omega)) (fun _ => ?_)
    refine bindX_i fun J0 h0 => bindX_i fun J1 h1 => ?_
    refine nadd (y := 1) (by omega) ?_
    refine bindX_i fun J2 h2 => ?_
    have keep_take : ∀ j (hj : j < ks.length), keepL (ks.take (j + 1)) keep = keepL (ks.take j) keep ++ if ks[j] ∈ keep then [ks[j]] else [] := by
      intro j hj
      rw [List.take_succ_eq_append_getElem hj]
      show List.filter _ (_ ++ _) = _
      rw [List.filter_append]
      congr 1
      by_cases hm : ks[j] ∈ keep
      · rw [List.filter_cons_of_pos (by simpa using hm), if_pos hm]; rfl
      · rw [List.filter_cons_of_neg (by simpa using hm), if_neg hm]; rfl
    refine loop_i (fun m fr wr => ∃ (j : Nat) (cur : List Bytes), m = ks.length - j ∧ j ≤ ks.length ∧ cur.length = ks.length ∧ (∀ l ∈ cur, l.length = 32) ∧ (keepL (ks.take j) keep).length < j ∧ cur.take (keepL (ks.take j) keep).length = keepL (ks.take j) keep ∧ cur.drop j = ks.drop j ∧
      fr 0 = x ∧ fr 1 = delV q ∧ fr 5 = .int .i64 (keepL (ks.take j) keep).length ∧ fr 6 = .int .i64 j ∧ Sep S w0 wr (rG x cur :: L) R) (ks.length - (j0 + 1)) ?_ ?_
    · have e0 : keepL (ks.take (j0 + 1)) keep = ks.take j0 := by rw [keep_take j0 hj0, if_neg hnot, List.append_nil, keep_all _ hbef]
      have el : (ks.take j0).length = j0 := by rw [List.length_take]; omega
      refine ⟨j0 + 1, ks, rfl, by omega, rfl, hk32, by rw [e0, el]; omega, by rw [e0, el], rfl, rfl, rfl, ?_, rfl, s⟩
      · rw [e0, el]; rfl
    · rintro m fr wr J ⟨j, cur, rfl, hj, hcl, hc32, hlt1, htk, hdr, f0, f1, f5, f6, s⟩ hJ hX
      rw [f0, f6, (OwnAt.rd (s.at 0 rfl)).lenw]
      refine nlss (cond_d (fun hlt => ?_) (fun hlt => ?_))
      · refine bindX_i fun J3 g3 => bindX_i fun J4 g4 => ?_
        have hlt' : j < ks.length := by omega
        have hget : cur[j] = ks[j] := by
          have := congrArg (fun l => l[0]?) hdr
          simp only [List.getElem?_drop, Nat.add_zero] at this
          rw [List.getElem?_eq_getElem hlt, List.getElem?_eq_getElem hlt'] at this
          exact Option.some.inj this
        obtain ⟨b0, o0, hix, hld, _⟩ := s.digW 0 rfl hc32 hlt .i64
        refine hix _ ?_
        refine hld _ ?_
        rw [hget]
        have hk := hk32 _ (List.getElem_mem hlt')
        have hkt := keep_take j hlt'
        have hdr2 : cur.drop (j + 1) = ks.drop (j + 1) := by
          rw [← List.drop_drop, ← List.drop_drop, hdr]
        generalize ks[j] = k at *
        have hbl : (bc k).length = 32 := by rw [bc_length, hk]
        refine s.alloc zero_digG cells_digG fun b w2 s _ => ?_
        refine s.storeAll 0 rfl hbl (by rw [bc_length]; rfl) (bc_one _) fun w3 s _ => ?_
        have s : Sep S w0 w3 (rB b (bc k) 34 :: rG x cur :: L) R := s
        refine s.loadAll 0 rfl hbl ?_
        rw [f1]
        refine s.del hq hx h32 hn hk fun w4 s => ?_
        have step : ∀ (fr' : Fr) (w' : World) (cur' : List Bytes), cur'.length = ks.length → (∀ l ∈ cur', l.length = 32) → cur'.take (keepL (ks.take (j + 1)) keep).length = keepL (ks.take (j + 1)) keep → cur'.drop (j + 1) = ks.drop (j + 1) →
            fr' 0 = x → fr' 1 = delV q → fr' 5 = .int .i64 (keepL (ks.take (j + 1)) keep).length → fr' 6 = .int .i64 j → Sep S w0 w' (rG x cur' :: L) R → J3 .normal fr' w' := by
          intro fr' w' cur' c1 c2 c3 c4 k0 k1 k5 k6 s
          refine seq_n g3 ?_
          rw [k6]
          refine nadd (y := 1) (by omega) ?_
          refine hJ (ks.length - (j + 1)) _ _ (by omega) ⟨j + 1, cur', rfl, by omega, c1, c2, ?_, c3, c4, k0, k1, k5, rfl, s⟩
          rw [hkt, List.length_append]
          split
          · rw [List.length_singleton]; omega
          · rw [List.length_nil]; omega
        refine not_ti ?_
        by_cases hm : k ∈ keep
        · rw [decide_eq_true hm]
          rw [if_pos hm] at hkt
          refine cndT ?_
          refine s.loadAll 0 rfl hbl ?_
          rw [f5]
          have hpl : (keepL (ks.take j) keep).length < cur.length := by omega
          obtain ⟨b1, o1, hix1, _, hst1⟩ := s.digW 1 rfl hc32 hpl .i64
          refine hix1 _ ?_
          refine hst1 k _ hk fun w5 s => ?_
          have s : Sep S w0 w5 (rB b (bc k) 34 :: rG x (cur.set (keepL (ks.take j) keep).length k) :: L) R := s
          refine nadd (y := 1) (by omega) ?_
          refine step _ w5 (cur.set (keepL (ks.take j) keep).length k) (by rw [List.length_set]; exact hcl) ?_ ?_ ?_ ?_ ?_ ?_ ?_ (s.drop 0)
          · intro l hl
            rcases List.mem_or_eq_of_mem_set hl with h | rfl
            · exact hc32 l h
            · exact hk
          · rw [hkt, List.length_append, List.length_singleton, List.take_succ_eq_append_getElem (by rw [List.length_set]; exact hpl), List.getElem_set_self, List.take_set_of_le (Nat.le_refl _), htk]
          · rw [List.drop_set_of_lt (by omega)]
            exact hdr2
          · exact f0
          · exact f1
          · rw [hkt, List.length_append, List.length_singleton]; rfl
          · exact f6
        · rw [decide_eq_false hm]
          rw [if_neg hm, List.append_nil] at hkt
          refine cndF ?_
          refine step _ w4 cur hcl hc32 ?_ hdr2 ?_ ?_ ?_ ?_ (s.drop 0)
          · rw [hkt]; exact htk
          · exact f0
          · exact f1
          · rw [hkt]; exact f5
          · exact f6
      · obtain rfl : j = ks.length := by omega
        rw [List.take_length] at hlt1 htk f5
        refine hX _ _ _ (by simp) (h2 _ _ _ (blk_x (seq_n h1 ?_)))
        show sliceW (.sl 32) (fr 0) (some (fr 5)) none none wr fun t38 w9 => insW Tryz.prog (Builtin.clear_ #[57] 0 #[t38]) w9 fun _ w11 => sliceW (.sl 32) (fr 0) none (some (fr 5)) none w11 K
        rw [f0, f5]
        obtain ⟨ti, hti, htz, hts, htb⟩ := tyI_spec ty_dig
        have ho : OwnAt wr x 34 32 (bc cur.flatten) cur.length := s.at 0 rfl
        have hle : (keepL ks keep).length ≤ cur.length := by omega
        have hfk : bc (keepL ks keep).flatten = (bc cur.flatten).take ((keepL ks keep).length * 32) := by
          have h1 : cur.flatten = (keepL ks keep).flatten ++ (cur.drop (keepL ks keep).length).flatten := by
            conv => lhs; rw [← List.take_append_drop (keepL ks keep).length cur, htk, List.flatten_append]
          have h2 : (keepL ks keep).flatten.length = (keepL ks keep).length * 32 := by
            rw [flatG (fun l hl => hk32 l (List.mem_filter.1 hl).1), Nat.mul_comm]
          rw [h1, bc_append, List.take_left' (by rw [bc_length, h2])]
        have hcl := clear_i (P := Tryz.prog) (w := wr) (T := 57) (ty := 0) (v := x) (xs := bc cur.flatten) (n := cur.length) (l := (keepL ks keep).length) (K := fun _ _ w11 => sliceW (.sl 32) x none (some (.int .i64 (keepL ks keep).length)) none w11 K) und_digs hti htz (by rw [hts]; rfl) zero_one32 (by rw [hts]; exact ho) hle (fun t ys w2 h2 e2 => ?_)
        · rw [hts] at hcl
          exact hcl
        · rw [hts, ← hfk] at h2
          have hlen2 : (bc (keepL ks keep).flatten).length = (keepL ks keep).length * 32 := by
            rw [bc_length, flatG (fun l hl => hk32 l (List.mem_filter.1 hl).1), Nat.mul_comm]
          refine h2.cutO (l := 0) (h := (keepL ks keep).length) rfl rfl (Nat.zero_le _) hle fun y hy hsb => ?_
          rw [Nat.zero_mul, List.drop_zero, Nat.sub_zero, List.take_left' hlen2] at hy
          exact h y w2 (s.upd (T := rG x cur) 0 rfl (T' := rG y (keepL ks keep)) hy e2 (fun b hb => .inl (by show b ∈ slB x; rw [← hsb]; exact hb)))
end
end Go.Proofs.YtedebapgmfnflaaGreatDoor

/- A vault's Keep, Open: walks. Conditions: see each. -/
namespace Go.Proofs.YtedebapgmfnflaaGreatDoor
open Go
set_option maxRecDepth 100000

abbrev keepE (es : Ents) (keep : List Bytes) : Ents := es.filter fun e => decide (e.1 ∈ keep)
theorem keysE_keep (es : Ents) (keep : List Bytes) : keysE (keepE es keep) = keepL (keysE es) keep := by
  unfold keysE keepE keepL
  rw [List.filter_map]
  rfl
theorem getE_mem {es : Ents} (hd : (keysE es).Nodup) {e : Bytes × Bytes} (he : e ∈ es) : getE es e.1 = some e.2 := by
  induction es with
  | nil => cases he
  | cons x r ih =>
    unfold getE
    have hx : x.1 ∉ keysE r ∧ (keysE r).Nodup := List.nodup_cons.1 hd
    rcases List.mem_cons.1 he with rfl | he
    · rw [List.find?_cons_of_pos (by simp)]; rfl
    · have hne : x.1 ≠ e.1 := fun h => hx.1 (by rw [h]; exact List.mem_map.2 ⟨e, he, rfl⟩)
      rw [List.find?_cons_of_neg (by simpa using hne)]
      exact ih hx.2 he
theorem recsE_map {es es' : Ents} (hd : (keysE es).Nodup) (hs : ∀ e ∈ es', e ∈ es) : recsE es (keysE es') = es'.map recE := by
  unfold recsE keysE
  rw [List.map_map]
  refine List.map_congr_left fun e he => ?_
  show e.1 ++ (getE es e.1).getD [] = recE e
  rw [getE_mem hd (hs e he)]
  rfl
theorem nodup_keep {es : Ents} (hd : (keysE es).Nodup) (keep : List Bytes) : (keysE (keepE es keep)).Nodup := by
  rw [keysE_keep]
  exact hd.filter _

theorem str_vault : strI Tryz.prog 69 = some ([(0, 1), (1, 1), (2, 1), (3, 1)], [.pointer none, .pointer none, .map none, .slice none 0 0]) := by kernel_rfl
theorem fill_vault (p m : Nat) : fillL [(0, 1), (1, 1), (2, 1), (3, 1)] [.pointer none, .pointer none, .map none, .slice none 0 0] [(0, ptrA p), (2, .map (some m))] = some (VaultH.cells ⟨p, none, m, .slice none 0 0⟩) := by
  have h1 : (ptrA p).cells = #[ptrA p] := rfl
  have h2 : (Value.map (some m)).cells = #[.map (some m)] := rfl
  simp [fillL, h1, h2, lspl, VaultH.cells]

section
variable {S : List Nat} {w0 w : World} {L R : List Res} {K : VPost} {F : List Nat} {D : DiskM}
set_option maxHeartbeats 4000000 in
theorem Sep.vKeep {v : Nat} {V : VaultH} {x : Value} {es : Ents} {hv : List Value} {keep : List Bytes} (s : Sep S w0 w (rV v V :: rM V.map (mapE es hv) :: rG V.order (keysE es) :: rDk V.disk F D :: L) R) (ok : EntsOk es) (hd : (keysE es).Nodup) (hr : rL hv (valsE es) ∈ R) (hx : rGR x keep ∈ R) (h32 : ∀ l ∈ keep, l.length = 32) (hkn : keep.length ≤ 100000)
    (h4 : 4 ≤ D.n) (hn : D.n ≤ 50000) (hp : D.pend.length + D.n ≤ 100000) (hgl : highB (secsOf D.seen 0 D.n) < 4294967295) (hz : roomB (D.n / 2) ((keepE es keep).map recE) = 0)
    (hno : (beginD D (firstB D) (highB (secsOf D.seen 0 D.n) + 1) ((keepE es keep).map recE)).2 = false → ∀ F' w', Sep S w0 w' (rV v V :: rM V.map (mapE es hv) :: rG V.order (keysE es) :: rDk V.disk F' (beginD D (firstB D) (highB (secsOf D.seen 0 D.n) + 1) ((keepE es keep).map recE)).1 :: L) R → K (.int .i64 15) w')
    (hyes : (beginD D (firstB D) (highB (secsOf D.seen 0 D.n) + 1) ((keepE es keep).map recE)).2 = true → ∀ F' c m o hv' r hs w', Sep S w0 w' (rV v ⟨V.disk, some c, m, o⟩ :: rM m (mapE (keepE es keep) hv') :: rG o (keysE (keepE es keep)) ::
      rA c ⟨V.disk, firstB D, D.n / 2, highB (secsOf D.seen 0 D.n) + 1, posR ((keepE es keep).map recE) ((keepE es keep).map recE).length, r, false⟩ 89 :: rO r 36 1 hs ((keepE es keep).map recE).length :: rDk V.disk F' (beginD D (firstB D) (highB (secsOf D.seen 0 D.n) + 1) ((keepE es keep).map recE)).1 :: L)
      (rL hv' (valsE (keepE es keep)) :: rL hs ((keepE es keep).map recE) :: R) → K (.int .i64 0) w') :
    fnW Tryz.prog 27 #[ptrA v, x] w K := by
  have hfew := ok.few
  have hxr : RdSl w x 32 (bc keep.flatten) keep.length := s.rd _ hx
  obtain ⟨xa, xc, hxv⟩ := hxr.len
  refine fnW_of (by kernel_rfl) (c27_calls _ _ w K ?_)
  unfold c27
  refine s.box fun q w1 s _ => ?_
  have hxc : x.cells.toList = [x] := by rw [hxv]; rfl
  rw [hxc] at s
  rw [nilW_e]
  refine off_i ?_
  refine s.load1 1 rfl rfl ?_
  have hkl := keysE_length es
  refine fnW_of (by kernel_rfl) (cloneG_c (OwnAt.rd (s.at 3 rfl)) ok.keys (by omega) fun y w2 hy e2 hf2 => ?_)
  have s := s.add (T := rG y (keysE es)) hy e2 hf2
  refine insW_ok (v := delV q) (w' := w2) rfl ?_
  have s := s.freeze 1 rfl (T' := rB q [x] 57) (s.at 1 rfl) (fun b hb => hb)
  refine s.deleteFunc (kx := x) (keep := keep) (t := 57) (by simp) (by simp [hx]) h32 (by omega) ok.keys (by omega) fun left w3 s => ?_
  rw [← keysE_keep] at s
  have hsub : ∀ e ∈ keepE es keep, e ∈ es := fun e he => (List.mem_filter.1 he).1
  have hrecs := recsE_map hd hsub
  have hnd := nodup_keep hd keep
  have hlen' : (keepE es keep).length ≤ es.length := List.length_filter_le _ _
  have hk32 : ∀ k ∈ keysE (keepE es keep), k.length = 32 := fun k hk => by
    obtain ⟨e, he, rfl⟩ := List.mem_map.1 hk
    exact ok.k32 e (hsub e he)
  have hkl' := keysE_length (keepE es keep)
  generalize hes' : keepE es keep = es' at *
  have s := s.drew
  generalize w3.drew = w3 at *
  rw [nilW_e]
  refine off_i ?_
  refine s.load1 1 rfl rfl ?_
  refine s.vRecords ok hk32 (by omega) 1 2 0 rfl rfl rfl (by simp [hr]) fun vr hs4 w4 s => ?_
  rw [hrecs] at s
  refine ⟨s.load1 2 rfl rfl ⟨rfl, rfl⟩, ?_⟩
  have s : Sep S w0 w4 (rDk V.disk F D :: rO vr 36 1 hs4 (es'.map recE).length :: rG left (keysE es') :: rV v V :: rM V.map (mapE es hv) :: rG V.order (keysE es) :: L) (rL hs4 (es'.map recE) :: rB q [x] 57 :: R) := s.toFront 5 rfl
  obtain ⟨z1, z2⟩ := roomB_zero hz
  refine s.areaBegin (x := vr) (hs0 := hs4) (rs := es'.map recE) 0 rfl (by simp) h4 (by omega) hp (by rw [List.length_map]; omega) (by omega) hgl (fun hne => absurd hz hne) (fun _ hb F5 w5 s => ?_) (fun _ hb F5 c r hs5 w5 s => ?_)
  · rw [extr0, extr1, ineq]
    refine cond_d (fun _ => ?_) (fun h => absurd (by decide) h)
    have s := (s.drop 1).drop 1
    have s : Sep S w0 w5 (rV v V :: rM V.map (mapE es hv) :: rG V.order (keysE es) :: rDk V.disk F5 (beginD D (firstB D) (highB (secsOf D.seen 0 D.n) + 1) (es'.map recE)).1 :: L) _ := ((s.toFront 3 rfl).toFront 3 rfl).toFront 3 rfl
    exact hno hb F5 w5 (s.less (fun T hT => by simp [hT]))
  · rw [extr0, extr1, ineq]
    refine cond_d (fun h => absurd rfl h) (fun _ => ?_)
    replace hyes := hyes hb
    clear hno
    generalize (beginD D (firstB D) (highB (secsOf D.seen 0 D.n) + 1) (es'.map recE)).1 = D2 at *
    obtain ⟨A2, hA2⟩ : ∃ A2, A2 = (⟨V.disk, firstB D, D.n / 2, highB (secsOf D.seen 0 D.n) + 1, posR (es'.map recE) (es'.map recE).length, r, false⟩ : AreaH) := ⟨_, rfl⟩
    rw [← hA2] at s
    have s := s.drop 3
    have s : Sep S w0 w5 (rA c A2 89 :: rO r 36 1 hs5 (es'.map recE).length :: rDk V.disk F5 D2 :: rG left (keysE es') :: rV v V :: rM V.map (mapE es hv) :: rG V.order (keysE es) :: L) (rL hs5 (es'.map recE) :: rL hs4 (es'.map recE) :: rB q [x] 57 :: R) := s
    refine s.makeMap fun m w6 s => ?_
    refine bindX_i fun J0 h0 => bindX_i fun J1 h1 => ?_
    rw [(OwnAt.rd (s.at 4 rfl)).lenw]
    refine bindX_i fun J2 h2 => ?_
    have s := s.noRows
    refine loop_i (fun n fr wr => ∃ (i : Nat) (hv' : List Value), n = es'.length - i ∧ i ≤ es'.length ∧ fr 0 = ptrA v ∧ fr 5 = left ∧ fr 6 = ptrA c ∧ fr 8 = .map (some m) ∧ fr 33 = left ∧ fr 34 = .int .i64 (keysE es').length ∧ fr 35 = .int .i64 i ∧
      Sep S w0 wr (rM m (mapE (es'.take i) hv') :: rA c A2 89 :: rO r 36 1 hs5 (es'.map recE).length :: rDk V.disk F5 D2 :: rG left (keysE es') :: rV v V :: rM V.map (mapE es hv) :: rG V.order (keysE es) :: L) (rL hv' (valsE (es'.take i)) :: rL hs5 (es'.map recE) :: R)) es'.length ?_ ?_
    · refine ⟨0, [], rfl, by omega, rfl, rfl, rfl, rfl, rfl, rfl, rfl, ?_⟩
      exact s.less (fun T hT => by
        rcases List.mem_cons.1 hT with rfl | hT
        · simp [valsE]
        · rcases List.mem_cons.1 hT with rfl | hT
          · simp
          · simp [hT])
    · rintro n fr wr J ⟨i, hv', rfl, hi, f0, f5, f6, f8, f33, f34, f35, s⟩ hJ hX
      rw [f34, f35]
      refine nlss (cond_d (fun hlt => ?_) (fun hlt => ?_))
      · have hlt' : i < es'.length := by omega
        rw [f33, f0, f8]
        obtain ⟨b0, o0, hix, hld⟩ := RdSl.digAt (OwnAt.rd (s.at 4 rfl)) hk32 hlt .i64
        refine hix _ ?_
        refine hld _ ?_
        have hki : (keysE es')[i] = es'[i].1 := by simp [keysE]
        have hke : getE es es'[i].1 = some es'[i].2 := getE_mem hd (hsub _ (List.getElem_mem hlt'))
        have hk := hk32 _ (List.getElem_mem hlt)
        have htk : es'.take (i + 1) = es'.take i ++ [es'[i]] := List.take_succ_eq_append_getElem hlt'
        have hnew : es'[i].1 ∉ keysE (es'.take i) := by
          intro hm
          have hnd2 := hnd
          rw [← List.take_append_drop i es'] at hnd2
          unfold keysE at hnd2 hm
          rw [List.map_append, List.nodup_append] at hnd2
          exact hnd2.2.2 _ hm _ (List.mem_map.2 ⟨es'[i], by rw [List.drop_eq_getElem_cons hlt']; exact List.mem_cons_self, rfl⟩) rfl
        rw [hki] at hk ⊢
        generalize es'[i] = e at *
        have hbl : (bc e.1).length = 32 := by rw [bc_length, hk]
        refine s.alloc zero_digG cells_digG fun b w7 s _ => ?_
        refine s.storeAll 0 rfl hbl (by rw [bc_length]; rfl) (bc_one _) fun w8 s _ => ?_
        have s : Sep S w0 w8 (rB b (bc e.1) 34 :: rM m (mapE (es'.take i) hv') :: rA c A2 89 :: rO r 36 1 hs5 (es'.map recE).length :: rDk V.disk F5 D2 :: rG left (keysE es') :: rV v V :: rM V.map (mapE es hv) :: rG V.order (keysE es) :: L) (rL hv' (valsE (es'.take i)) :: rL hs5 (es'.map recE) :: R) := s
        have s := s.drew
        generalize w8.drew = w8 at *
        refine s.loadAll 0 rfl hbl ?_
        rw [nilW_e]
        refine off_i ?_
        refine s.load1 6 rfl rfl ?_
        refine s.loadAll 0 rfl hbl ?_
        have hrl : RowsL w8 hv (valsE es) := s.rd (rL hv (valsE es)) (by simp [hr])
        refine lookup1_i (s.at 7 rfl) hk ⟨rfl, ?_⟩
        rcases getM_mapE e.1 hrl with ⟨_, hg⟩ | ⟨hh, ll, hm, hg, hrd, hcap, _, hfoot⟩
        · rw [hke] at hg; cases hg
        · rw [hke] at hg
          obtain rfl := Option.some.inj hg
          rw [hm]
          have hrl' : RowsL w8 hv' (valsE (es'.take i)) := s.rat 0 rfl
          have hm0 : getM (mapE (es'.take i) hv') e.1 = none := by
            rcases getM_mapE e.1 hrl' with ⟨h, _⟩ | ⟨_, l2, _, h, _⟩
            · exact h
            · rw [getE_none.2 hnew] at h; cases h
          refine s.mapPut (v := hh) 1 rfl hk hm0 fun w9 s => ?_
          have hrd9 : RowsL w9 hv (valsE es) := s.rd (rL hv (valsE es)) (by simp [hr])
          rcases getM_mapE e.1 hrd9 with ⟨_, hg9⟩ | ⟨hh9, ll9, hm9, hg9, hrd9, hcap9, _, hfoot9⟩
          · rw [hke] at hg9; cases hg9
          rw [hke] at hg9
          obtain rfl := Option.some.inj hg9
          rw [hm] at hm9
          obtain rfl := Option.some.inj hm9
          have s := (s.growRd (hs := hv') (ls := valsE (es'.take i)) (v := hh) (l := e.2) (U := rL hv (valsE es)) (by simp) hrd9 hcap9 (by simp [hr]) hfoot9).drop 0
          refine nadd (y := 1) (by omega) ?_
          refine hJ (es'.length - (i + 1)) _ _ (by omega) ⟨i + 1, hv' ++ [hh], rfl, by omega, f0, f5, f6, f8, f33, f34, rfl, ?_⟩
          rw [htk, mapE_snoc (by rw [hrl'.length, valsE_length])]
          have ev : valsE (es'.take i ++ [e]) = valsE (es'.take i) ++ [e.2] := by simp [valsE]
          rw [ev]
          exact s.less (fun T hT => by
            rcases List.mem_cons.1 hT with rfl | hT
            · simp
            · simp [hT])
      · have hil : i = es'.length := by omega
        subst hil
        rw [List.take_length] at s
        refine hX _ _ _ (by simp) (h2 _ _ _ (h1 _ _ _ ?_))
        show nilW (fr 0) wr fun t54 w39 => offW (some 1) t54 w39 fun t55 w41 => storeW (some (false, 1)) t55 (fr 6) w41 fun w42 => nilW (fr 0) w42 fun t56 w44 => offW (some 3) t56 w44 fun t57 w46 => storeW (some (false, 1)) t57 (fr 5) w46 fun w47 =>
          nilW (fr 0) w47 fun t58 w49 => offW (some 2) t58 w49 fun t59 w51 => storeW (some (false, 1)) t59 (fr 8) w51 fun w52 => K (.int .i64 0) w52
        rw [f0, f5, f6, f8]
        rw [nilW_e]
        refine off_i ?_
        refine s.store1 5 rfl rfl (by show 1 < 4; decide) rfl fun w7 s _ => ?_
        rw [nilW_e]
        refine off_i ?_
        obtain ⟨qa, qc, hq⟩ := (OwnAt.rd (s.at 4 rfl)).len
        refine s.store1 5 rfl (by rw [hq]; rfl) (by show 3 < 4; decide) (by rw [hq]; rfl) fun w8 s _ => ?_
        rw [nilW_e]
        refine off_i ?_
        refine s.store1 5 rfl rfl (by show 2 < 4; decide) rfl fun w9 s _ => ?_
        have s : Sep S w0 w9 (rM m (mapE es' hv') :: rA c A2 89 :: rO r 36 1 hs5 (es'.map recE).length :: rDk V.disk F5 D2 :: rG left (keysE es') :: rV v ⟨V.disk, some c, m, left⟩ :: rM V.map (mapE es hv) :: rG V.order (keysE es) :: L) (rL hv' (valsE es') :: rL hs5 (es'.map recE) :: R) := s
        have s := (s.drop 6).drop 6
        have s : Sep S w0 w9 (rV v ⟨V.disk, some c, m, left⟩ :: rM m (mapE es' hv') :: rG left (keysE es') :: rA c A2 89 :: rO r 36 1 hs5 (es'.map recE).length :: rDk V.disk F5 D2 :: L) (rL hv' (valsE es') :: rL hs5 (es'.map recE) :: R) := ((s.toFront 4 rfl).toFront 1 rfl).toFront 5 rfl
        rw [hA2] at s
        exact hyes F5 c m left hv' r hs5 w9 s
end
end Go.Proofs.YtedebapgmfnflaaGreatDoor

/- A vault opened: the walk. Conditions: at least 4 sectors; what is found fits and is begun anew. -/
namespace Go.Proofs.YtedebapgmfnflaaGreatDoor
open Go
set_option maxRecDepth 100000

/-- The entries that a disk's area tells. -/
def entsD (D : DiskM) : Ents := match currentA D.seen (D.n / 2) with
  | none => []
  | some B => B.recs.foldl loadE []

theorem ptr_vault : Tryz.prog.underlying 29 = some (.pointer 69) := by kernel_rfl

section
variable {S : List Nat} {w0 w : World} {L R : List Res} {K : VPost} {F : List Nat} {D : DiskM}
set_option maxHeartbeats 4000000 in
theorem Sep.vOpen {p : Nat} (s : Sep S w0 w (rDk p F D :: L) R) (h4 : 4 ≤ D.n) (hn : D.n ≤ 50000) (hp : D.pend.length + D.n ≤ 100000) (hgl : highB (secsOf D.seen 0 D.n) < 4294967295)
    (hrn : ∀ B, currentA D.seen (D.n / 2) = some B → B.recs.length ≤ 100000 ∧ ∀ r ∈ B.recs, r.length ≤ 2 ^ 30) (hd : (keysE (entsD D)).Nodup) (hz : roomB (D.n / 2) ((entsD D).map recE) = 0)
    (hb : (beginD D (firstB D) (highB (secsOf D.seen 0 D.n) + 1) ((entsD D).map recE)).2 = true)
    (h : ∀ F' v c m o hv r hs w', Sep S w0 w' (rV v ⟨p, some c, m, o⟩ :: rM m (mapE (entsD D) hv) :: rG o (keysE (entsD D)) ::
      rA c ⟨p, firstB D, D.n / 2, highB (secsOf D.seen 0 D.n) + 1, posR ((entsD D).map recE) ((entsD D).map recE).length, r, false⟩ 89 :: rO r 36 1 hs ((entsD D).map recE).length :: rDk p F' (beginD D (firstB D) (highB (secsOf D.seen 0 D.n) + 1) ((entsD D).map recE)).1 :: L)
      (rL hv (valsE (entsD D)) :: rL hs ((entsD D).map recE) :: R) → K (.tuple #[ptrA v, .int .i64 0]) w') :
    fnW Tryz.prog 8 #[ptrA p] w K := by
  refine fnW_of (by kernel_rfl) (c8_calls _ w K ?_)
  unfold c8
  have hok : EntsOk (entsD D) := by
    unfold entsD
    cases hc : currentA D.seen (D.n / 2) with
    | none => exact ⟨by simp, by simp, by simp⟩
    | some B =>
      obtain ⟨h1, h2, h3⟩ := loadsE_ok B.recs B.recs.length (Nat.le_refl _)
      rw [List.take_length] at h1 h2 h3
      have h4' := (hrn B hc).1
      exact ⟨h1, h2, Nat.le_trans h3 h4'⟩
  -- from where the entries are known on
  have fin : ∀ (J0 J1 : XPost) (fr : Fr) (wr : World) (v m : Nat) (o : Value) (hv : List Value) (R' : List Res), (∀ e fr w, seqX (fun f16 w17 =>
      nilW (f16 6) w17 fun t30 w19 => offW (some 3) t30 w19 fun t31 w21 => loadW (some (false, 1)) t31 w21 fun t32 w23 => fnW Tryz.prog 32 #[(f16 6), t32] w23 fun t33 w25 => fnW Tryz.prog 31 #[(f16 0), t33] w25 fun t34 w27 =>
      extrW t34 0 w27 fun t35 w29 => extrW t34 1 w29 fun _ w31 => nilW (f16 6) w31 fun t37 w33 => offW (some 1) t37 w33 fun t38 w35 => storeW (some (false, 1)) t38 t35 w35 fun w36 => K (.tuple #[(f16 6), (.int .i64 0)]) w36) J0 e fr w → J1 e fr w) →
      fr 6 = ptrA v → fr 0 = ptrA p → (∀ T ∈ R, T ∈ R') → Sep S w0 wr (rV v ⟨p, none, m, o⟩ :: rM m (mapE (entsD D) hv) :: rG o (keysE (entsD D)) :: rDk p F D :: L) (rL hv (valsE (entsD D)) :: R') → J1 .normal fr wr := by
    intro J0 J1 fr wr v m o hv R' h1 f6 f0 hR s
    refine seq_n h1 ?_
    rw [f6, f0, nilW_e]
    have hk := hok.keys
    have hf := hok.few
    have hkl := keysE_length (entsD D)
    have hrecs := recsE_map (es := entsD D) (es' := entsD D) hd (fun e he => he)
    obtain ⟨z1, z2⟩ := roomB_zero hz
    generalize entsD D = es at *
    refine off_i ?_
    refine s.load1 0 rfl rfl ?_
    refine s.vRecords hok hk (by omega) 0 1 2 rfl rfl rfl (by simp) fun y hs w1 s => ?_
    rw [hrecs] at s
    have s : Sep S w0 w1 (rDk p F D :: rO y 36 1 hs (es.map recE).length :: rV v ⟨p, none, m, o⟩ :: rM m (mapE es hv) :: rG o (keysE es) :: L) (rL hs (es.map recE) :: rL hv (valsE es) :: R') := s.toFront 4 rfl
    refine s.areaBegin (x := y) (hs0 := hs) (rs := es.map recE) 0 rfl (by simp) h4 (by omega) hp (by rw [List.length_map]; omega) (by omega) hgl (fun hne => absurd hz hne) (fun _ hb' => by rw [hb] at hb'; cases hb') (fun _ _ F5 c r hs5 w5 s => ?_)
    generalize (beginD D (firstB D) (highB (secsOf D.seen 0 D.n) + 1) (es.map recE)).1 = D2 at *
    rw [extr0, extr1, nilW_e]
    refine off_i ?_
    refine s.store1 4 rfl rfl (by show 1 < 4; decide) rfl fun w6 s _ => ?_
    obtain ⟨A2, hA2⟩ : ∃ A2, A2 = (⟨p, firstB D, D.n / 2, highB (secsOf D.seen 0 D.n) + 1, posR (es.map recE) (es.map recE).length, r, false⟩ : AreaH) := ⟨_, rfl⟩
    rw [← hA2] at s
    have s := s.drop 3
    have s : Sep S w0 w6 (rA c A2 89 :: rO r 36 1 hs5 (es.map recE).length :: rDk p F5 D2 :: rV v ⟨p, some c, m, o⟩ :: rM m (mapE es hv) :: rG o (keysE es) :: L) (rL hs5 (es.map recE) :: rL hs (es.map recE) :: rL hv (valsE es) :: R') := s
    have s : Sep S w0 w6 (rV v ⟨p, some c, m, o⟩ :: rM m (mapE es hv) :: rG o (keysE es) :: rA c A2 89 :: rO r 36 1 hs5 (es.map recE).length :: rDk p F5 D2 :: L) (rL hs5 (es.map recE) :: rL hs (es.map recE) :: rL hv (valsE es) :: R') := ((s.toFront 5 rfl).toFront 5 rfl).toFront 5 rfl
    rw [hA2] at s
    exact h F5 v c m o hv r hs5 w6 (s.less (fun T hT => by
      rcases List.mem_cons.1 hT with rfl | hT
      · simp
      · rcases List.mem_cons.1 hT with rfl | hT
        · simp
        · simp [hR T hT]))
  refine s.areaOpen 0 rfl h4 (by omega) (fun hc w1 s => ?_) (fun B hc a va hsa w1 s => ?_)
  · have he : entsD D = [] := by unfold entsD; rw [hc]
    rw [extr0, extr1]
    refine neql (x := 12) (y := 11) (cond_d (fun h => absurd h (by decide)) (fun _ => ?_))
    refine s.makeMap fun m w2 s => ?_
    refine build_i str_vault (fill_vault p m) ?_
    refine s.box fun v w3 s _ => ?_
    have s := s.add (T := rG (.slice none 0 0) []) (.inl ⟨rfl, rfl, rfl⟩) (Ext.refl _ _) (by simp [rO, slB])
    have s : Sep S w0 w3 (rV v ⟨p, none, m, .slice none 0 0⟩ :: rM m [] :: rG (.slice none 0 0) [] :: rDk p F D :: L) R := (s.toFront 2 rfl).toFront 2 rfl
    refine bindX_i fun J0 h0 => bindX_i fun J1 h1 => ?_
    rw [nil_neq_nilA ptr_area]
    refine cndF ?_
    refine fin J0 J1 _ w3 v m (.slice none 0 0) [] R h1 rfl rfl (fun T hT => hT) ?_
    rw [he]
    exact s.noRows
  · have he : entsD D = B.recs.foldl loadE [] := by unfold entsD; rw [hc]
    obtain ⟨hb1, hb2⟩ := hrn B hc
    have s : Sep S w0 w1 (rA a ⟨p, B.first, B.size, B.gen, B.next, va, true⟩ 89 :: rO va 36 1 hsa B.recs.length :: rDk p F D :: L) (rL hsa B.recs :: R) := s
    rw [extr0, extr1]
    refine neql (x := 0) (y := 11) (cond_d (fun h => absurd h (by decide)) (fun _ => ?_))
    refine s.makeMap fun m w2 s => ?_
    refine build_i str_vault (fill_vault p m) ?_
    refine s.box fun v w3 s _ => ?_
    have s := s.add (T := rG (.slice none 0 0) []) (.inl ⟨rfl, rfl, rfl⟩) (Ext.refl _ _) (by simp [rO, slB])
    have s : Sep S w0 w3 (rV v ⟨p, none, m, .slice none 0 0⟩ :: rM m [] :: rG (.slice none 0 0) [] :: rA a ⟨p, B.first, B.size, B.gen, B.next, va, true⟩ 89 :: rO va 36 1 hsa B.recs.length :: rDk p F D :: L) (rL hsa B.recs :: R) := (s.toFront 2 rfl).toFront 2 rfl
    refine bindX_i fun J0 h0 => bindX_i fun J1 h1 => ?_
    rw [ptr_neq_nil ptr_area]
    refine cndT ?_
    refine s.areaRecords (A := ⟨p, B.first, B.size, B.gen, B.next, va, true⟩) 3 rfl 4 rfl (by simp) (by omega) hb2 fun vr hsr w4 s => ?_
    have s : Sep S w0 w4 (rV v ⟨p, none, m, .slice none 0 0⟩ :: rM m [] :: rG (.slice none 0 0) [] :: rO vr 36 1 hsr B.recs.length :: rA a ⟨p, B.first, B.size, B.gen, B.next, va, true⟩ 89 :: rO va 36 1 hsa B.recs.length :: rDk p F D :: L) (rL hsr B.recs :: rL hsa B.recs :: R) := ((s.toFront 3 rfl).toFront 3 rfl).toFront 3 rfl
    refine s.vLoad (V := ⟨p, none, m, .slice none 0 0⟩) 0 rfl (by simp) hb1 hb2 fun o hv w5 s => ?_
    rw [← he] at s
    have s : Sep S w0 w5 (rV v ⟨p, none, m, o⟩ :: rM m (mapE (entsD D) hv) :: rG o (keysE (entsD D)) :: rDk p F D :: L) _ := ((s.drop 3).drop 3).drop 3
    refine fin J0 J1 _ w5 v m o hv _ h1 rfl rfl (fun T hT => ?_) s
    simp [hT]
end
end Go.Proofs.YtedebapgmfnflaaGreatDoor

/- law06's key, entries; ref06's Same: walks. -/
namespace Go.Proofs.YtedebapgmfnflaaGreatDoor
open Go
set_option maxRecDepth 100000

def keyD (c : UInt8) : Bytes := [c, 0, 9] ++ List.replicate 29 0
theorem keyD_len (c : UInt8) : (keyD c).length = 32 := rfl
theorem zeros32 : (Array.replicate 32 (Value.int .u8 0)).toList = bc (List.replicate 32 0) := by simp [bc, bv]
theorem key_c {w : World} {K : VPost} (c : UInt8) (hK : ∀ w', Ext [] w w' → K (kv (keyD c)) w') : Calls Tryz.prog 9 #[bv c] w (retK K) := by
  refine c9_calls _ w K ?_
  unfold c9
  refine (Sep.nil w).alloc zero_digG cells_digG fun b w1 s _ => ?_
  obtain ⟨ti, hti, htz, hts, htb⟩ := tyI_spec ty_dig
  obtain ⟨ui, hui, huz, husz, huby⟩ := tyI_spec ty_u8
  refine buildA_i (out := bc (keyD c)) und_dig hti htz hui ?_ ?_
  · rw [husz]
    rfl
  refine s.storeAll 0 rfl (by rw [bc_length]; rfl) (by rw [bc_length]; rfl) (bc_one _) fun w2 s _ => ?_
  refine s.loadAll 0 rfl (by rw [bc_length]; rfl) ?_
  exact hK w2 s.ext

/-- Entries as cells. -/
def entC : Ents → List Value → List Value
  | e :: es, h :: hs => (bc e.1 ++ [h]) ++ entC es hs
  | _, _ => []
abbrev rE (x : Value) (es : Ents) (hs : List Value) : Res := rO x 46 33 (entC es hs) es.length
theorem entC_snoc {e : Bytes × Bytes} {h : Value} : ∀ {es : Ents} {hs : List Value}, hs.length = es.length → entC (es ++ [e]) (hs ++ [h]) = entC es hs ++ (bc e.1 ++ [h])
  | [], [], _ => by simp [entC]
  | x :: es, y :: hv, hl => by
    show (bc x.1 ++ [y]) ++ entC (es ++ [e]) (hv ++ [h]) = _
    rw [entC_snoc (es := es) (hs := hv) (by simpa using hl), ← List.append_assoc]
    rfl
  | [], _ :: _, hl => by simp at hl
  | _ :: _, [], hl => by simp at hl
theorem entC_get : ∀ {es : Ents} {hs : List Value} (i : Nat) (h1 : i < es.length) (h2 : i < hs.length), (∀ e ∈ es, e.1.length = 32) → ((entC es hs).drop (i * 33)).take 33 = bc es[i].1 ++ [hs[i]]
  | e :: es, h :: hs, 0, _, _, hk => by
    have hl : (bc e.1 ++ [h]).length = 33 := by rw [List.length_append, bc_length, hk e (by simp)]; rfl
    rw [Nat.zero_mul, List.drop_zero]
    show ((bc e.1 ++ [h]) ++ entC es hs).take 33 = _
    rw [List.take_left' hl]
    rfl
  | e :: es, h :: hs, i + 1, h1, h2, hk => by
    have hl : (bc e.1 ++ [h]).length = 33 := by rw [List.length_append, bc_length, hk e (by simp)]; rfl
    have ih := entC_get (es := es) (hs := hs) i (by simpa using h1) (by simpa using h2) (fun x hx => hk x (by simp [hx]))
    show (((bc e.1 ++ [h]) ++ entC es hs).drop ((i + 1) * 33)).take 33 = _
    rw [show (i + 1) * 33 = 33 + i * 33 by omega, ← List.drop_drop, List.drop_left' hl, ih]
    rfl

theorem str_entry : strI Tryz.prog 46 = some ([(0, 32), (32, 1)], List.replicate 32 (Value.int .u8 0) ++ [.slice none 0 0]) := by kernel_rfl
theorem fill_entry (k : Bytes) (h : Value) (hk : k.length = 32) (hh : h.cells = #[h]) : fillL [(0, 32), (32, 1)] (List.replicate 32 (Value.int .u8 0) ++ [.slice none 0 0]) [(0, kv k), (1, h)] = some (bc k ++ [h]) := by
  have h1 : (kv k).cells = (bc k).toArray := rfl
  have hl : (bc k).length = 32 := by rw [bc_length, hk]
  have hZ : (List.replicate 32 (Value.int .u8 0) ++ [Value.slice none 0 0]).length = 33 := rfl
  generalize List.replicate 32 (Value.int .u8 0) ++ [Value.slice none 0 0] = Z at hZ
  have e1 : lspl Z 0 (bc k) = bc k ++ Z.drop 32 := by
    unfold lspl
    rw [List.take_zero, List.nil_append, Nat.zero_add, hl]
  have e2 : lspl (bc k ++ Z.drop 32) 32 [h] = bc k ++ [h] := by
    unfold lspl
    rw [List.take_left' hl, List.drop_of_length_le (by simp [hl, hZ]), List.append_nil]
  simp [fillL, h1, hh, hl, hZ, e1, e2]
theorem ty_entry : tyI Tryz.prog 46 = some (.agg (List.replicate 32 (Value.int .u8 0) ++ [Value.slice none 0 0]).toArray, 33, 56) := by kernel_rfl
theorem und_ents : Tryz.prog.underlying 32 = some (.slice 46) := by kernel_rfl

section
variable {S : List Nat} {w0 w : World} {L R : List Res} {K : VPost}
theorem Sep.ents0 (s : Sep S w0 w L R) (h : ∀ v' w', Sep S w0 w' (rE v' [] [] :: L) R → K v' w') : insW Tryz.prog (Instr.buildSlice 32 0 #[]) w K := by
  obtain ⟨ti, hti, htz, hts, htb⟩ := tyI_spec ty_entry
  exact s.lit (vs := []) und_ents hti htz rfl (by simp) (by simp) fun t w1 s1 _ _ => h t w1 (by rw [hts] at s1; exact s1)
/-- An entry more. -/
theorem Sep.entAdd {x h : Value} {es : Ents} {hs : List Value} {k l : Bytes} {a : Option Addr} {m c : Nat} {K : Value → VPost} (s : Sep S w0 w L R) (i : Nat) (hL : L[i]? = some (rE x es hs)) (hh : h = .slice a m c) (hk : k.length = 32) (hl : hs.length = es.length) (hn : es.length ≤ 1000000)
    (hK : ∀ t x' w', Sep S w0 w' (L.set i (rE x' (es ++ [(k, l)]) (hs ++ [h]))) R → K t x' w') :
    insW Tryz.prog (Instr.buildSlice 32 1 #[(0, .agg (bc k ++ [h]).toArray)]) w fun t w' => insW Tryz.prog (Builtin.append_ #[32, 32] 32 #[x, t]) w' (K t) := by
  obtain ⟨ti, hti, htz, hts, htb⟩ := tyI_spec ty_entry
  have hlen : (bc k ++ [h]).length = 33 := by rw [List.length_append, bc_length, hk]; rfl
  have hone : ∀ y ∈ bc k ++ [h], y.oneCell' = true := by
    intro y hy
    rcases List.mem_append.1 hy with hy | hy
    · exact bc_one _ _ hy
    · rw [List.mem_singleton] at hy
      subst hy
      rw [hh]; rfl
  refine s.lit (vs := [.agg (bc k ++ [h]).toArray]) und_ents hti htz rfl (by intro y hy; rw [List.mem_singleton] at hy; subst hy; rw [hts]; show (bc k ++ [h]).toArray.size = 33; rw [List.size_toArray, hlen]) (by rw [hts]; simp) fun t w1 s1 _ _ => ?_
  have e : flatV [.agg (bc k ++ [h]).toArray] = bc k ++ [h] := by simp [flatV, Value.cells]
  rw [hts, e] at s1
  have s1 : Sep S w0 w1 (rO t 46 33 (bc k ++ [h]) 1 :: L) R := s1
  refine s1.appendO (v := x) (n := es.length) (m := 1) (ys := bc k ++ [h]) (xs := entC es hs) (i + 1) (by rw [hts]; simpa using hL) und_ents und_ents hti htz (by rw [hts]; rfl) (by rw [htb]; decide) (by rw [hts]; exact OwnAt.rd (s1.at 0 rfl)) hone (by rw [htb]; omega) fun v' w2 s2 => ?_
  rw [hts] at s2
  have s2 := s2.drop 0
  have e2 : es.length + 1 = (es ++ [(k, l)]).length := by simp
  rw [← entC_snoc (e := (k, l)) hl, e2] at s2
  exact hK t v' w2 s2

set_option maxHeartbeats 1000000 in
/-- What a vault has. -/
theorem Sep.entries {v : Nat} {V : VaultH} {es : Ents} {hv : List Value} (s : Sep S w0 w L R) (ok : EntsOk es) (hd : (keysE es).Nodup) (i j l : Nat) (hi : L[i]? = some (rV v V)) (hj : L[j]? = some (rM V.map (mapE es hv))) (hl : L[l]? = some (rG V.order (keysE es))) (hr : rL hv (valsE es) ∈ R)
    (h : ∀ x hs w', Sep S w0 w' (rE x es hs :: L) (rL hs (valsE es) :: R) → K x w') : fnW Tryz.prog 17 #[ptrA v] w K := by
  refine fnW_of (by kernel_rfl) (c17_calls _ w K ?_)
  unfold c17
  have hf := ok.few
  refine s.ents0 fun x0 w1 s => ?_
  refine s.vKeys ok (i + 1) (l + 1) (by simpa using hi) (by simpa using hl) fun ks w2 s => ?_
  refine bindX_i fun J0 h0 => bindX_i fun J1 h1 => bindX_i fun J2 h2 => ?_
  have s := s.noRows
  have hkl := keysE_length es
  refine loop_i (fun m fr wr => ∃ (q : Nat) (x : Value) (hs : List Value), m = es.length - q ∧ q ≤ es.length ∧ hs.length = q ∧ fr 0 = ptrA v ∧ fr 3 = x ∧ fr 4 = ks ∧ fr 5 = .int .i64 q ∧ Sep S w0 wr (rG ks (keysE es) :: rE x (es.take q) hs :: L) (rL hs (valsE (es.take q)) :: R)) es.length ?_ ?_
  · exact ⟨0, x0, [], rfl, by omega, rfl, rfl, rfl, rfl, rfl, s⟩
  · rintro m fr wr J ⟨q, x, hs, rfl, hq, hsl, f0, f3, f4, f5, s⟩ hJ hX
    rw [f4, f5, (OwnAt.rd (s.at 0 rfl)).lenw]
    refine nlss (cond_d (fun hlt => ?_) (fun hlt => ?_))
    · have hlt' : q < es.length := by omega
      rw [f0]
      have hki : (keysE es)[q] = es[q].1 := by simp [keysE]
      have hke : getE es es[q].1 = some es[q].2 := getE_mem hd (List.getElem_mem hlt')
      have hk := ok.k32 _ (List.getElem_mem hlt')
      have htk : es.take (q + 1) = es.take q ++ [es[q]] := List.take_succ_eq_append_getElem hlt'
      obtain ⟨b0, o0, hix, hld⟩ := RdSl.digAt (OwnAt.rd (s.at 0 rfl)) ok.keys hlt .i64
      refine hix _ ?_
      refine hld _ ?_
      rw [hki]
      refine s.vGet ok hk (i + 2) (j + 2) (by simpa using hi) (by simpa using hj) (by simp [hr]) fun y w3 s => ?_
      rw [hke] at s ⊢
      rw [extr0, extr1]
      obtain ⟨b0, o0, hix, hld⟩ := RdSl.digAt (OwnAt.rd (s.at 1 rfl)) ok.keys hlt .i64
      refine hix _ ?_
      refine hld _ ?_
      rw [hki]
      have hy : OwnAt w3 y 5 1 (bc es[q].2) es[q].2.length := s.at 0 rfl
      obtain ⟨ra, rc, hra⟩ := hy.rd.len
      refine build_i str_entry (fill_entry es[q].1 y hk (by rw [hra]; rfl)) ?_
      rw [f3]
      have hee : (es.take q ++ [es[q]]) = es.take q ++ [(es[q].1, es[q].2)] := rfl
      rw [hee] at htk
      have htl : (es.take q).length = q := by rw [List.length_take]; omega
      generalize es[q] = e at *
      refine s.entAdd (l := e.2) 2 rfl hra hk (by rw [htl]; exact hsl) (by omega) fun t x' w4 s => ?_
      refine nadd (y := 1) (by omega) ?_
      refine hJ (es.length - (q + 1)) _ _ (by omega) ⟨q + 1, x', hs ++ [y], rfl, by omega, by simp [hsl], f0, rfl, f4, rfl, ?_⟩
      have s := s.growR (v := y) (l := e.2) (hs := hs) (ls := valsE (es.take q)) (by simp)
      have ev : valsE (es.take q ++ [(e.1, e.2)]) = valsE (es.take q) ++ [e.2] := by simp [valsE]
      rw [htk, ev]
      exact s.less (fun T hT => by
        rcases List.mem_cons.1 hT with rfl | hT
        · simp
        · simp [hT])
    · obtain rfl : q = es.length := by omega
      rw [List.take_length] at s
      refine hX _ _ _ (by simp) (h2 _ _ _ (h1 _ _ _ ?_))
      show K (fr 3) _
      rw [f3]
      exact h x hs wr (s.drop 0)
end

/-- Entries that are read. -/
structure EntsR (w : World) (x : Value) (hs : List Value) (es : Ents) : Prop where
  rd : RdSl w x 33 (entC es hs) es.length
  rows : RowsL w hs (valsE es)
  k32 : ∀ e ∈ es, e.1.length = 32
theorem EntsR.elem {w : World} {x : Value} {hs : List Value} {es : Ents} (h : EntsR w x hs es) {i : Nat} (hi : i < es.length) (k : IntKind) :
    ∃ b o cs r, (∀ K : VPost, K (.pointer (some ⟨b, o, none⟩)) w → idxW (some (none, 33)) x (.int k i) w K) ∧ RBlk w b cs ∧ o + 33 ≤ cs.length ∧ (cs.drop o).take 33 = bc es[i].1 ++ [r] ∧ RdSl w r 1 (bc es[i].2) es[i].2.length := by
  have hl := h.rows.length
  rw [valsE_length] at hl
  obtain ⟨b, o, cs, h1, h2, h3, h4⟩ := h.rd.elem hi (by decide) k
  rw [entC_get i hi (by omega) h.k32] at h4
  have hr := (h.rows.get i (by omega) (by rw [valsE_length]; exact hi)).1
  have hv : (valsE es)[i]'(by rw [valsE_length]; exact hi) = es[i].2 := by simp [valsE]
  rw [hv] at hr
  exact ⟨b, o, cs, hs[i], h1, h2, h3, h4, hr⟩
theorem EntsR.keep {w w' : World} {x : Value} {hs : List Value} {es : Ents} (h : EntsR w x hs es) (e : Ext [] w w') : EntsR w' x hs es := ⟨h.rd.keep e (by simp), h.rows.keep e (by simp), h.k32⟩

set_option maxHeartbeats 2000000 in
theorem sameE_c {w : World} {K : VPost} {x y : Value} {hs hs2 : List Value} {es es2 : Ents} (hx : EntsR w x hs es) (hy : EntsR w y hs2 es2) (hn : es.length ≤ 1000000) (hv : ∀ e ∈ es, e.2.length ≤ 2 ^ 30) (hK : ∀ w', Ext [] w w' → K (.bool (decide (es = es2))) w') : Calls Tryz.prog 16 #[x, y] w (retK K) := by
  refine c16_calls _ _ w K ?_
  unfold c16
  have hxl : ∀ (w : World) (K : VPost), lenW Tryz.prog (some true) #[32] 3 #[x] w K = K (.int .i64 es.length) w := fun w K => by obtain ⟨a, c, e⟩ := hx.rd.len; rw [e]; exact len_s
  have hyl : ∀ (w : World) (K : VPost), lenW Tryz.prog (some true) #[32] 3 #[y] w K = K (.int .i64 es2.length) w := fun w K => by obtain ⟨a, c, e⟩ := hy.rd.len; rw [e]; exact len_s
  rw [hxl, hyl]
  refine nneq (cond_d (fun hne => ?_) (fun hne => ?_))
  · have := hK w (Ext.refl _ _)
    rw [decide_eq_false (fun e => hne (by rw [e]))] at this
    exact this
  · have hle : es.length = es2.length := by omega
    refine bindX_i fun J0 h0 => bindX_i fun J1 h1 => bindX_i fun J2 h2 => ?_
    refine loop_i (fun m fr wr => ∃ i : Nat, m = es.length - i ∧ i ≤ es.length ∧ es.take i = es2.take i ∧ fr 0 = x ∧ fr 1 = y ∧ fr 5 = .int .i64 i ∧ Ext [] w wr) es.length ?_ ?_
    · exact ⟨0, rfl, by omega, rfl, rfl, rfl, rfl, Ext.refl _ _⟩
    · rintro m fr wr J ⟨i, rfl, hi, heq, f0, f1, f5, e1⟩ hJ hX
      rw [f0, f5, hxl]
      refine nlss (cond_d (fun hlt => ?_) (fun hlt => ?_))
      · rw [f1]
        have e2 := e1.new (Ext.drew [] wr)
        generalize wr.drew = wr at *
        have hlt2 : i < es2.length := by omega
        obtain ⟨b1, o1, cs1, r1, hix1, hb1, hl1, hc1, hr1⟩ := (hx.keep e2).elem hlt .i64
        obtain ⟨b2, o2, cs2, r2, hix2, hb2, hl2, hc2, hr2⟩ := (hy.keep e2).elem hlt2 .i64
        have hk1 := hx.k32 _ (List.getElem_mem hlt)
        have hk2 := hy.k32 _ (List.getElem_mem hlt2)
        have p1 : (cs1.drop (o1 + 0)).take 32 = bc es[i].1 := by rw [at_part hc1 (show 0 + 32 ≤ 33 by decide), List.drop_zero, List.take_left' (by rw [bc_length, hk1])]
        have p2 : (cs2.drop (o2 + 0)).take 32 = bc es2[i].1 := by rw [at_part hc2 (show 0 + 32 ≤ 33 by decide), List.drop_zero, List.take_left' (by rw [bc_length, hk2])]
        have q1 : cs1[o1 + 32]? = some r1 := by rw [at_get hc1 (show 32 < 33 by decide), List.getElem?_append_right (by rw [bc_length, hk1]; exact Nat.le_refl _), bc_length, hk1]; rfl
        have q2 : cs2[o2 + 32]? = some r2 := by rw [at_get hc2 (show 32 < 33 by decide), List.getElem?_append_right (by rw [bc_length, hk2]; exact Nat.le_refl _), bc_length, hk2]; rfl
        refine hix1 _ ?_
        refine off_i (loadN hb1 (by omega) ?_)
        rw [p1]
        refine hix2 _ ?_
        refine off_i (loadN hb2 (by omega) ?_)
        rw [p2]
        refine dig_neq hk1 hk2 ⟨rfl, ?_⟩
        by_cases hke : es[i].1 = es2[i].1
        · rw [decide_eq_true hke, Bool.not_true]
          refine gs_f ?_
          refine gs_f ?_
          refine gs_f (hix1 _ ?_)
          refine gs_f (off_i ?_)
          refine gs_f (load1 hb1 q1 ?_)
          refine gs_f ?_
          refine gs_f ?_
          refine gs_f (hix2 _ ?_)
          refine gs_f (off_i ?_)
          refine gs_f (load1 hb2 q2 ?_)
          refine gs_f ?_
          have hbl := hv _ (List.getElem_mem hlt)
          refine fnW_of (by kernel_rfl) (sameBytes_c hr1 hr2 (by omega) fun w3 e3 => ?_)
          refine gs_f ?_
          refine not_ti ?_
          refine pick_fi ?_
          by_cases hve : es[i].2 = es2[i].2
          · rw [decide_eq_true hve, Bool.not_true]
            refine cndF ?_
            refine nadd (y := 1) (by omega) ?_
            refine hJ (es.length - (i + 1)) _ _ (by omega) ⟨i + 1, rfl, by omega, ?_, f0, f1, rfl, e2.new e3⟩
            rw [List.take_succ_eq_append_getElem hlt, List.take_succ_eq_append_getElem hlt2, heq, Prod.ext hke hve]
          · rw [decide_eq_false hve, Bool.not_false]
            refine cndT ?_
            refine hX _ _ _ (by simp) (h2 _ _ _ (h1 _ _ _ (h0 _ _ _ ?_)))
            have := hK w3 (e2.new e3)
            rw [decide_eq_false (fun e => hve (by subst e; rfl))] at this
            exact this
        · rw [decide_eq_false hke, Bool.not_false]
          iterate 12 refine gs_tf ?_
          refine pick_ti ?_
          refine cndT ?_
          refine hX _ _ _ (by simp) (h2 _ _ _ (h1 _ _ _ (h0 _ _ _ ?_)))
          have := hK wr e2
          rw [decide_eq_false (fun e => hke (by subst e; rfl))] at this
          exact this
      · obtain rfl : i = es.length := by omega
        refine hX _ _ _ (by simp) (h2 _ _ _ (h1 _ _ _ ?_))
        have := hK wr e1
        have he : es = es2 := by
          rw [List.take_length, hle, List.take_length] at heq
          exact heq
        rw [decide_eq_true he] at this
        exact this
end Go.Proofs.YtedebapgmfnflaaGreatDoor

/- A vault's entries on its disk: plain laws. -/
namespace Go.Proofs.YtedebapgmfnflaaGreatDoor
open Go
set_option maxRecDepth 100000

theorem tear_zero (last : Bytes) (x : Nat × Bytes) : tear last x 0 = last := by
  unfold tear
  rw [if_pos (by decide)]
theorem tears_nil : ∀ (ps : List (Nat × Bytes)) (k : Nat) (last : Bytes), tears [] k ps last = last
  | [], _, _ => rfl
  | x :: r, k, last => by
    rw [tears]
    show tears [] (k + 1) r (tear last x 0) = last
    rw [tear_zero, tears_nil r (k + 1) last]
theorem crash_nil (D : DiskM) : (D.crash []).seen = D.last := tears_nil D.pend 0 D.last
theorem write_last (D : DiskM) (q : Int) (x : Bytes) : (D.write q x).1.last = D.last := by
  unfold DiskM.write
  split
  · rfl
  · split <;> rfl
theorem layD_last (D : DiskM) (q : Nat) (ls : List Bytes) : ∀ n, n ≤ ls.length → (layD D q (ls.take n)).1.last = D.last
  | 0, _ => rfl
  | n + 1, hn => by
    have ih := layD_last D q ls n (by omega)
    rw [List.take_succ_eq_append_getElem (show n < ls.length by omega), layD_snoc]
    split
    · exact (write_last _ _ _).trans ih
    · exact ih
theorem layD_lastA (D : DiskM) (q : Nat) (ls : List Bytes) : (layD D q ls).1.last = D.last := by
  have := layD_last D q ls ls.length (Nat.le_refl _)
  rwa [List.take_length] at this

/-- What is stored is loaded again. -/
theorem load_recs {es : Ents} (hk : ∀ e ∈ es, e.1.length = 32) (hv : ∀ e ∈ es, e.2.length ≤ 1000) (hd : (keysE es).Nodup) : ∀ n, n ≤ es.length → ((es.map recE).take n).foldl loadE [] = es.take n
  | 0, _ => rfl
  | n + 1, hn => by
    have hlt : n < es.length := by omega
    have ih := load_recs hk hv hd n (by omega)
    have hm : n < (es.map recE).length := by rw [List.length_map]; exact hlt
    rw [List.take_succ_eq_append_getElem hm, List.foldl_append, ih, List.take_succ_eq_append_getElem hlt, List.getElem_map]
    show loadE (es.take n) (recE es[n]) = _
    have k32 := hk _ (List.getElem_mem hlt)
    have v10 := hv _ (List.getElem_mem hlt)
    have hl : (recE es[n]).length = 32 + es[n].2.length := by show (es[n].1 ++ es[n].2).length = _; rw [List.length_append, k32]
    unfold loadE
    rw [if_pos ⟨by omega, by omega⟩]
    have e1 : (recE es[n]).take 32 = es[n].1 := List.take_left' k32
    have e2 : (recE es[n]).drop 32 = es[n].2 := List.drop_left' k32
    rw [e1, e2]
    unfold noteE
    have hnew : es[n].1 ∉ keysE (es.take n) := by
      intro hm2
      have hnd2 := hd
      rw [← List.take_append_drop n es] at hnd2
      unfold keysE at hnd2 hm2
      rw [List.map_append, List.nodup_append] at hnd2
      exact hnd2.2.2 _ hm2 _ (List.mem_map.2 ⟨es[n], by rw [List.drop_eq_getElem_cons hlt]; exact List.mem_cons_self, rfl⟩) rfl
    rw [if_neg hnew]
theorem load_recsA {es : Ents} (hk : ∀ e ∈ es, e.1.length = 32) (hv : ∀ e ∈ es, e.2.length ≤ 1000) (hd : (keysE es).Nodup) : (es.map recE).foldl loadE [] = es := by
  have := load_recs hk hv hd es.length (Nat.le_refl _)
  rwa [List.take_length, show (es.map recE).take es.length = es.map recE by rw [List.take_of_length_le]; rw [List.length_map]; exact Nat.le_refl _] at this
theorem entsD_of {D : DiskM} {B : AreaM} {es : Ents} (hc : currentA D.seen (D.n / 2) = some B) (hB : B.recs = es.map recE) (ok : EntsOk es) (hd : (keysE es).Nodup) : entsD D = es := by
  unfold entsD
  rw [hc]
  show B.recs.foldl loadE [] = es
  rw [hB]
  exact load_recsA ok.k32 ok.v hd
theorem recE_len {es : Ents} (ok : EntsOk es) : ∀ r ∈ es.map recE, r.length ≤ 1032 := by
  intro r hr
  obtain ⟨e, he, rfl⟩ := List.mem_map.1 hr
  show (e.1 ++ e.2).length ≤ _
  have := ok.k32 e he
  have := ok.v e he
  rw [List.length_append]; omega
theorem EntsOk.take {es : Ents} (ok : EntsOk es) (m : Nat) : EntsOk (es.take m) :=
  ⟨fun e he => ok.k32 e (List.mem_of_mem_take he), fun e he => ok.v e (List.mem_of_mem_take he), by have := ok.few; rw [List.length_take]; omega⟩
theorem EntsOk.filter {es : Ents} (ok : EntsOk es) (keep : List Bytes) : EntsOk (keepE es keep) :=
  ⟨fun e he => ok.k32 e (List.mem_filter.1 he).1, fun e he => ok.v e (List.mem_filter.1 he).1, by have := ok.few; have := List.length_filter_le (fun e : Bytes × Bytes => decide (e.1 ∈ keep)) es; show (es.filter _).length ≤ _; omega⟩
theorem EntsOk.snoc {es : Ents} (ok : EntsOk es) {k l : Bytes} (hk : k.length = 32) (hl : l.length ≤ 1000) (hf : es.length < 100000) : EntsOk (es ++ [(k, l)]) := by
  refine ⟨fun e he => ?_, fun e he => ?_, by rw [List.length_append, List.length_singleton]; omega⟩
  · rcases List.mem_append.1 he with he | he
    · exact ok.k32 e he
    · rw [List.mem_singleton] at he; subst he; exact hk
  · rcases List.mem_append.1 he with he | he
    · exact ok.v e he
    · rw [List.mem_singleton] at he; subst he; exact hl
theorem nodup_snoc {es : Ents} {k l : Bytes} (hd : (keysE es).Nodup) (hn : getE es k = none) : (keysE (es ++ [(k, l)])).Nodup := by
  have e : keysE (es ++ [(k, l)]) = keysE es ++ [k] := by simp [keysE]
  rw [e, List.nodup_append]
  refine ⟨hd, by simp, fun x hx y hy => ?_⟩
  rw [List.mem_singleton] at hy
  subst hy
  rintro rfl
  exact getE_none.1 hn hx
theorem recs_snoc (es : Ents) (k l : Bytes) : (es ++ [(k, l)]).map recE = es.map recE ++ [k ++ l] := by rw [List.map_append]; rfl

/-- A sound vault: its area's history. -/
structure VInv (n p : Nat) (V : VaultH) (a : Nat) (A : AreaH) (D : DiskM) (es : Ents) (sure i : Nat) : Prop where
  vdisk : V.disk = p
  adisk : A.disk = p
  area : V.area = some a
  stuck : A.stuck = false
  hist : Hist D A (es.map recE) sure i
  ok : EntsOk es
  nd : (keysE es).Nodup
  dn : D.n = n
  left : D.left < 0

/-- A vault opened: what it has is what the disk tells. -/
theorem openInv {D : DiskM} {H i n p c m : Nat} {o r : Value} {es : Ents} (hc : Calm D H) (hi : H ≤ i + 1) (hi2 : i ≤ 200) (hn : 4 ≤ D.n) (hdn : D.n = n) (hl : D.left < 0) (ok : EntsOk es) (nd : (keysE es).Nodup) (hz : roomB (D.n / 2) (es.map recE) = 0)
    (hb : (beginD D (firstB D) (highB (secsOf D.seen 0 D.n) + 1) (es.map recE)).2 = true) :
    VInv n p ⟨p, some c, m, o⟩ c ⟨p, firstB D, D.n / 2, highB (secsOf D.seen 0 D.n) + 1, posR (es.map recE) (es.map recE).length, r, false⟩ (beginD D (firstB D) (highB (secsOf D.seen 0 D.n) + 1) (es.map recE)).1 es (es.map recE).length (i + 1) := by
  obtain ⟨z1, z2⟩ := roomB_zero hz
  have hfor := firstB_or D
  have hb2 := beginD_left (D := D) (first := firstB D) (g := highB (secsOf D.seen 0 D.n) + 1) (rs := es.map recE) hl (by omega)
  have hb3 := beginD_n D (firstB D) (highB (secsOf D.seen 0 D.n) + 1) (es.map recE)
  exact { vdisk := rfl, adisk := rfl, area := rfl, stuck := rfl, hist := hc.begun hi (by omega) hn hfor (fun r hr => Nat.le_trans (recE_len ok r hr) (by decide)) z2 r hb, ok := ok, nd := nd, dn := hb3.trans hdn, left := by rw [hb2.1]; exact hl }
/-- Where there is no limit, an area is begun if there is room. -/
theorem begin_any {D : DiskM} {rs : List Bytes} (hl : D.left < 0) (hz : roomB (D.n / 2) rs = 0) : (beginD D (firstB D) (highB (secsOf D.seen 0 D.n) + 1) rs).2 = true := by
  obtain ⟨z1, z2⟩ := roomB_zero hz
  have hfor := firstB_or D
  exact beginD_all hl (by omega)
theorem VInv.pend {n p a : Nat} {V : VaultH} {A : AreaH} {D : DiskM} {es : Ents} {sure i : Nat} (h : VInv n p V a A D es sure i) : D.pend.length ≤ 100 * i := by
  obtain ⟨extra, H, F, W, base, hx⟩ := h.hist
  exact hx.pend
theorem VInv.gens {n p a : Nat} {V : VaultH} {A : AreaH} {D : DiskM} {es : Ents} {sure i : Nat} (h : VInv n p V a A D es sure i) : highB (secsOf D.seen 0 D.n) < 4294967295 := by
  obtain ⟨extra, H, F, W, base, hx⟩ := h.hist
  have := hx.calm.gen hx.facts.2.2.2.2.2.2.2.2.2
  have := hx.facts.2.2.2.2.2.2.2.2.2
  omega
theorem VInv.facts {n p a : Nat} {V : VaultH} {A : AreaH} {D : DiskM} {es : Ents} {sure i : Nat} (h : VInv n p V a A D es sure i) : 1 ≤ A.gen ∧ A.gen ≤ 4294967295 ∧ A.next ≤ A.size ∧ A.first + A.size ≤ D.n ∧ A.size = D.n / 2 ∧ A.next = posR (es.map recE) (es.map recE).length := by
  obtain ⟨extra, H, F, W, base, hx⟩ := h.hist
  obtain ⟨x1, x2, x3, x4, x5, x6, _⟩ := hx.facts
  exact ⟨x1, x2, x3, x4, x6, hx.next⟩
/-- An entry put. -/
theorem VInv.put {n p a : Nat} {V : VaultH} {A : AreaH} {D : DiskM} {es : Ents} {sure i : Nat} (h : VInv n p V a A D es sure i) {k l : Bytes} (hk : k.length = 32) (hl : l.length ≤ 1000) (hf : es.length < 100000) (hno : getE es k = none) (hfit : A.next + needN (k ++ l).length ≤ A.size) (r o' : Value) :
    (layD D (A.first + A.next) (packB A.gen A.next (k ++ l))).2 = true ∧ VInv n p { V with order := o' } a { A with next := A.next + needN (k ++ l).length, recs := r } (layD D (A.first + A.next) (packB A.gen A.next (k ++ l))).1 (es ++ [(k, l)]) sure (i + 1) := by
  obtain ⟨f1, f2, f3, f4, f5, f6⟩ := h.facts
  obtain ⟨extra, H, F, W, base, hx⟩ := h.hist
  have hlen : (k ++ l).length = 32 + l.length := by rw [List.length_append, hk]
  have hnd := need_pos (n := (k ++ l).length) (by omega)
  obtain ⟨t1, t2, t3⟩ := layD_allT (D := D) (q := A.first + A.next) (ls := packB A.gen A.next (k ++ l)) h.left (by rw [packB_length]; omega)
  refine ⟨t1, { vdisk := h.vdisk, adisk := h.adisk, area := h.area, stuck := h.stuck, hist := ?_, ok := h.ok.snoc hk hl hf, nd := nodup_snoc h.nd hno, dn := t3.trans h.dn, left := by rw [t2]; exact h.left }⟩
  rw [recs_snoc]
  exact (hx.add h.stuck (by omega) hfit).1 t1 r
theorem VInv.flush {n p a : Nat} {V : VaultH} {A : AreaH} {D : DiskM} {es : Ents} {sure i : Nat} (h : VInv n p V a A D es sure i) : VInv n p V a A D.flush es (es.map recE).length i := by
  obtain ⟨extra, H, F, W, base, hx⟩ := h.hist
  exact { vdisk := h.vdisk, adisk := h.adisk, area := h.area, stuck := h.stuck, hist := ⟨extra, H, W, W, base, hx.flush⟩, ok := h.ok, nd := h.nd, dn := h.dn, left := h.left }
theorem VInv.seen {n p a : Nat} {V : VaultH} {A : AreaH} {D : DiskM} {es : Ents} {sure i : Nat} (h : VInv n p V a A D es sure i) (hn : n ≤ 4096) : currentA D.seen (D.n / 2) = some ⟨A.first, A.size, A.gen, A.next, es.map recE, true⟩ := by
  obtain ⟨extra, H, F, W, base, hx⟩ := h.hist
  exact hx.seen (by rw [h.dn]; exact hn)
theorem VInv.room {n p a : Nat} {V : VaultH} {A : AreaH} {D : DiskM} {es : Ents} {sure i : Nat} (h : VInv n p V a A D es sure i) : roomB (D.n / 2) (es.map recE) = 0 := by
  obtain ⟨f1, f2, f3, f4, f5, f6⟩ := h.facts
  exact roomB_ok (fun r hr => Nat.le_trans (recE_len h.ok r hr) (by decide)) (by omega)
theorem room_filter {size : Nat} {es : Ents} (keep : List Bytes) (ok : EntsOk es) (h : posR (es.map recE) (es.map recE).length ≤ size) : roomB size ((keepE es keep).map recE) = 0 := by
  refine roomB_ok (fun r hr => Nat.le_trans (recE_len (ok.filter keep) r hr) (by decide)) (Nat.le_trans ?_ h)
  unfold posR
  rw [List.take_length, List.take_length]
  have : ∀ l : Ents, (((keepE l keep).map recE).map fun r => needN r.length).sum ≤ ((l.map recE).map fun r => needN r.length).sum := by
    intro l
    induction l with
    | nil => exact Nat.le_refl _
    | cons x r ih =>
      unfold keepE
      by_cases hx : x.1 ∈ keep
      · rw [List.filter_cons_of_pos (by simpa using hx)]
        simp only [List.map_cons, List.sum_cons]
        unfold keepE at ih
        omega
      · rw [List.filter_cons_of_neg (by simpa using hx)]
        simp only [List.map_cons, List.sum_cons]
        unfold keepE at ih
        omega
  have := this es
  omega
end Go.Proofs.YtedebapgmfnflaaGreatDoor

/- law06's alive: its walk. -/
namespace Go.Proofs.YtedebapgmfnflaaGreatDoor
open Go
set_option maxRecDepth 100000

section
variable {S : List Nat} {w0 w : World} {L R : List Res} {K : VPost} {F : List Nat} {D : DiskM}
/-- Put of a new key, where there is room. -/
theorem Sep.vPutNew {n p v a : Nat} {V : VaultH} {A : AreaH} {x : Value} {k l : Bytes} {es : Ents} {hv hs : List Value} {sure i : Nat} (s : Sep S w0 w (rV v V :: rM V.map (mapE es hv) :: rG V.order (keysE es) :: rA a A 89 :: rO A.recs 36 1 hs (es.map recE).length :: rDk p F D :: L) R) (inv : VInv n p V a A D es sure i) (hi : i ≤ 200) (hn : n ≤ 4096)
    (hr : rL hv (valsE es) ∈ R) (hrs : rL hs (es.map recE) ∈ R) (hx : Reads L R x l) (hk : k.length = 32) (hl : l.length ≤ 1000) (hf : es.length < 100000) (hno : getE es k = none) (hfit : A.next + needN (k ++ l).length ≤ A.size)
    (h : ∀ F' V' A' D' hv' hs' w', VInv n p V' a A' D' (es ++ [(k, l)]) sure (i + 1) → A'.size = A.size → A'.next = A.next + needN (k ++ l).length → D'.last = D.last →
      Sep S w0 w' (rV v V' :: rM V'.map (mapE (es ++ [(k, l)]) hv') :: rG V'.order (keysE (es ++ [(k, l)])) :: rA a A' 89 :: rO A'.recs 36 1 hs' ((es ++ [(k, l)]).map recE).length :: rDk p F' D' :: L) (rL hv' (valsE (es ++ [(k, l)])) :: rL hs' ((es ++ [(k, l)]).map recE) :: R) → K (.int .i64 0) w') :
    fnW Tryz.prog 15 #[ptrA v, kv k, x] w K := by
  obtain ⟨f1, f2, f3, f4, f5, f6⟩ := inv.facts
  have hpd := inv.pend
  have hdn := inv.dn
  have had := inv.adisk
  have hfw := inv.ok.few
  have s : Sep S w0 w (rV v V :: rM V.map (mapE es hv) :: rG V.order (keysE es) :: rA a A 89 :: rO A.recs 36 1 hs (es.map recE).length :: rDk A.disk F D :: L) R := by rw [had]; exact s
  refine s.vPut (L' := L) inv.ok hr hx (fun T hT => by simp [hT]) hk (fun h1 => absurd h1 (by omega)) (fun _ old ho => by rw [hno] at ho; cases ho) (fun _ ho => by rw [hno] at ho; cases ho) (fun _ _ hva => by rw [inv.area] at hva; cases hva)
    (.inr ⟨inv.area, rfl, hrs, inv.stuck, f1, f2, f3, by omega, by omega, by rw [List.length_map]; omega⟩)
    (fun _ _ _ h1 => by omega) (fun _ _ _ _ hb => ?_) (fun _ _ _ _ hb F' o' hv' r' h' w' s => ?_)
  · have := (inv.put hk hl hf hno hfit (.slice none 0 0) (.slice none 0 0)).1
    rw [this] at hb
    cases hb
  · have hp := (inv.put hk hl hf hno hfit r' o').2
    have e := recs_snoc es k l
    refine h F' { V with order := o' } { A with next := A.next + needN (k ++ l).length, recs := r' } _ hv' (hs ++ [h']) w' hp rfl rfl (layD_lastA _ _ _) ?_
    rw [e]
    rw [had] at s
    have s : Sep S w0 w' (rV v { V with order := o' } :: rM V.map (mapE (es ++ [(k, l)]) hv') :: rG o' (keysE (es ++ [(k, l)])) :: rA a { A with next := A.next + needN (k ++ l).length, recs := r' } 89 :: rO r' 36 1 (hs ++ [h']) (es.map recE ++ [k ++ l]).length :: rDk p F' (layD D (A.first + A.next) (packB A.gen A.next (k ++ l))).1 :: L) (rL hv' (valsE (es ++ [(k, l)])) :: rL (hs ++ [h']) (es.map recE ++ [k ++ l]) :: R) := by
      have hA : ({ disk := p, first := A.first, size := A.size, gen := A.gen, next := A.next + needN (k ++ l).length, recs := r', stuck := A.stuck } : AreaH) = { A with next := A.next + needN (k ++ l).length, recs := r' } := by rw [← had]
      rw [hA] at s
      exact s
    exact s
theorem Sep.nilB (s : Sep S w0 w L R) : Sep S w0 w L (rR (.slice none 0 0) 1 (bc []) ([] : Bytes).length :: R) := s.addR (T := rR (.slice none 0 0) 1 (bc []) ([] : Bytes).length) ⟨rfl, .inl ⟨rfl, _, _, rfl⟩⟩ (by intro U _ b _ hm; simp [rR, rdB, bc] at hm)
theorem Sep.nilG (s : Sep S w0 w L R) : Sep S w0 w L (rGR (.slice none 0 0) [] :: R) := s.addR (T := rGR (.slice none 0 0) []) ⟨rfl, .inl ⟨rfl, _, _, rfl⟩⟩ (by intro U _ b _ hm; simp [rR, rdB, bc] at hm)

/-- Open of a disk without a limit. -/
theorem Sep.vOpenInv {n p H i : Nat} {es : Ents} (s : Sep S w0 w (rDk p F D :: L) R) (hc : Calm D H) (hi : H ≤ i + 1) (hi2 : i ≤ 200) (h4 : 4 ≤ D.n) (hdn : D.n = n) (hn : n ≤ 4096) (hl : D.left < 0) (hpd : D.pend.length ≤ 40000) (he : entsD D = es) (ok : EntsOk es) (nd : (keysE es).Nodup) (hz : roomB (D.n / 2) (es.map recE) = 0)
    (hrn : ∀ B, currentA D.seen (D.n / 2) = some B → B.recs.length ≤ 100000 ∧ ∀ r ∈ B.recs, r.length ≤ 2 ^ 30)
    (h : ∀ F' v V c A D' hv hs w', VInv n p V c A D' es (es.map recE).length (i + 1) → A.size = D.n / 2 → A.next = posR (es.map recE) (es.map recE).length → Sep S w0 w' (rV v V :: rM V.map (mapE es hv) :: rG V.order (keysE es) :: rA c A 89 :: rO A.recs 36 1 hs (es.map recE).length :: rDk p F' D' :: L) (rL hv (valsE es) :: rL hs (es.map recE) :: R) → K (.tuple #[ptrA v, .int .i64 0]) w') :
    fnW Tryz.prog 8 #[ptrA p] w K := by
  have hg := hc.gen (by omega)
  have hb := begin_any hl hz
  subst he
  refine s.vOpen h4 (by omega) (by omega) (by omega) hrn nd hz hb fun F' v c m o hv r hs w' s => ?_
  exact h F' v _ c _ _ hv hs w' (openInv (m := m) (o := o) (c := c) (r := r) (p := p) hc hi hi2 h4 hdn hl ok nd hz hb) rfl rfl s
/-- Keep, without a limit. -/
theorem Sep.vKeepInv {n p v a : Nat} {V : VaultH} {A : AreaH} {x : Value} {es : Ents} {hv hs : List Value} {keep : List Bytes} {sure i : Nat} (s : Sep S w0 w (rV v V :: rM V.map (mapE es hv) :: rG V.order (keysE es) :: rA a A 89 :: rO A.recs 36 1 hs (es.map recE).length :: rDk p F D :: L) R) (inv : VInv n p V a A D es sure i) (hi : i ≤ 200) (h4 : 4 ≤ n) (hn : n ≤ 4096)
    (hr : rL hv (valsE es) ∈ R) (hx : rGR x keep ∈ R) (h32 : ∀ l ∈ keep, l.length = 32) (hkn : keep.length ≤ 100000)
    (h : ∀ F' V' c A' D' hv' hs' w', VInv n p V' c A' D' (keepE es keep) ((keepE es keep).map recE).length (i + 1) → Sep S w0 w' (rV v V' :: rM V'.map (mapE (keepE es keep) hv') :: rG V'.order (keysE (keepE es keep)) :: rA c A' 89 :: rO A'.recs 36 1 hs' ((keepE es keep).map recE).length :: rDk p F' D' :: L) (rL hv' (valsE (keepE es keep)) :: rL hs' ((keepE es keep).map recE) :: R) → K (.int .i64 0) w') :
    fnW Tryz.prog 27 #[ptrA v, x] w K := by
  obtain ⟨f1, f2, f3, f4, f5, f6⟩ := inv.facts
  have hpd := inv.pend
  have hdn := inv.dn
  have hvd := inv.vdisk
  have hgl := inv.gens
  have hz := room_filter (size := D.n / 2) keep inv.ok (by omega)
  have hb := begin_any inv.left hz
  have s : Sep S w0 w (rV v V :: rM V.map (mapE es hv) :: rG V.order (keysE es) :: rDk V.disk F D :: L) R := by rw [hvd]; exact (s.drop 3).drop 3
  obtain ⟨extra, H, F0, W, base, hxx⟩ := inv.hist
  refine s.vKeep inv.ok inv.nd hr hx h32 hkn (by omega) (by omega) (by omega) hgl hz (fun hb' => by rw [hb] at hb'; cases hb') (fun _ F' c m o hv' r hs' w' s => ?_)
  rw [hvd] at s
  exact h F' _ c _ _ hv' hs' w' (openInv (m := m) (o := o) (c := c) (r := r) (p := p) hxx.calm hxx.Hi hi (by omega) hdn inv.left (inv.ok.filter keep) (nodup_keep inv.nd keep) hz hb) s
end

theorem VInv.step {n p a : Nat} {V : VaultH} {A : AreaH} {D : DiskM} {es : Ents} {sure i : Nat} (h : VInv n p V a A D es sure i) : VInv n p V a A D es sure (i + 1) := by
  obtain ⟨extra, H, F, W, base, hx⟩ := h.hist
  exact { h with hist := ⟨extra, H, F, W, base, hx.step⟩ }
/-- What Put answers, where there is no limit. -/
def putE (es : Ents) (free : Nat) (k l : Bytes) : Int := if 1000 < l.length then 10 else
  match getE es k with
  | some old => if old = l then 0 else 13
  | none => if free < needN (k ++ l).length then 15 else 0
/-- Is an entry new, and is there room? -/
def putNew (es : Ents) (free : Nat) (k l : Bytes) : Prop := l.length ≤ 1000 ∧ getE es k = none ∧ needN (k ++ l).length ≤ free

section
variable {S : List Nat} {w0 w : World} {L R : List Res} {K : VPost} {F : List Nat} {D : DiskM}
set_option maxHeartbeats 1000000 in
theorem Sep.vPutInv {n p v a : Nat} {V : VaultH} {A : AreaH} {x : Value} {k l : Bytes} {es : Ents} {hv hs : List Value} {sure i : Nat} (s : Sep S w0 w (rV v V :: rM V.map (mapE es hv) :: rG V.order (keysE es) :: rA a A 89 :: rO A.recs 36 1 hs (es.map recE).length :: rDk p F D :: L) R) (inv : VInv n p V a A D es sure i) (hi : i ≤ 200) (hn : n ≤ 4096)
    (hr : rL hv (valsE es) ∈ R) (hrs : rL hs (es.map recE) ∈ R) (hx : Reads L R x l) (hk : k.length = 32) (hf : es.length < 100000)
    (hold : ¬ putNew es (A.size - A.next) k l → ∀ w', Sep S w0 w' (rV v V :: rM V.map (mapE es hv) :: rG V.order (keysE es) :: rA a A 89 :: rO A.recs 36 1 hs (es.map recE).length :: rDk p F D :: L) R → K (.int .i64 (putE es (A.size - A.next) k l)) w')
    (hnew : putNew es (A.size - A.next) k l → ∀ F' V' A' D' hv' hs' w', VInv n p V' a A' D' (es ++ [(k, l)]) sure (i + 1) → A'.size = A.size → A'.next = A.next + needN (k ++ l).length → D'.last = D.last →
      Sep S w0 w' (rV v V' :: rM V'.map (mapE (es ++ [(k, l)]) hv') :: rG V'.order (keysE (es ++ [(k, l)])) :: rA a A' 89 :: rO A'.recs 36 1 hs' ((es ++ [(k, l)]).map recE).length :: rDk p F' D' :: L) (rL hv' (valsE (es ++ [(k, l)])) :: rL hs' ((es ++ [(k, l)]).map recE) :: R) → K (.int .i64 0) w') :
    fnW Tryz.prog 15 #[ptrA v, kv k, x] w K := by
  obtain ⟨f1, f2, f3, f4, f5, f6⟩ := inv.facts
  by_cases hp : putNew es (A.size - A.next) k l
  · exact s.vPutNew inv hi hn hr hrs hx hk hp.1 hf hp.2.1 (by have := hp.2.2; omega) (hnew hp)
  · replace hold := hold hp
    have hpd := inv.pend
    have hdn := inv.dn
    have had := inv.adisk
    have hfw := inv.ok.few
    have back : ∀ {w' : World}, Sep S w0 w' (rV v V :: rM V.map (mapE es hv) :: rG V.order (keysE es) :: rA a A 89 :: rO A.recs 36 1 hs (es.map recE).length :: rDk A.disk F D :: L) R → Sep S w0 w' (rV v V :: rM V.map (mapE es hv) :: rG V.order (keysE es) :: rA a A 89 :: rO A.recs 36 1 hs (es.map recE).length :: rDk p F D :: L) R := fun s => by rw [← had]; exact s
    have s : Sep S w0 w (rV v V :: rM V.map (mapE es hv) :: rG V.order (keysE es) :: rA a A 89 :: rO A.recs 36 1 hs (es.map recE).length :: rDk A.disk F D :: L) R := by rw [had]; exact s
    refine s.vPut (L' := L) inv.ok hr hx (fun T hT => by simp [hT]) hk (fun h1 w' s => ?_) (fun h1 old ho hne w' s => ?_) (fun h1 ho w' s => ?_) (fun _ _ hva => by rw [inv.area] at hva; cases hva)
      (.inr ⟨inv.area, rfl, hrs, inv.stuck, f1, f2, f3, by omega, by omega, by rw [List.length_map]; omega⟩)
      (fun h1 ho _ h2 w' s => ?_) (fun h1 ho _ h2 _ => absurd ⟨by omega, ho, by omega⟩ hp) (fun h1 ho _ h2 _ => absurd ⟨by omega, ho, by omega⟩ hp)
    · have := hold w' (back s)
      unfold putE at this
      rw [if_pos h1] at this
      exact this
    · have := hold w' (back s)
      unfold putE at this
      rw [if_neg h1, ho] at this
      simp only [if_neg hne] at this
      exact this
    · have := hold w' (back s)
      unfold putE at this
      rw [if_neg h1, ho] at this
      simp only [if_true] at this
      exact this
    · have := hold w' (back s)
      unfold putE at this
      rw [if_neg h1, ho] at this
      simp only [if_pos h2] at this
      exact this
end

theorem fresh_ents {n : Nat} (h : 2 ≤ n) : entsD (DiskM.fresh n) = [] := by unfold entsD; rw [fresh_none h]

set_option maxHeartbeats 4000000 in
theorem alive6_c {w : World} {K : VPost} (hK : ∀ w', Ext [] w w' → K (.bool true) w') : Calls Tryz.prog 5 #[] w (retK K) := by
  refine c5_calls w K ?_
  unfold c5
  refine fnW_of (by kernel_rfl) (new_c 20 (fun h => absurd (by decide) h) fun _ p F w1 hd e hf => ?_)
  have hd : Disk w1 p F (DiskM.fresh 20) := hd
  have hok := hd.okD
  have s := (Sep.nil w).add (T := rDk p F (DiskM.fresh 20)) hd e hf
  rw [extr0, extr1]
  refine nneq (x := 0) (y := 0) ?_
  refine gs_f ?_
  refine gs_f ?_
  rw [ptr_eql_nil ptr_disk]
  refine pick_fi ?_
  refine cndF ?_
  refine s.vOpenInv (n := 20) (H := 0) (i := 0) (es := []) (Calm.fresh hok) (by decide) (by decide) (by decide) rfl (by decide) (by decide) (by decide) (fresh_ents (by decide)) ⟨by simp, by simp, by simp⟩ (by simp [keysE]) (by decide) (fun B hB => by rw [fresh_none (n := 20) (by decide)] at hB; cases hB) fun F1 v V c A D1 hv hs w2 inv hsz hnx s => ?_
  have hsz : A.size = 10 := hsz
  have hnx : A.next = 1 := hnx
  rw [extr0, extr1]
  refine nneq (x := 0) (y := 0) ?_
  refine gs_f ?_
  refine gs_f ?_
  rw [ptr_eql_nil ptr_vault]
  refine pick_fi ?_
  refine cndF ?_
  refine fnW_of (by kernel_rfl) (key_c 1 fun w3 e3 => ?_)
  have s := s.ext0 e3
  refine s.litB [5] rfl (by decide) fun vb w4 s _ _ => ?_
  have hvb : RdSl w4 vb 1 (bc [5]) ([5] : Bytes).length := OwnAt.rd (s.at 0 rfl)
  have s := s.freeze 0 rfl (T' := rR vb 1 (bc [5]) ([5] : Bytes).length) hvb (fun b hb => rdB_slB (ys := bc [5]) hb)
  refine s.vPutNew (l := [5]) inv (by decide) (by decide) (by simp) (by simp) (.inl (by simp)) (keyD_len 1) (by decide) (by decide) rfl (by rw [hsz, hnx]; decide) fun F2 V2 A2 D2 hv2 hs2 w5 inv2 hsz2 hnx2 _ s => ?_
  refine fnW_of (by kernel_rfl) (key_c 1 fun w6 e6 => ?_)
  have s := s.ext0 e6
  refine s.litB [6] rfl (by decide) fun vb6 w7 s _ _ => ?_
  have hvb : RdSl w7 vb6 1 (bc [6]) ([6] : Bytes).length := OwnAt.rd (s.at 0 rfl)
  have s := s.freeze 0 rfl (T' := rR vb6 1 (bc [6]) ([6] : Bytes).length) hvb (fun b hb => rdB_slB (ys := bc [6]) hb)
  refine s.vPutInv (k := keyD 1) (l := [6]) inv2 (by decide) (by decide) (by simp) (by simp) (.inl (by simp)) (keyD_len 1) (by decide) (fun _ w8 s => ?_) (fun h => absurd h.2.1 (by decide))
  have hpe : putE ([] ++ [(keyD 1, [5])]) (A2.size - A2.next) (keyD 1) [6] = 13 := rfl
  rw [hpe]
  refine s.vFlush (A := A2) 0 3 5 rfl inv2.area rfl (by show some (rDk p F2 D2) = _; rw [inv2.adisk]) fun F3 w9 s => ?_
  have inv3 := inv2.flush
  have s : Sep [] w w9 (rV v V2 :: rM V2.map (mapE ([] ++ [(keyD 1, [5])]) hv2) :: rG V2.order (keysE ([] ++ [(keyD 1, [5])])) :: rA c A2 89 :: rO A2.recs 36 1 hs2 (([] ++ [(keyD 1, [5])] : Ents).map recE).length :: rDk A2.disk F3 D2.flush :: []) _ := s
  rw [inv2.adisk] at s
  have hseen := inv3.seen (by decide)
  have hcl3 : D2.flush.last = D2.flush.seen := rfl
  generalize D2.flush = D3 at *
  refine fnW_of (by kernel_rfl) (key_c 2 fun w10 e10 => ?_)
  have s := (s.ext0 e10).nilB
  have hno2 : getE ([] ++ [(keyD 1, [5])]) (keyD 2) = none := by decide
  refine s.vPutNew (k := keyD 2) (l := []) inv3 (by decide) (by decide) (by simp) (by simp) (.inl (by simp)) (keyD_len 2) (by decide) (by decide) hno2 (by rw [hsz2, hnx2, hsz, hnx]; decide) fun F4 V4 A4 D4 hv4 hs4 w11 inv4 hsz4 hnx4 hlast4 s => ?_
  obtain ⟨ex4, H4, F04, W4, b4, hx4⟩ := inv4.hist
  have hpd4 := inv4.pend
  refine s.dcrash 5 rfl [] (by simp) (by omega) fun e5 F5 w12 s => ?_
  have s : Sep [] w w12 (rV v V4 :: rM V4.map (mapE (([] ++ [(keyD 1, [5])]) ++ [(keyD 2, [])]) hv4) :: rG V4.order (keysE (([] ++ [(keyD 1, [5])]) ++ [(keyD 2, [])])) :: rA c A4 89 :: rO A4.recs 36 1 hs4 ((([] ++ [(keyD 1, [5])]) ++ [(keyD 2, [])] : Ents).map recE).length :: rDk p F5 (D4.crash []) :: []) _ := s
  have hcalm5 := hx4.calm.crash hx4.facts.2.2.2.2.2.2.2.2.2 []
  have hs5 : (D4.crash []).seen = D3.seen := by rw [crash_nil, hlast4, hcl3]
  have hn5 : (D4.crash []).n = 20 := inv4.dn
  have hn3 : D3.n = 20 := inv3.dn
  have hl5 : (D4.crash []).left < 0 := by show (-1 : Int) < 0; decide
  have hp5 : (D4.crash []).pend.length ≤ 40000 := by show 0 ≤ 40000; decide
  generalize D4.crash [] = D5 at *
  have hcur5 : currentA D5.seen (D5.n / 2) = some ⟨A2.first, A2.size, A2.gen, A2.next, ([] ++ [(keyD 1, [5])] : Ents).map recE, true⟩ := by rw [hs5, hn5, ← hn3]; exact hseen
  have hents5 : entsD D5 = [] ++ [(keyD 1, [5])] := entsD_of hcur5 rfl inv3.ok inv3.nd
  have s : Sep [] w w12 (rDk p F5 D5 :: rV v V4 :: rM V4.map (mapE (([] ++ [(keyD 1, [5])]) ++ [(keyD 2, [])]) hv4) :: rG V4.order (keysE (([] ++ [(keyD 1, [5])]) ++ [(keyD 2, [])])) :: []) _ := (((s.drop 3).drop 3).toFront 3 rfl)
  refine s.vOpenInv (n := 20) (H := H4) (i := 3) (es := [] ++ [(keyD 1, [5])]) hcalm5 hx4.Hi (by decide) (by omega) hn5 (by decide) hl5 hp5 hents5 inv3.ok inv3.nd (by rw [hn5]; decide) (fun B hB => by
    rw [hcur5] at hB
    obtain rfl := Option.some.inj hB
    exact ⟨by dsimp only; decide, fun r hr => Nat.le_trans (recE_len inv3.ok r hr) (by decide)⟩) fun F6 u U c6 A6 D6 hv6 hs6 w13 inv6 hsz6 hnx6 s => ?_
  rw [hn5] at hsz6
  have hsz6 : A6.size = 10 := hsz6
  have hnx6 : A6.next = 3 := hnx6
  rw [extr0, extr1]
  refine nneq (x := 0) (y := 0) ?_
  refine gs_f ?_
  refine gs_f ?_
  rw [ptr_eql_nil ptr_vault]
  refine pick_fi ?_
  refine cndF ?_
  refine fnW_of (by kernel_rfl) (key_c 1 fun w14 e14 => ?_)
  have s := s.ext0 e14
  refine s.vGet inv6.ok (keyD_len 1) 0 1 rfl rfl (by simp) fun x1 w15 s => ?_
  rw [extr0, extr1]
  refine fnW_of (by kernel_rfl) (key_c 2 fun w16 e16 => ?_)
  have s := s.ext0 e16
  refine s.vGet inv6.ok (keyD_len 2) 1 2 rfl rfl (by simp) fun x2 w17 s => ?_
  rw [extr0, extr1]
  have hg1 : getE ([] ++ [(keyD 1, [5])]) (keyD 1) = some [5] := by decide
  rw [hg1] at s ⊢
  rw [hno2] at s ⊢
  have s := s.drop 0
  have s : Sep [] w w17 (rDb x1 [5] :: rV u U :: rM U.map (mapE ([] ++ [(keyD 1, [5])]) hv6) :: rG U.order (keysE ([] ++ [(keyD 1, [5])])) :: rA c6 A6 89 :: rO A6.recs 36 1 hs6 (([] ++ [(keyD 1, [5])] : Ents).map recE).length :: rDk p F6 D6 :: rV v V4 :: rM V4.map (mapE (([] ++ [(keyD 1, [5])]) ++ [(keyD 2, [])]) hv4) :: rG V4.order (keysE (([] ++ [(keyD 1, [5])]) ++ [(keyD 2, [])])) :: []) _ := s
  rw [ieql]
  refine gs_t ?_
  refine gs_t ?_
  rw [ieql]
  refine pick_ti ?_
  refine gs_t ?_
  refine gs_t ?_
  rw [ieql]
  refine pick_ti ?_
  refine gs_t ?_
  refine gs_t ?_
  rw [ieql]
  refine pick_ti ?_
  refine gs_t ?_
  refine pick_ti ?_
  refine gs_t ?_
  refine gs_t ?_
  refine not_ti ?_
  refine pick_ti ?_
  refine gs_t ?_
  refine gs_t ?_
  refine s.litB [5] rfl (by decide) fun ve w18 s _ _ => ?_
  refine gs_t ?_
  refine fnW_of (by kernel_rfl) (sameBytes_c (l := [5]) (l' := [5]) (OwnAt.rd (s.at 1 rfl)) (OwnAt.rd (s.at 0 rfl)) (by decide) fun w19 e19 => ?_)
  have s := ((s.ext0 e19).drop 0).drop 0
  refine pick_ti ?_
  refine gs_t ?_
  refine gs_t (s.vLen 6 8 rfl rfl ?_)
  refine gs_t ?_
  rw [ieql]
  refine pick_ti ?_
  refine gs_t ?_
  refine gs_t (s.vLen 0 2 rfl rfl ?_)
  refine gs_t ?_
  rw [ieql]
  refine pick_ti ?_
  refine gs_t ?_
  refine gs_t (s.vSound 0 rfl ?_)
  rw [inv6.area]
  refine pick_ti ?_
  refine gs_t ?_
  refine gs_t (s.vKeys inv6.ok 0 2 rfl rfl fun xk w20 s => ?_)
  refine gs_t ?_
  rw [(OwnAt.rd (s.at 0 rfl)).lenw]
  refine gs_t ?_
  rw [ieql]
  refine pick_ti ?_
  have s := s.drop 0
  refine gs_t ?_
  refine gs_t (s.vFree (A := A6) 0 3 rfl inv6.area rfl (by omega) (by omega) fun w21 s => ?_)
  refine gs_t ?_
  rw [hsz6, hnx6, igtr]
  refine pick_ti ?_
  refine gs_t ?_
  have s := s.nilG
  refine gs_t (s.vKeepInv (keep := []) inv6 (by decide) (by decide) (by decide) (by simp) (by simp) (by simp) (by decide) fun F7 U7 c7 A7 D7 hv7 hs7 w22 inv7 s => ?_)
  refine gs_t ?_
  rw [ieql]
  refine pick_ti ?_
  refine gs_t ?_
  refine gs_t (s.vLen 0 2 rfl rfl ?_)
  refine gs_t ?_
  rw [ieql]
  refine pick_ti ?_
  exact hK w22 s.ext
end Go.Proofs.YtedebapgmfnflaaGreatDoor

/- The vault's calls that came in; ref06's Get, Need: walks. -/
namespace Go.Proofs.YtedebapgmfnflaaGreatDoor
open Go Go.ChangeShapes Go.WideShapes
set_option maxRecDepth 100000

structure CallV where
  what : Int
  n : Int
  key : UInt8
  bs : Bytes
  bv : Value
def callVCells (c : CallV) : List Value := [.int .i64 c.what, .int .i64 c.n, Go.Proofs.YtedebapgmfnflaaGreatDoor.bv c.key, c.bv]
structure CallV.good (w : World) (c : CallV) : Prop where
  what : i64ok c.what
  num : i64ok c.n
  rd : RdSl w c.bv 1 (bc c.bs) c.bs.length
  cap : capOk c.bv
  len : c.bs.length ≤ 140737488351232
structure IsCallsV (w : World) (v : Value) (l : List CallV) : Prop where
  rd : RdSl w v 4 (l.flatMap callVCells) l.length
  good : ∀ c ∈ l, c.good w
  len : l.length ≤ 140737488351232
theorem IsCallsV.keep {w w' : World} {v : Value} {l : List CallV} (h : IsCallsV w v l) (e : Ext [] w w') : IsCallsV w' v l :=
  ⟨h.rd.keep e (by simp), fun c hc => let g := h.good c hc; ⟨g.what, g.num, g.rd.keep e (by simp), g.cap, g.len⟩, h.len⟩
theorem IsCallsV.elem {w : World} {v : Value} {l : List CallV} (h : IsCallsV w v l) {i : Nat} (hi : i < l.length) (k : IntKind) :
    ∃ b o cs, (∀ K : VPost, K (.pointer (some ⟨b, o, none⟩)) w → idxW (some (none, 4)) v (.int k i) w K) ∧ RBlk w b cs ∧ o + 4 ≤ cs.length ∧ (cs.drop o).take 4 = callVCells l[i] := by
  obtain ⟨b, o, cs, h1, h2, h3, h4⟩ := h.rd.elem hi (by decide) k
  rw [flat_get callVCells 4 l (fun c _ => rfl) i hi] at h4
  exact ⟨b, o, cs, h1, h2, h3, h4⟩
theorem trod_callsV {H : Type} {enc : TypeId × Value → H} {w : World} {sp : Nat → Bool} {held : Bool} {v : Value} {x : DataW H × List MemPlace} {fuel : Nat} (h : DataW.trod enc Tryz.prog w 0 sp held fuel 22 [v] = some x) (hfit : fitsD Tryz.prog 22 x.1) :
    ∃ l, IsCallsV w v l := by
  obtain ⟨ys, m, hrd, hm, hel⟩ := trod_sl (by kernel_rfl : Tryz.prog.underlying 22 = some (.slice 38)) (by kernel_rfl : Tryz.prog.cellsOf 38 = 4) (by decide) h hfit
  have hby : Tryz.prog.bytesOf 38 = 48 := by kernel_rfl
  rw [hby, reach_eq] at hm
  have hint : Tryz.prog.underlying 3 = some (.int .i64) := by kernel_rfl
  have hel' : ∀ i, i < m → ∃ c : CallV, c.good w ∧ (ys.drop (i * 4)).take 4 = callVCells c := by
    intro i hi
    obtain ⟨y, f, hy, hyf⟩ := hel i hi
    obtain ⟨hl, hf⟩ := trod_fields (by kernel_rfl : strF Tryz.prog 38 = some [(3, 0), (3, 1), (5, 2), (36, 3)]) hy hyf
    have hc1 : Tryz.prog.cellsOf 3 = 1 := by kernel_rfl
    have hc8 : Tryz.prog.cellsOf 5 = 1 := by kernel_rfl
    have hcs : Tryz.prog.cellsOf 36 = 1 := by kernel_rfl
    have hcc : Tryz.prog.cellsOf 38 = 4 := by kernel_rfl
    rw [hcc] at hl
    generalize (ys.drop (i * 4)).take 4 = cs at *
    obtain ⟨y0, n0, h0, k0⟩ := hf 0 _ _ rfl
    obtain ⟨y1, n1, h1, k1⟩ := hf 1 _ _ rfl
    obtain ⟨y2, n2, h2, k2⟩ := hf 2 _ _ rfl
    obtain ⟨y3, n3, h3, k3⟩ := hf 3 _ _ rfl
    rw [hc1] at h0 h1
    rw [hc8] at h2
    rw [hcs] at h3
    match cs, hl with
    | [a, b, c, d], _ =>
      obtain ⟨a0, e0, _, g0⟩ := DataW.trod_int hint h0
      obtain ⟨a1, e1, _, g1⟩ := DataW.trod_int hint h1
      obtain ⟨a2, e2, _, g2⟩ := DataW.trod_int und_u8 h2
      have h3 : DataW.trod enc Tryz.prog w 0 sp held n3 36 [d] = some y3 := h3
      obtain ⟨pk, g3, g4⟩ := trod_bytes und_u8s (by kernel_rfl) (by kernel_rfl) (by kernel_rfl) h3 k3
      obtain ⟨q, hq⟩ := cells_bytes (cs := [Value.int .u8 a2]) (by
        intro y hy
        rw [List.mem_singleton] at hy
        exact ⟨a2, hy, g2⟩)
      have e0 : [a] = [Value.int .i64 a0] := e0
      have e1 : [b] = [Value.int .i64 a1] := e1
      have e2 : [c] = [Value.int .u8 a2] := e2
      match q, hq with
      | [u], hq =>
        have hu : Value.int .u8 a2 = Go.Proofs.YtedebapgmfnflaaGreatDoor.bv u := by simpa [bc] using hq
        refine ⟨⟨a0, a1, u, pk, d⟩, ⟨wf_i64 g0, wf_i64 g1, g3, trod_cap und_u8s h3, g4⟩, ?_⟩
        simp only [List.cons.injEq, and_true] at e0 e1 e2
        rw [e0, e1, e2, hu]
        rfl
      | [], hq => simp [bc] at hq
      | _ :: _ :: _, hq => simp [bc] at hq
  obtain ⟨l, h1, h2, h3⟩ := flat_cut callVCells 4 (fun c => c.good w) m ys hrd.1 hel'
  subst h1
  subst h3
  exact ⟨l, hrd, h2, by omega⟩
theorem open_callsV {W : World} {base : Nat} {v : Value} (h : Value.okWide Tryz.prog W .any base 22 v ∧ Came W 22 v) : ∃ l, IsCallsV W v l := by
  obtain ⟨h1, H, enc, fuel, x, h2, h3⟩ := h
  rw [open_sl (by kernel_rfl : Tryz.prog.underlying 22 = some (.slice 38)) h1] at h2
  exact trod_callsV h2 h3

theorem great6_c {w : World} {K : VPost} {v : Value} {l : List CallV} (h : IsCallsV w v l) (hT : K (.bool true) w) (hF : l.length ≤ 40 → (∀ c ∈ l, c.bs.length ≤ 3000) → K (.bool false) w) :
    Calls Tryz.prog 6 #[v] w (retK K) := by
  refine c6_calls _ w K ?_
  unfold c6
  obtain ⟨a, c, hva⟩ := h.rd.len
  have hl1 : ∀ (w : World) (K : VPost), lenW Tryz.prog (some true) #[22] 3 #[v] w K = K (.int .i64 l.length) w := fun w K => by rw [hva, len_s]
  rw [hl1]
  refine ngtr (y := 40) (cond_d (fun hlt => hT) (fun hlt => ?_))
  refine bindX_i fun J0 h0 => bindX_i fun J1 h1 => bindX_i fun J2 h2 => ?_
  refine loop_i (fun m fr w1 => ∃ k s : Nat, m = l.length - k ∧ k ≤ l.length ∧ fr 0 = v ∧ fr 4 = .int .i64 k ∧ fr 3 = .int .i64 s ∧ s ≤ 3000 ∧ (∀ c ∈ l.take k, c.bs.length ≤ s) ∧ w1 = w) l.length ?_ ?_
  · exact ⟨0, 0, rfl, Nat.zero_le _, rfl, rfl, rfl, Nat.zero_le _, by simp, rfl⟩
  · rintro m fr w1 J ⟨k, s, rfl, hk, f0, f4, f3, hs, hp, rfl⟩ hJ hX
    rw [f0, f4, f3, hl1]
    refine nlss (cond_d (fun hlt => ?_) (fun hlt => ?_))
    · obtain ⟨b, o, cs, hix, hb, hle, hcs⟩ := h.elem hlt .i64
      have hg := h.good l[k] (List.getElem_mem hlt)
      have hpl := hg.len
      refine hix _ ?_
      refine off_i (load1 hb (by rw [at_get hcs (show 3 < 4 by decide)]; rfl) ?_)
      rw [hg.rd.lenw]
      refine nadd (by omega) ?_
      refine ngtr (y := 3000) (cond_d (fun hc => ?_) (fun hc => ?_))
      · exact hX _ _ _ (by simp) (h2 _ _ _ (h1 _ _ _ (h0 _ _ _ hT)))
      · refine nadd (y := 1) (by omega) ?_
        refine hJ (l.length - (k + 1)) _ _ (by omega) ⟨k + 1, s + l[k].bs.length, rfl, hlt, f0, rfl, rfl, by omega, ?_, rfl⟩
        intro c hc
        rw [List.take_succ_eq_append_getElem hlt, List.mem_append] at hc
        rcases hc with hc | hc
        · have := hp c hc; omega
        · simp at hc; subst hc; omega
    · have hkn : k = l.length := by omega
      subst hkn
      rw [List.take_length] at hp
      exact hX _ _ _ (by simp) (h2 _ _ _ (blk_x (seq_n h1 (hF (by omega) (fun c hc => Nat.le_trans (hp c hc) hs)))))

theorem getE_take_none {es : Ents} {i : Nat} (hlt : i < es.length) {k : Bytes} (h : getE (es.take i) k = none) : getE (es.take (i + 1)) k = if es[i].1 = k then some es[i].2 else none := by
  rw [List.take_succ_eq_append_getElem hlt]
  unfold getE at h ⊢
  rw [Option.map_eq_none_iff] at h
  rw [List.find?_append, h]
  by_cases he : es[i].1 = k
  · rw [if_pos he, List.find?_cons_of_pos (by simpa using he)]; rfl
  · rw [if_neg he, List.find?_cons_of_neg (by simpa using he)]; rfl
theorem getE_take_some {es : Ents} {i : Nat} {k l : Bytes} (h : getE (es.take i) k = some l) : getE es k = some l := by
  unfold getE at h ⊢
  have e : es = es.take i ++ es.drop i := (List.take_append_drop i es).symm
  rw [e, List.find?_append]
  cases hf : (es.take i).find? fun p => decide (p.1 = k) with
  | none => rw [hf] at h; cases h
  | some p => rw [hf] at h; exact h

set_option maxHeartbeats 1000000 in
/-- ref06's Get. -/
theorem refGet_c {w : World} {K : VPost} {x : Value} {hs : List Value} {es : Ents} {k : Bytes} (hx : EntsR w x hs es) (hk : k.length = 32) (hn : es.length ≤ 1000000)
    (hno : getE es k = none → ∀ w', Ext [] w w' → K (.tuple #[.slice none 0 0, .bool false]) w')
    (hyes : ∀ l, getE es k = some l → ∀ r w', RdSl w' r 1 (bc l) l.length → Ext [] w w' → K (.tuple #[r, .bool true]) w') : Calls Tryz.prog 13 #[x, kv k] w (retK K) := by
  refine c13_calls _ _ w K ?_
  unfold c13
  have hbl : (bc k).length = 32 := by rw [bc_length, hk]
  refine (Sep.nil w).box fun b w1 s _ => ?_
  have s : Sep [] w w1 [rB b (bc k) 34] [] := by simpa [Value.cells] using s
  refine bindX_i fun J0 h0 => bindX_i fun J1 h1 => bindX_i fun J2 h2 => ?_
  have hxl : ∀ (w : World) (K : VPost), lenW Tryz.prog (some true) #[32] 3 #[x] w K = K (.int .i64 es.length) w := fun w K => by obtain ⟨a, c, e⟩ := hx.rd.len; rw [e]; exact len_s
  refine loop_i (fun m fr wr => ∃ i : Nat, m = es.length - i ∧ i ≤ es.length ∧ getE (es.take i) k = none ∧ fr 0 = x ∧ fr 3 = ptrA b ∧ fr 6 = .int .i64 i ∧ Sep [] w wr [rB b (bc k) 34] []) es.length ?_ ?_
  · exact ⟨0, rfl, by omega, rfl, rfl, rfl, rfl, s⟩
  · rintro m fr wr J ⟨i, rfl, hi, hnone, f0, f3, f6, s⟩ hJ hX
    rw [f0, hxl, f6]
    refine nlss (cond_d (fun hlt => ?_) (fun hlt => ?_))
    · have s := s.drew
      generalize wr.drew = wr at *
      obtain ⟨b1, o1, cs1, r1, hix1, hb1, hl1, hc1, hr1⟩ := (hx.keep s.ext).elem hlt .i64
      have hk1 := hx.k32 _ (List.getElem_mem hlt)
      have p1 : (cs1.drop (o1 + 0)).take 32 = bc es[i].1 := by rw [at_part hc1 (show 0 + 32 ≤ 33 by decide), List.drop_zero, List.take_left' (by rw [bc_length, hk1])]
      have q1 : cs1[o1 + 32]? = some r1 := by rw [at_get hc1 (show 32 < 33 by decide), List.getElem?_append_right (by rw [bc_length, hk1]; exact Nat.le_refl _), bc_length, hk1]; rfl
      have hst := getE_take_none hlt hnone
      refine hix1 _ ?_
      refine off_i (loadN hb1 (by omega) ?_)
      rw [p1, f3]
      refine s.loadAll 0 rfl hbl ?_
      refine dig_eql hk1 hk ⟨rfl, ?_⟩
      refine cond_d (fun he => ?_) (fun he => ?_)
      · rw [if_pos he] at hst
        refine hix1 _ ?_
        refine off_i (load1 hb1 q1 ?_)
        refine hX _ _ _ (by simp) (h2 _ _ _ (h1 _ _ _ (h0 _ _ _ ?_)))
        exact hyes _ (getE_take_some hst) r1 wr hr1 s.ext
      · rw [if_neg he] at hst
        refine nadd (y := 1) (by omega) ?_
        exact hJ (es.length - (i + 1)) _ _ (by omega) ⟨i + 1, rfl, by omega, hst, f0, f3, rfl, s⟩
    · obtain rfl : i = es.length := by omega
      rw [List.take_length] at hnone
      refine hX _ _ _ (by simp) (h2 _ _ _ (h1 _ _ _ ?_))
      exact hno hnone wr s.ext
/-- ref06's Need. -/
theorem refNeed_c {w : World} {K : VPost} {x : Value} {hs : List Value} {es : Ents} (hx : EntsR w x hs es) (hv : ∀ e ∈ es, e.2.length ≤ 1000) (hn : es.length ≤ 100000) (hK : K (.int .i64 ((posR (es.map recE) (es.map recE).length - 1 : Nat) : Int)) w) : Calls Tryz.prog 20 #[x] w (retK K) := by
  refine c20_calls _ w K ?_
  unfold c20
  refine bindX_i fun J0 h0 => bindX_i fun J1 h1 => bindX_i fun J2 h2 => ?_
  have hxl : ∀ (w : World) (K : VPost), lenW Tryz.prog (some true) #[32] 3 #[x] w K = K (.int .i64 es.length) w := fun w K => by obtain ⟨a, c, e⟩ := hx.rd.len; rw [e]; exact len_s
  refine loop_i (fun m fr wr => ∃ i : Nat, m = es.length - i ∧ i ≤ es.length ∧ fr 0 = x ∧ fr 3 = .int .i64 (posR (es.map recE) i - 1 : Nat) ∧ posR (es.map recE) i ≤ 1 + 45 * i ∧ fr 4 = .int .i64 i ∧ wr = w) es.length ?_ ?_
  · refine ⟨0, rfl, by omega, rfl, ?_, by simp [posR], rfl, rfl⟩
    have : posR (es.map recE) 0 = 1 := by simp [posR]
    rw [this]; rfl
  · rintro m fr wr J ⟨i, rfl, hi, f0, f3, hps, f4, rfl⟩ hJ hX
    rw [f0, hxl, f4]
    refine nlss (cond_d (fun hlt => ?_) (fun hlt => ?_))
    · rw [f3]
      obtain ⟨b1, o1, cs1, r1, hix1, hb1, hl1, hc1, hr1⟩ := hx.elem hlt .i64
      have hk1 := hx.k32 _ (List.getElem_mem hlt)
      have hv1 := hv _ (List.getElem_mem hlt)
      have q1 : cs1[o1 + 32]? = some r1 := by rw [at_get hc1 (show 32 < 33 by decide), List.getElem?_append_right (by rw [bc_length, hk1]; exact Nat.le_refl _), bc_length, hk1]; rfl
      refine hix1 _ ?_
      refine off_i (load1 hb1 q1 ?_)
      rw [hr1.lenw]
      refine nadd (x := 32) (by omega) ?_
      refine fnW_of (by kernel_rfl) (rneed_c ?_)
      rw [needI_nat]
      have hml : i < (es.map recE).length := by rw [List.length_map]; exact hlt
      have hp := posR_succ (es.map recE) i hml
      have hrl : ((es.map recE)[i]).length = 32 + es[i].2.length := by
        rw [List.getElem_map]
        show (es[i].1 ++ es[i].2).length = _
        rw [List.length_append, hk1]
      rw [hrl] at hp
      have h45 : needN (32 + es[i].2.length) ≤ 45 := by unfold needN; split <;> omega
      have hp1 : 1 ≤ posR (es.map recE) i := by unfold posR; omega
      refine nadd (by omega) ?_
      refine nadd (y := 1) (by omega) ?_
      refine hJ (es.length - (i + 1)) _ _ (by omega) ⟨i + 1, rfl, by omega, f0, ?_, by omega, rfl, rfl⟩
      rw [hp]
      show Value.int .i64 _ = _
      congr 2
      omega
    · obtain rfl : i = es.length := by omega
      refine hX _ _ _ (by simp) (h2 _ _ _ (h1 _ _ _ ?_))
      show K (fr 3) _
      rw [f3]
      rw [List.length_map] at hK
      exact hK
end Go.Proofs.YtedebapgmfnflaaGreatDoor

/- VaultPuts: its walk. -/
namespace Go.Proofs.YtedebapgmfnflaaGreatDoor
open Go
set_option maxRecDepth 100000

section
variable {P : Program} {w : World} {K : VPost} {t : TypeId} {c : Bool}
theorem bin_andV {k : IntKind} {x y : Int} : binW P .and t c (.int k x) (.int k y) w K = K (.int k (k.wrap (BitVec.ofInt k.bits x &&& BitVec.ofInt k.bits y).toNat)) w := by
  simp [binW, binE, guardE, eqGuard, binOp, Op.intBits, insW, okW, Sem.run_bind]
theorem u8_and {x y : UInt8} (h : ∀ z : UInt8, K (bv z) w) : binN P .and t c (bv x) (bv y) w K := by
  show binW P .and t c (bv x) (bv y) w K
  unfold bv
  rw [bin_andV, wrap_u8n]
  exact h _
theorem u8_inc {x : UInt8} (h : K (bv (x + 1)) w) : binN P .add t c (bv x) (.int .u8 1) w K := by
  rw [show Value.int .u8 1 = bv 1 from rfl, u8_add]
  exact h
end

theorem refGet1_c {w : World} {K : VPost} {x : Value} {hs : List Value} {es : Ents} {k : Bytes} (hx : EntsR w x hs es) (hk : k.length = 32) (hn : es.length ≤ 1000000)
    (h : ∀ r w', RdSl w' r 1 (bc ((getE es k).getD [])) ((getE es k).getD []).length → Ext [] w w' → K (.tuple #[r, .bool (getE es k).isSome]) w') : Calls Tryz.prog 13 #[x, kv k] w (retK K) := by
  refine refGet_c hx hk hn (fun hg w' e => ?_) (fun l hg r w' hr e => ?_)
  · rw [hg] at h
    exact h _ w' ⟨rfl, .inl ⟨rfl, _, _, rfl⟩⟩ e
  · rw [hg] at h
    exact h r w' hr e
theorem zero_callV : zeroO Tryz.prog 38 = some (.agg #[.int .i64 0, .int .i64 0, .int .u8 0, .slice none 0 0]) := by kernel_rfl

section
variable {S : List Nat} {w0 w : World} {L R : List Res} {K : VPost} {F : List Nat} {D : DiskM}
/-- Put, whatever comes of it. -/
theorem Sep.vPutAny {n p v a : Nat} {V : VaultH} {A : AreaH} {x : Value} {k l : Bytes} {es : Ents} {hv hs : List Value} {sure i : Nat} (s : Sep S w0 w (rV v V :: rM V.map (mapE es hv) :: rG V.order (keysE es) :: rA a A 89 :: rO A.recs 36 1 hs (es.map recE).length :: rDk p F D :: L) R) (inv : VInv n p V a A D es sure i) (hi : i ≤ 200) (hn : n ≤ 4096)
    (hr : rL hv (valsE es) ∈ R) (hrs : rL hs (es.map recE) ∈ R) (hx : Reads L R x l) (hk : k.length = 32) (hf : es.length < 100000) {es' : Ents} {e : Int} (hc : (putNew es (A.size - A.next) k l ∧ es' = es ++ [(k, l)] ∧ e = 0) ∨ (¬ putNew es (A.size - A.next) k l ∧ es' = es ∧ e = putE es (A.size - A.next) k l))
    (h : ∀ F' V' A' D' hv' hs' w', VInv n p V' a A' D' es' sure (i + 1) → A'.size = A.size → Sep S w0 w' (rV v V' :: rM V'.map (mapE es' hv') :: rG V'.order (keysE es') :: rA a A' 89 :: rO A'.recs 36 1 hs' (es'.map recE).length :: rDk p F' D' :: L) (rL hv' (valsE es') :: rL hs' (es'.map recE) :: R) → K (.int .i64 e) w') :
    fnW Tryz.prog 15 #[ptrA v, kv k, x] w K := by
  rcases hc with ⟨hp, rfl, rfl⟩ | ⟨hp, rfl, rfl⟩
  · exact s.vPutInv inv hi hn hr hrs hx hk hf (fun h => absurd hp h) (fun _ F' V' A' D' hv' hs' w' inv' hsz _ _ s => h F' V' A' D' hv' hs' w' inv' hsz s)
  · refine s.vPutInv inv hi hn hr hrs hx hk hf (fun _ w' s => h F V A D hv hs w' inv.step rfl (s.less (fun T hT => by
      rcases List.mem_cons.1 hT with rfl | hT
      · exact hr
      · rcases List.mem_cons.1 hT with rfl | hT
        · exact hrs
        · exact hT))) (fun h => absurd h hp)
end

set_option maxHeartbeats 8000000 in
theorem putsLaw_walk {w : World} {K : VPost} {n : Int} {y : Value} {l : List CallV} (hv0 : IsCallsV w y l) (hK : ∀ w', Ext [] w w' → K (.bool true) w') :
    Calls Tryz.prog 3 #[.int .i64 n, y] w (retK K) := by
  refine c3_calls _ _ w K ?_
  unfold c3
  refine fnW_of (by kernel_rfl) (alive6_c fun w1 e1 => ?_)
  refine not_ti ?_
  refine cndF ?_
  refine fnW_of (by kernel_rfl) (great6_c (hv0.keep e1) ?_ fun h40 h3000 => ?_)
  · iterate 2 ((repeat with_reducible refine gs_tf ?_); refine pick_ti ?_)
    exact cndT (hK _ e1)
  have s := (Sep.nil w).ext0 e1
  refine gs_f ?_
  refine gs_f ?_
  rw [ilss]
  refine pick_fi ?_
  by_cases hn4 : n < 4
  · rw [decide_eq_true hn4]
    iterate 1 ((repeat with_reducible refine gs_tf ?_); refine pick_ti ?_)
    exact cndT (hK _ s.ext)
  rw [decide_eq_false hn4]
  refine gs_f ?_
  refine gs_f ?_
  rw [igtr]
  refine pick_fi ?_
  refine cond_d (fun _ => hK _ s.ext) (fun hn40 => ?_)
  obtain ⟨n, rfl⟩ : ∃ k : Nat, n = k := ⟨n.toNat, by omega⟩
  refine fnW_of (by kernel_rfl) (new_c n (fun h => absurd ⟨by omega, by omega⟩ h) fun _ p F w2 hd e hf => ?_)
  rw [Int.toNat_natCast] at hd
  have hok := hd.okD
  have s := s.add (T := rDk p F (DiskM.fresh n)) hd e hf
  rw [extr0, extr1]
  refine nneq (x := 0) (y := 0) ?_
  refine gs_f ?_
  refine gs_f ?_
  rw [ptr_eql_nil ptr_disk]
  refine pick_fi ?_
  refine cndF ?_
  have hz : roomB ((DiskM.fresh n).n / 2) (([] : Ents).map recE) = 0 := roomB_ok (by simp) (by show 1 ≤ n / 2; omega)
  refine s.vOpenInv (n := n) (H := 0) (i := 0) (es := []) (Calm.fresh hok) (by decide) (by decide) (by show 4 ≤ n; omega) rfl (by omega) (by show (-1 : Int) < 0; decide) (by show 0 ≤ 40000; decide) (fresh_ents (by omega)) ⟨by simp, by simp, by simp⟩ (by simp [keysE]) hz (fun B hB => by rw [fresh_none (n := n) (by omega)] at hB; cases hB) fun F1 v V c A D1 hv hs w3 inv hsz hnx s => ?_
  have hsz : A.size = n / 2 := hsz
  rw [extr0, extr1]
  refine nneq (x := 0) (y := 0) ?_
  refine gs_f ?_
  refine gs_f ?_
  rw [ptr_eql_nil ptr_vault]
  refine pick_fi ?_
  refine cndF ?_
  refine s.ents0 fun xl w4 s => ?_
  have s := s.toBack.noRows
  have s : Sep [] w w4 (rV v V :: rM V.map (mapE [] hv) :: rG V.order (keysE []) :: rA c A 89 :: rO A.recs 36 1 hs (([] : Ents).map recE).length :: rDk p F1 D1 :: rE xl [] [] :: []) (rL [] [] :: rL hv (valsE []) :: rL hs (([] : Ents).map recE) :: []) := s
  refine bindX_i fun J0 g0 => bindX_i fun J1 g1 => bindX_i fun J2 g2 => ?_
  obtain ⟨ya, yc, hya⟩ := hv0.rd.len
  have hyl : ∀ (w : World) (K : VPost), lenW Tryz.prog (some true) #[22] 3 #[y] w K = K (.int .i64 l.length) w := fun w K => by rw [hya, len_s]
  have tail : ∀ (fr : Fr) (wr : World) (a : Nat) (V : VaultH) (A : AreaH) (D : DiskM) (F : List Nat) (es : Ents) (hv hs hw : List Value) (xl : Value), fr 0 = .int .i64 n → fr 7 = ptrA v → fr 8 = xl → VInv n p V a A D es 0 (l.length + 1) → A.size = n / 2 → hw.length = es.length →
      Sep [] w wr (rV v V :: rM V.map (mapE es hv) :: rG V.order (keysE es) :: rA a A 89 :: rO A.recs 36 1 hs (es.map recE).length :: rDk p F D :: rE xl es hw :: []) (rL hw (valsE es) :: rL hv (valsE es) :: rL hs (es.map recE) :: []) → J1 .normal fr wr := by
    intro fr wr a V A D F es hv hs hw xl k0 k7 k8 inv hsz hwl s
    refine seq_n g1 ?_
    rw [k7, k0, k8]
    obtain ⟨f1, f2, f3, f4, f5, f6⟩ := inv.facts
    refine s.vFree 0 3 rfl inv.area rfl f3 (by omega) fun w5 s => ?_
    refine nquo (y := 2) (by decide) (by omega) ?_
    have hp1 : 1 ≤ posR (es.map recE) (es.map recE).length := by unfold posR; omega
    refine nsub (x := n / 2) (y := 1) (by omega) (by omega) ?_
    have er : EntsR w5 xl hw es := ⟨OwnAt.rd (s.at 6 rfl), s.rat 0 rfl, inv.ok.k32⟩
    refine fnW_of (by kernel_rfl) (refNeed_c er inv.ok.v inv.ok.few ?_)
    refine nsub (by omega) (by omega) ?_
    refine neql ?_
    rw [decide_eq_true (by omega)]
    exact hK w5 s.ext
  refine loop_i (fun m fr wr => ∃ (i a : Nat) (V : VaultH) (A : AreaH) (D : DiskM) (F : List Nat) (es : Ents) (hv hs hw : List Value) (xl : Value), m = l.length - i ∧ i ≤ l.length ∧ fr 0 = .int .i64 n ∧ fr 1 = y ∧ fr 7 = ptrA v ∧ fr 8 = xl ∧ fr 9 = .int .i64 i ∧ VInv n p V a A D es 0 (i + 1) ∧ A.size = n / 2 ∧ hw.length = es.length ∧ es.length ≤ i ∧
    Sep [] w wr (rV v V :: rM V.map (mapE es hv) :: rG V.order (keysE es) :: rA a A 89 :: rO A.recs 36 1 hs (es.map recE).length :: rDk p F D :: rE xl es hw :: []) (rL hw (valsE es) :: rL hv (valsE es) :: rL hs (es.map recE) :: [])) l.length ?_ ?_
  · exact ⟨0, c, V, A, D1, F1, [], hv, hs, [], xl, rfl, by omega, rfl, rfl, rfl, rfl, rfl, inv, hsz, rfl, Nat.le_refl _, s⟩
  · rintro m fr wr J ⟨i, a, V, A, D, F, es, hv, hs, hw, xl, rfl, hi, f0, f1, f7, f8, f9, inv, hsz, hwl, hel, s⟩ hJ hX
    rw [f1, hyl, f9]
    refine nlss (cond_d (fun hlt => ?_) (fun hlt => ?_))
    · refine bindX_i fun J3 g3 => bindX_i fun J4 g4 => ?_
      have hcl := hv0.keep s.ext
      obtain ⟨b1, o1, cs1, hix1, hb1, hle1, hc1⟩ := hcl.elem hlt .i64
      have hg := hv0.good l[i] (List.getElem_mem hlt)
      have hgl := h3000 l[i] (List.getElem_mem hlt)
      generalize hcc : l[i] = c at *
      obtain ⟨q1, q2, q3, q4, q5, q6⟩ := inv.facts
      refine hix1 _ ?_
      refine off_i (load1 (v := bv c.key) hb1 (by rw [at_get hc1 (show 2 < 4 by decide)]; rfl) ?_)
      rw [show Value.int .u8 7 = bv 7 from rfl]
      refine u8_and fun z => ?_
      refine fnW_of (by kernel_rfl) (key_c z fun w5 e5 => ?_)
      have s := s.ext0 e5
      have hk := keyD_len z
      generalize keyD z = k at *
      have hbl : (bc k).length = 32 := by rw [bc_length, hk]
      refine s.alloc zero_digG cells_digG fun b w6 s _ => ?_
      refine s.storeAll 0 rfl hbl (by rw [bc_length]; rfl) (bc_one _) fun w7 s _ => ?_
      have s : Sep [] w w7 (rB b (bc k) 34 :: rV v V :: rM V.map (mapE es hv) :: rG V.order (keysE es) :: rA a A 89 :: rO A.recs 36 1 hs (es.map recE).length :: rDk p F D :: rE xl es hw :: []) (rL hw (valsE es) :: rL hv (valsE es) :: rL hs (es.map recE) :: []) := s
      have elemAt : ∀ {w' : World}, Ext [] w w' → ∃ b o cs, (∀ K : VPost, K (.pointer (some ⟨b, o, none⟩)) w' → idxW (some (none, 4)) y (.int .i64 i) w' K) ∧ RBlk w' b cs ∧ o + 4 ≤ cs.length ∧ (cs.drop o).take 4 = callVCells c := fun e => by
        have := (hv0.keep e).elem hlt .i64
        rw [hcc] at this
        exact this
      obtain ⟨b2, o2, cs2, hix2, hb2, hle2, hc2⟩ := elemAt s.ext
      refine hix2 _ ?_
      refine off_i (load1 (v := c.bv) hb2 (by rw [at_get hc2 (show 3 < 4 by decide)]; rfl) ?_)
      refine fnW_of (by kernel_rfl) (copyBytes_c (hg.rd.keep s.ext (by simp)) (by omega) fun ov w8 hov e8 hf8 => ?_)
      have s := s.add (T := rDb ov c.bs) hov.at e8 hf8
      rw [f7]
      refine s.vFree (A := A) 2 5 rfl inv.area rfl q3 (by omega) fun w9 s => ?_
      have hol : ∀ (w : World) (K : VPost), lenW Tryz.prog (some true) #[36] 3 #[ov] w K = K (.int .i64 c.bs.length) w := fun w K => by obtain ⟨oa, oc, ho⟩ := hov.at.rd.len; rw [ho, len_s]
      rw [hol]
      refine nadd (x := 32) (by omega) ?_
      refine fnW_of (by kernel_rfl) (rneed_c ?_)
      rw [needI_nat]
      refine s.loadAll 1 rfl hbl ?_
      rw [f8]
      have er : EntsR w9 xl hw es := ⟨OwnAt.rd (s.at 8 rfl), s.rat 0 rfl, inv.ok.k32⟩
      have hnk : needN (32 + c.bs.length) = needN (k ++ c.bs).length := by rw [List.length_append, hk]
      rw [hnk]
      refine fnW_of (by kernel_rfl) (refGet1_c er hk (by omega) fun r w10 hr e10 => ?_)
      have s := s.ext0 e10
      rw [extr0, extr1]
      refine bindX_i fun J5 h5 => ?_
      -- behind the answer that is awaited
      have fin : ∀ (fr' : Fr) (w' : World) (es' : Ents) (hw' : List Value) (xl' : Value) (e : Int), ((putNew es (A.size - A.next) k c.bs ∧ es' = es ++ [(k, c.bs)] ∧ e = 0) ∨ (¬ putNew es (A.size - A.next) k c.bs ∧ es' = es ∧ e = putE es (A.size - A.next) k c.bs)) → hw'.length = es'.length →
          fr' 0 = .int .i64 n → fr' 1 = y → fr' 7 = ptrA v → fr' 8 = xl' → fr' 9 = .int .i64 i → fr' 10 = ptrA b → fr' 11 = ov → fr' 16 = .int .i64 e →
          Sep [] w w' (rDb ov c.bs :: rB b (bc k) 34 :: rV v V :: rM V.map (mapE es hv) :: rG V.order (keysE es) :: rA a A 89 :: rO A.recs 36 1 hs (es.map recE).length :: rDk p F D :: rE xl' es' hw' :: []) (rL hw' (valsE es') :: rL hv (valsE es) :: rL hs (es.map recE) :: []) → J5 .normal fr' w' := by
        intro fr' w' es' hw' xl' e hc hwl' k0 k1 k7 k8 k9 k10 k11 k16 s
        refine seq_n h5 ?_
        rw [k10, k7, k11, k16]
        refine s.loadAll 1 rfl hbl ?_
        have s : Sep [] w w' (rV v V :: rM V.map (mapE es hv) :: rG V.order (keysE es) :: rA a A 89 :: rO A.recs 36 1 hs (es.map recE).length :: rDk p F D :: rE xl' es' hw' :: rDb ov c.bs :: rB b (bc k) 34 :: []) (rL hw' (valsE es') :: rL hv (valsE es) :: rL hs (es.map recE) :: []) := s.toBack.toBack
        refine s.vPutAny (x := ov) (k := k) (l := c.bs) inv (by omega) (by omega) (by simp) (by simp) (.inr (by simp)) hk (by omega) hc fun F2 V2 A2 D2 hv2 hs2 w11 inv2 hsz2 s => ?_
        have hel' : es'.length ≤ i + 1 := by
          rcases hc with ⟨_, rfl, _⟩ | ⟨_, rfl, _⟩
          · rw [List.length_append, List.length_singleton]; omega
          · omega
        rw [ineq]
        refine cond_d (fun h => absurd rfl h) (fun _ => ?_)
        refine bindX_i fun J7 h7 => bindX_i fun J8 h8 => ?_
        have s := s.less (R' := rL hw' (valsE es') :: rL hv2 (valsE es') :: rL hs2 (es'.map recE) :: []) (fun T hT => by
          simp only [List.mem_cons, List.not_mem_nil, or_false] at hT
          rcases hT with rfl | rfl | rfl <;> simp)
        have chk : ∀ (fr2 : Fr) (w2 : World) (b' : Bytes), fr2 0 = .int .i64 n → fr2 1 = y → fr2 7 = ptrA v → fr2 8 = xl' → fr2 9 = .int .i64 i →
            Sep [] w w2 (rV v V2 :: rM V2.map (mapE es' hv2) :: rG V2.order (keysE es') :: rA a A2 89 :: rO A2.recs 36 1 hs2 (es'.map recE).length :: rDk p F2 D2 :: rE xl' es' hw' :: rO ov 5 1 (bc b') c.bs.length :: rB b (bc k) 34 :: []) (rL hw' (valsE es') :: rL hv2 (valsE es') :: rL hs2 (es'.map recE) :: []) → J7 .normal fr2 w2 := by
          intro fr2 w2 b' l0 l1 l7 l8 l9 s
          refine seq_n h7 ?_
          rw [l7, l8]
          refine s.entries inv2.ok inv2.nd 0 1 2 rfl rfl rfl (by simp) fun xe hse w12 s => ?_
          have er1 : EntsR w12 xe hse es' := ⟨OwnAt.rd (s.at 0 rfl), s.rat 0 rfl, inv2.ok.k32⟩
          have er2 : EntsR w12 xl' hw' es' := ⟨OwnAt.rd (s.at 7 rfl), s.rd (rL hw' (valsE es')) (by simp), inv2.ok.k32⟩
          refine fnW_of (by kernel_rfl) (sameE_c er1 er2 (by omega) (fun e he => Nat.le_trans (inv2.ok.v e he) (by decide)) fun w13 e13 => ?_)
          have s := (s.ext0 e13).drop 0
          rw [decide_eq_true rfl]
          refine not_ti ?_
          rw [Bool.not_true]
          refine gs_f ?_
          refine gs_f (s.vLen 0 2 rfl rfl ?_)
          refine gs_f ?_
          refine gs_f ?_
          rw [(OwnAt.rd (s.at 6 rfl)).lenw]
          refine gs_f ?_
          refine nneq ?_
          refine pick_fi ?_
          rw [decide_eq_false (show ¬ es'.length ≠ es'.length by simp)]
          refine gs_f ?_
          refine gs_f (s.vSound 0 rfl ?_)
          rw [inv2.area]
          refine gs_f ?_
          refine not_ti ?_
          refine pick_fi ?_
          refine cndF ?_
          refine seq_n g3 ?_
          show binN _ _ _ _ (fr2 9) _ _ _
          rw [l9]
          refine nadd (y := 1) (by omega) ?_
          refine hJ (l.length - (i + 1)) _ _ (by omega) ⟨i + 1, a, V2, A2, D2, F2, es', hv2, hs2, hw', xl', rfl, by omega, l0, l1, l7, l8, rfl, inv2, by omega, hwl', hel', ?_⟩
          exact ((s.drop 7).drop 7).less (fun T hT => by simp [hT])
        refine loop_i (fun m fr2 wr2 => ∃ (j : Nat) (b' : Bytes), m = c.bs.length - j ∧ j ≤ c.bs.length ∧ fr2 0 = .int .i64 n ∧ fr2 1 = y ∧ fr2 7 = ptrA v ∧ fr2 8 = xl' ∧ fr2 9 = .int .i64 i ∧ fr2 11 = ov ∧ fr2 17 = .int .i64 j ∧
          Sep [] w wr2 (rV v V2 :: rM V2.map (mapE es' hv2) :: rG V2.order (keysE es') :: rA a A2 89 :: rO A2.recs 36 1 hs2 (es'.map recE).length :: rDk p F2 D2 :: rE xl' es' hw' :: rO ov 5 1 (bc b') c.bs.length :: rB b (bc k) 34 :: []) (rL hw' (valsE es') :: rL hv2 (valsE es') :: rL hs2 (es'.map recE) :: [])) c.bs.length ?_ ?_
        · exact ⟨0, c.bs, rfl, by omega, k0, k1, k7, k8, k9, k11, rfl, s⟩
        · rintro m fr2 wr2 J9 ⟨j, b', rfl, hj, l0, l1, l7, l8, l9, l11, l17, s⟩ hJ9 hX9
          rw [l11, hol, l17]
          refine nlss (cond_d (fun hjlt => ?_) (fun hjlt => ?_))
          · obtain ⟨b3, o3, hix3, hld3, hst3⟩ := s.byteAt 7 rfl (k := j) hjlt .i64
            refine hix3 _ ?_
            refine hld3 _ ?_
            refine u8_inc ?_
            refine hix3 _ ?_
            refine hst3 false _ _ fun w12 s => ?_
            refine nadd (y := 1) (by omega) ?_
            exact hJ9 (c.bs.length - (j + 1)) _ _ (by omega) ⟨j + 1, _, rfl, by omega, l0, l1, l7, l8, l9, l11, rfl, s⟩
          · exact hX9 _ _ _ (by simp) (h8 _ _ _ (blk_x (chk _ wr2 b' l0 l1 l7 l8 l9 s)))
      refine bindX_i fun J6 h6 => ?_
      rw [hol]
      have done : ∀ (fr' : Fr) (e : Int), ¬ putNew es (A.size - A.next) k c.bs → e = putE es (A.size - A.next) k c.bs → ∀ w', Sep [] w w' (rDb ov c.bs :: rB b (bc k) 34 :: rV v V :: rM V.map (mapE es hv) :: rG V.order (keysE es) :: rA a A 89 :: rO A.recs 36 1 hs (es.map recE).length :: rDk p F D :: rE xl es hw :: []) (rL hw (valsE es) :: rL hv (valsE es) :: rL hs (es.map recE) :: []) →
          fr' 0 = .int .i64 n → fr' 1 = y → fr' 7 = ptrA v → fr' 8 = xl → fr' 9 = .int .i64 i → fr' 10 = ptrA b → fr' 11 = ov → fr' 16 = .int .i64 e → J5 .normal fr' w' := by
        intro fr' e hp he w' s k0 k1 k7 k8 k9 k10 k11 k16
        exact fin fr' w' es hw xl e (.inr ⟨hp, rfl, he⟩) hwl k0 k1 k7 k8 k9 k10 k11 k16 s
      refine ngtr (y := 1000) (cond_d (fun h10 => ?_) (fun h10 => ?_))
      · refine done _ 10 (fun h => by have := h.1; omega) (by unfold putE; rw [if_pos h10]) w10 s ?_ ?_ ?_ ?_ ?_ ?_ ?_ ?_
        · exact f0
        · exact f1
        · exact f7
        · exact f8
        · exact f9
        · exact rfl
        · exact rfl
        · exact rfl
      cases hg' : getE es k with
      | some old =>
        rw [hg'] at hr
        have hr : RdSl w10 r 1 (bc old) old.length := hr
        have hnp : ¬ putNew es (A.size - A.next) k c.bs := fun h => by have h2 := h.2.1; rw [hg'] at h2; cases h2
        have hle : old.length ≤ 1000 := by
          unfold getE at hg'
          obtain ⟨pq, hq1, hq2⟩ := Option.map_eq_some_iff.1 hg'
          rw [← hq2]
          exact inv.ok.v pq (List.mem_of_find?_eq_some hq1)
        show gstep (.bool true) _ _ _ _
        refine gs_t ?_
        refine gs_t ?_
        refine gs_t ?_
        refine fnW_of (by kernel_rfl) (sameBytes_c hr (OwnAt.rd (s.at 0 rfl)) (by omega) fun w11 e11 => ?_)
        have s := s.ext0 e11
        refine gs_t ?_
        refine not_ti ?_
        refine pick_ti ?_
        by_cases ho : old = c.bs
        · rw [decide_eq_true ho, Bool.not_true]
          refine cndF ?_
          refine not_ti ?_
          iterate 3 refine gs_ft ?_
          refine pick_fi ?_
          refine cndF ?_
          refine not_ti ?_
          refine cndF ?_
          refine done _ 0 hnp (by unfold putE; rw [if_neg h10, hg']; simp only [if_pos ho]) w11 s ?_ ?_ ?_ ?_ ?_ ?_ ?_ ?_
          · exact f0
          · exact f1
          · exact f7
          · exact f8
          · exact f9
          · exact rfl
          · exact rfl
          · exact rfl
        · rw [decide_eq_false ho, Bool.not_false]
          refine cndT ?_
          refine done _ 13 hnp (by unfold putE; rw [if_neg h10, hg']; simp only [if_neg ho]) w11 s ?_ ?_ ?_ ?_ ?_ ?_ ?_ ?_
          · exact f0
          · exact f1
          · exact f7
          · exact f8
          · exact f9
          · exact rfl
          · exact rfl
          · exact rfl
      | none =>
        show gstep (.bool false) _ _ _ _
        iterate 4 refine gs_ft ?_
        refine pick_fi ?_
        refine cndF ?_
        refine not_ti ?_
        refine gs_t ?_
        refine gs_t ?_
        refine gs_t ?_
        refine ngtr ?_
        refine pick_ti ?_
        refine cond_d (fun hfull => ?_) (fun hfull => ?_)
        · refine done _ 15 (fun h => by have := h.2.2; omega) (by unfold putE; rw [if_neg h10, hg']; simp only [if_pos (show A.size - A.next < needN (k ++ c.bs).length from hfull)]) w10 s ?_ ?_ ?_ ?_ ?_ ?_ ?_ ?_
          · exact f0
          · exact f1
          · exact f7
          · exact f8
          · exact f9
          · exact rfl
          · exact rfl
          · exact rfl
        · have hnew : putNew es (A.size - A.next) k c.bs := ⟨by omega, hg', by omega⟩
          refine not_ti ?_
          refine cndT ?_
          have s := s.drew
          generalize w10.drew = w11 at *
          refine s.loadAll 1 rfl hbl ?_
          obtain ⟨b2, o2, cs2, hix2, hb2, hle2, hc2⟩ := elemAt s.ext
          refine hix2 _ ?_
          refine off_i (load1 (v := c.bv) hb2 (by rw [at_get hc2 (show 3 < 4 by decide)]; rfl) ?_)
          obtain ⟨za, zc, hzv⟩ := hg.rd.len
          refine build_i str_entry (fill_entry k c.bv hk (by rw [hzv]; rfl)) ?_
          have s := s.addBase (T := rR c.bv 1 (bc c.bs) c.bs.length) hg.rd
          refine s.entAdd (l := c.bs) 8 rfl hzv hk hwl (by omega) fun t xl2 w12 s => ?_
          have hz3 : RdSl w12 c.bv 1 (bc c.bs) c.bs.length := s.rat 0 rfl
          have s := s.growRd (hs := hw) (ls := valsE es) (v := c.bv) (l := c.bs) (U := rR c.bv 1 (bc c.bs) c.bs.length) (by simp) hz3 hg.cap (by simp) (fun b hb => hb)
          have ev : valsE (es ++ [(k, c.bs)]) = valsE es ++ [c.bs] := by simp [valsE]
          rw [← ev] at s
          refine fin _ w12 (es ++ [(k, c.bs)]) (hw ++ [c.bv]) xl2 0 (.inl ⟨hnew, rfl, rfl⟩) (by rw [List.length_append, List.length_append, hwl]; rfl) ?_ ?_ ?_ ?_ ?_ ?_ ?_ ?_ (s.less (fun T hT => by
            simp only [List.mem_cons, List.not_mem_nil, or_false] at hT
            rcases hT with rfl | rfl | rfl <;> simp))
          · exact f0
          · exact f1
          · exact f7
          · exact rfl
          · exact f9
          · exact rfl
          · exact rfl
          · exact rfl
    · obtain rfl : i = l.length := by omega
      exact hX _ _ _ (by simp) (g2 _ _ _ (blk_x (tail _ wr a V A D F es hv hs hw xl f0 f7 f8 inv hsz hwl s)))
end Go.Proofs.YtedebapgmfnflaaGreatDoor

/- law06's keep: its walk. A vault that may have lost its area: what is known of it. -/
namespace Go.Proofs.YtedebapgmfnflaaGreatDoor
open Go
set_option maxRecDepth 100000

/-- A vault, sound or not: what its disk tells. Where it has no area, 'A' is what it had last. -/
structure VL (n p : Nat) (V : VaultH) (a : Nat) (A : AreaH) (D : DiskM) (es : Ents) (sure i : Nat) : Prop where
  vdisk : V.disk = p
  adisk : A.disk = p
  area : V.area = none ∨ (V.area = some a ∧ A.stuck = false)
  hist : Hist D A (es.map recE) sure i
  ok : EntsOk es
  nd : (keysE es).Nodup
  dn : D.n = n

section
variable {n p a : Nat} {V : VaultH} {A : AreaH} {D : DiskM} {es : Ents} {sure i : Nat}
theorem VL.step (h : VL n p V a A D es sure i) : VL n p V a A D es sure (i + 1) := by
  obtain ⟨extra, H, F, W, base, hx⟩ := h.hist
  exact { h with hist := ⟨extra, H, F, W, base, hx.step⟩ }
theorem VL.sl (h : VL n p V a A D es sure i) : sure ≤ es.length := by
  obtain ⟨extra, H, F, W, base, hx⟩ := h.hist
  have := hx.sl
  rwa [List.length_map] at this
theorem VInv.toVL (h : VInv n p V a A D es sure i) : VL n p V a A D es sure i :=
  { vdisk := h.vdisk, adisk := h.adisk, area := .inr ⟨h.area, h.stuck⟩, hist := h.hist, ok := h.ok, nd := h.nd, dn := h.dn }
theorem VL.facts (h : VL n p V a A D es sure i) : 1 ≤ A.gen ∧ A.gen ≤ 4294967295 ∧ A.next ≤ A.size ∧ A.first + A.size ≤ D.n ∧ A.size = D.n / 2 ∧ A.next = posR (es.map recE) (es.map recE).length ∧ D.pend.length ≤ 100 * i := by
  obtain ⟨extra, H, F, W, base, hx⟩ := h.hist
  obtain ⟨x1, x2, x3, x4, x5, x6, _⟩ := hx.facts
  exact ⟨x1, x2, x3, x4, x6, hx.next, hx.pend⟩
end

theorem keep_sub {want es : Ents} (h : want.Sublist es) : (keysE es).Nodup → keepE es (keysE want) = want := by
  induction h with
  | slnil => intro _; rfl
  | @cons l1 l2 a h ih =>
    intro hd
    have hd : a.1 ∉ keysE l2 ∧ (keysE l2).Nodup := List.nodup_cons.1 hd
    have hno : ¬ decide (a.1 ∈ keysE l1) = true := by
      intro hm
      exact hd.1 ((h.map Prod.fst).subset (of_decide_eq_true hm))
    unfold keepE at ih ⊢
    rw [List.filter_cons_of_neg (p := fun e : Bytes × Bytes => decide (e.1 ∈ keysE l1)) hno]
    exact ih hd.2
  | @cons_cons l1 l2 a h ih =>
    intro hd
    have hd : a.1 ∉ keysE l2 ∧ (keysE l2).Nodup := List.nodup_cons.1 hd
    have ih := ih hd.2
    unfold keepE at ih ⊢
    rw [List.filter_cons_of_pos (by simp [keysE])]
    congr 1
    refine Eq.trans (List.filter_congr fun e he => ?_) ih
    have hne : e.1 ≠ a.1 := fun hh => hd.1 (by rw [← hh]; exact List.mem_map.2 ⟨e, he, rfl⟩)
    have hk : keysE (a :: l1) = a.1 :: keysE l1 := rfl
    rw [hk]
    simp [hne]

/-- An entry at its place. -/
theorem EntsR.el2 {w : World} {x : Value} {hs : List Value} {es : Ents} (h : EntsR w x hs es) {i : Nat} (hi : i < es.length) (h2 : i < hs.length) (k : IntKind) :
    ∃ b o cs, (∀ K : VPost, K (.pointer (some ⟨b, o, none⟩)) w → idxW (some (none, 33)) x (.int k i) w K) ∧ RBlk w b cs ∧ o + 33 ≤ cs.length ∧ (cs.drop o).take 33 = bc es[i].1 ++ [hs[i]] ∧ RdSl w hs[i] 1 (bc es[i].2) es[i].2.length ∧ capOk hs[i] ∧ ∀ b ∈ rdB hs[i] (bc es[i].2), b ∈ rowsF hs (valsE es) := by
  obtain ⟨b, o, cs, q1, q2, q3, q4⟩ := h.rd.elem hi (by decide) k
  rw [entC_get i hi h2 h.k32] at q4
  have hr := h.rows.get i h2 (by rw [valsE_length]; exact hi)
  have hf := rowsF_get (hs := hs) (ls := valsE es) i h2 (by rw [valsE_length]; exact hi)
  have hv : (valsE es)[i]'(by rw [valsE_length]; exact hi) = es[i].2 := by simp [valsE]
  rw [hv] at hr hf
  exact ⟨b, o, cs, q1, q2, q3, q4, hr.1, hr.2, hf⟩

section
variable {S : List Nat} {w0 w : World} {L R : List Res} {K : VPost} {F : List Nat} {D : DiskM}
set_option maxHeartbeats 4000000 in
theorem Sep.lawKeep {n p v a : Nat} {V : VaultH} {A : AreaH} {es : Ents} {hv hs : List Value} {sure i : Nat} {N : Int} (s : Sep S w0 w (rV v V :: rM V.map (mapE es hv) :: rG V.order (keysE es) :: rA a A 89 :: rO A.recs 36 1 hs (es.map recE).length :: rDk p F D :: L) R) (inv : VL n p V a A D es sure i) (hi : i ≤ 200) (h4 : 4 ≤ n) (hn : n ≤ 60)
    (hr : rL hv (valsE es) ∈ R) (hrs : rL hs (es.map recE) ∈ R)
    (h : ∀ F' V' a' A' D' es' sure' hv' hs' w', VL n p V' a' A' D' es' sure' (i + 1) → es'.length ≤ es.length → Sep S w0 w' (rV v V' :: rM V'.map (mapE es' hv') :: rG V'.order (keysE es') :: rA a' A' 89 :: rO A'.recs 36 1 hs' (es'.map recE).length :: rDk p F' D' :: L) (rL hv' (valsE es') :: rL hs' (es'.map recE) :: R) → K (.int .i64 (sure' : Nat)) w') :
    fnW Tryz.prog 22 #[ptrA v, .int .i64 N, .int .i64 sure] w K := by
  refine fnW_of (by kernel_rfl) (c22_calls _ _ _ w K ?_)
  unfold c22
  have ok := inv.ok
  have hf := ok.few
  obtain ⟨q1, q2, q3, q4, q5, q6, q7⟩ := inv.facts
  have hdn := inv.dn
  have hvd := inv.vdisk
  have hsl := inv.sl
  refine s.entries ok inv.nd 0 1 2 rfl rfl rfl hr fun xe hse w1 s => ?_
  refine s.litG0 fun xs0 w2 s => ?_
  refine s.ents0 fun xw0 w3 s => ?_
  refine bindX_i fun J0 g0 => bindX_i fun J1 g1 => bindX_i fun J2 g2 => ?_
  have s := s.noRows
  have hsel : hse.length = es.length := by
    have h1 : RowsL w3 hse (valsE es) := s.rat 1 rfl
    rw [h1.length, valsE_length]
  have hv1k : ∀ e ∈ es, e.2.length ≤ 2 ^ 30 := fun e he => Nat.le_trans (ok.v e he) (by decide)
  have tail : ∀ (fr : Fr) (wr : World) (want : Ents) (xs xw : Value) (hw : List Value), want.Sublist es → hw.length = want.length → fr 0 = ptrA v → fr 2 = .int .i64 sure → fr 7 = xe → fr 8 = xs → fr 9 = xw →
      Sep S w0 wr (rE xw want hw :: rG xs (keysE want) :: rE xe es hse :: rV v V :: rM V.map (mapE es hv) :: rG V.order (keysE es) :: rA a A 89 :: rO A.recs 36 1 hs (es.map recE).length :: rDk p F D :: L) (rL hw (valsE want) :: rL hse (valsE es) :: R) → J1 .normal fr wr := by
    intro fr wr want xs xw hw hsub hwl k0 k2 k7 k8 k9 s
    refine seq_n g1 ?_
    rw [k0, k2, k7, k8, k9]
    have hkeep := keep_sub hsub inv.nd
    have hxo : OwnAt wr xs 34 32 (bc (keysE want).flatten) (keysE want).length := s.at 1 rfl
    have s := s.freeze 1 rfl (T' := rGR xs (keysE want)) hxo.rd (fun b hb => rdB_slB hb)
    have hwle : want.length ≤ es.length := hsub.length_le
    have hwok : EntsOk want := by rw [← hkeep]; exact ok.filter _
    have hwnd : (keysE want).Nodup := by rw [← hkeep]; exact nodup_keep inv.nd _
    have s : Sep S w0 wr (rV v V :: rM V.map (mapE es hv) :: rG V.order (keysE es) :: rDk V.disk F D :: rE xw want hw :: rE xe es hse :: rA a A 89 :: rO A.recs 36 1 hs (es.map recE).length :: L) (rGR xs (keysE want) :: rL hw (valsE want) :: rL hse (valsE es) :: R) := by
      rw [hvd]
      exact (((s.toFront 7 rfl).toFront 5 rfl).toFront 5 rfl).toFront 5 rfl
    obtain ⟨extra, H, F0, W, base, hx⟩ := inv.hist
    have hgl := hx.calm.gen hx.facts.2.2.2.2.2.2.2.2.2
    have h256 := hx.facts.2.2.2.2.2.2.2.2.2
    have hz := room_filter (size := D.n / 2) (keysE want) ok (by omega)
    refine s.vKeep (keep := keysE want) ok inv.nd (by simp [hr]) (by simp) (hwok.keys) (by rw [keysE_length]; omega) (by omega) (by omega) (by omega) (by omega) hz (fun hb F2 w5 s => ?_) (fun hb F2 c2 m2 o2 hv2 r2 hs2 w5 s => ?_)
    · rw [hkeep] at hb s hz
      obtain ⟨z1, z2⟩ := roomB_zero hz
      have hseen := hx.seen (by omega)
      have hends := hx.facts.2.2.2.2.2.2.1
      have hfb : firstB D = A.size - A.first := by
        unfold firstB
        rw [hseen]
        show (if A.first = 0 then D.n / 2 else 0) = _
        split <;> omega
      have hrl : (rowsB (highB (secsOf D.seen 0 D.n) + 1) 1 (want.map recE)).length ≤ 90 := by
        have := areaOf_length (highB (secsOf D.seen 0 D.n) + 1) 0 (want.map recE)
        rw [areaOf, areaX, List.length_cons] at this
        omega
      have hdn2 := beginD_n D (firstB D) (highB (secsOf D.seen 0 D.n) + 1) (want.map recE)
      have hi3 : Hist (beginD D (firstB D) (highB (secsOf D.seen 0 D.n) + 1) (want.map recE)).1 A (es.map recE) sure (i + 1) := by
        rw [hfb] at hb ⊢
        exact hx.failed (by omega) z2 (by omega) hb hrl
      generalize (beginD D (firstB D) (highB (secsOf D.seen 0 D.n) + 1) (want.map recE)).1 = D2 at *
      rw [ineq]
      refine cond_d (fun _ => ?_) (fun h => absurd (by decide) h)
      rw [ineq]
      refine gs_f ?_
      refine gs_f (s.entries ok inv.nd 0 1 2 rfl rfl rfl (by simp [hr]) fun xe2 hse2 w6 s => ?_)
      refine gs_f ?_
      have er1 : EntsR w6 xe2 hse2 es := ⟨OwnAt.rd (s.at 0 rfl), s.rat 0 rfl, ok.k32⟩
      have er2 : EntsR w6 xe hse es := ⟨OwnAt.rd (s.at 6 rfl), s.rd (rL hse (valsE es)) (by simp), ok.k32⟩
      refine gs_f (fnW_of (by kernel_rfl) (sameE_c er1 er2 (by omega) hv1k fun w7 e7 => ?_))
      have s := (s.ext0 e7).drop 0
      rw [decide_eq_true rfl]
      refine gs_f ?_
      refine not_ti ?_
      refine pick_fi ?_
      refine cndF ?_
      have s : Sep S w0 w7 (rV v V :: rM V.map (mapE es hv) :: rG V.order (keysE es) :: rDk V.disk F2 D2 :: rA a A 89 :: rO A.recs 36 1 hs (es.map recE).length :: L) _ := (s.drop 4).drop 4
      rw [hvd] at s
      have s : Sep S w0 w7 (rV v V :: rM V.map (mapE es hv) :: rG V.order (keysE es) :: rA a A 89 :: rO A.recs 36 1 hs (es.map recE).length :: rDk p F2 D2 :: L) _ := ((((s.toFront 5 rfl).toFront 5 rfl).toFront 4 rfl).toFront 4 rfl).toFront 4 rfl
      refine h F2 V a A D2 es sure hv hs w7 { vdisk := hvd, adisk := inv.adisk, area := inv.area, hist := hi3, ok := ok, nd := inv.nd, dn := hdn2.trans hdn } (Nat.le_refl _) (s.less (fun T hT => by
        rcases List.mem_cons.1 hT with rfl | hT
        · simp [hr]
        · rcases List.mem_cons.1 hT with rfl | hT
          · simp [hrs]
          · simp [hT]))
    · rw [hkeep] at hb s hz
      obtain ⟨z1, z2⟩ := roomB_zero hz
      have hdn2 := beginD_n D (firstB D) (highB (secsOf D.seen 0 D.n) + 1) (want.map recE)
      have hi3 := hx.calm.begun (p := V.disk) (i := i) hx.Hi (by omega) (by omega) (firstB_or D) (fun r hr => by
        rcases Nat.lt_or_ge 2000 r.length with h1 | h1
        · exact absurd (need_zero.2 h1) (z1 r hr)
        · exact h1) z2 r2 hb
      obtain ⟨A2, hA2⟩ : ∃ A2 : AreaH, A2 = ⟨V.disk, firstB D, D.n / 2, highB (secsOf D.seen 0 D.n) + 1, posR (want.map recE) (want.map recE).length, r2, false⟩ := ⟨_, rfl⟩
      have hrec : A2.recs = r2 := by rw [hA2]
      have hdk2 : A2.disk = V.disk := by rw [hA2]
      have hst2 : A2.stuck = false := by rw [hA2]
      rw [← hA2] at s hi3
      generalize (beginD D (firstB D) (highB (secsOf D.seen 0 D.n) + 1) (want.map recE)).1 = D2 at *
      rw [ineq]
      refine cond_d (fun h => absurd rfl h) (fun _ => ?_)
      refine s.entries hwok hwnd 0 1 2 rfl rfl rfl (by simp) fun xe2 hse2 w6 s => ?_
      have er1 : EntsR w6 xe2 hse2 want := ⟨OwnAt.rd (s.at 0 rfl), s.rat 0 rfl, hwok.k32⟩
      have er2 : EntsR w6 xw hw want := ⟨OwnAt.rd (s.at 7 rfl), s.rd (rL hw (valsE want)) (by simp), hwok.k32⟩
      refine fnW_of (by kernel_rfl) (sameE_c er1 er2 (by omega) (fun e he => Nat.le_trans (hwok.v e he) (by decide)) fun w7 e7 => ?_)
      have s := (s.ext0 e7).drop 0
      rw [decide_eq_true rfl]
      refine not_ti ?_
      rw [Bool.not_true]
      refine gs_f ?_
      refine gs_f (s.vSound 0 rfl ?_)
      refine gs_f ?_
      refine not_ti ?_
      refine pick_fi ?_
      refine cndF ?_
      rw [(OwnAt.rd (s.at 6 rfl)).lenw]
      have s : Sep S w0 w7 (rV v ⟨V.disk, some c2, m2, o2⟩ :: rM m2 (mapE want hv2) :: rG o2 (keysE want) :: rA c2 A2 89 :: rO r2 36 1 hs2 (want.map recE).length :: rDk V.disk F2 D2 :: L) _ := (((s.drop 6).drop 6).drop 6).drop 6
      rw [hvd] at s hdk2
      rw [← hrec] at s
      have hl3 : (want.map recE).length = want.length := List.length_map _
      rw [hl3] at hi3
      refine h F2 ⟨p, some c2, m2, o2⟩ c2 A2 D2 want want.length hv2 hs2 w7 { vdisk := rfl, adisk := hdk2, area := .inr ⟨rfl, hst2⟩, hist := hi3, ok := hwok, nd := hwnd, dn := hdn2.trans hdn } hwle (s.less (fun T hT => by
        rcases List.mem_cons.1 hT with rfl | hT
        · simp
        · rcases List.mem_cons.1 hT with rfl | hT
          · simp
          · simp [hT]))
  refine loop_i (fun m fr wr => ∃ (q : Nat) (want : Ents) (xs xw : Value) (hw : List Value), m = es.length - q ∧ q ≤ es.length ∧ want.Sublist (es.take q) ∧ hw.length = want.length ∧ fr 0 = ptrA v ∧ fr 1 = .int .i64 N ∧ fr 2 = .int .i64 sure ∧ fr 7 = xe ∧ fr 8 = xs ∧ fr 9 = xw ∧ fr 10 = .int .i64 q ∧
      Sep S w0 wr (rE xw want hw :: rG xs (keysE want) :: rE xe es hse :: rV v V :: rM V.map (mapE es hv) :: rG V.order (keysE es) :: rA a A 89 :: rO A.recs 36 1 hs (es.map recE).length :: rDk p F D :: L) (rL hw (valsE want) :: rL hse (valsE es) :: R)) es.length ?_ ?_
  · exact ⟨0, [], xs0, xw0, [], rfl, by omega, by simp, rfl, rfl, rfl, rfl, rfl, rfl, rfl, rfl, s⟩
  · rintro m fr wr J ⟨q, want, xs, xw, hw, rfl, hq, hsub, hwl, f0, f1, f2, f7, f8, f9, f10, s⟩ hJ hX
    rw [f7, f10, (OwnAt.rd (s.at 2 rfl)).lenw]
    refine nlss (cond_d (fun hlt => ?_) (fun hlt => ?_))
    · have hlt' : q < es.length := by omega
      refine bindX_i fun J3 g3 => bindX_i fun J4 g4 => ?_
      have htk : es.take (q + 1) = es.take q ++ [es[q]] := List.take_succ_eq_append_getElem hlt'
      have hwle : want.length ≤ es.length := by have h1 := hsub.length_le; rw [List.length_take] at h1; omega
      have fin : ∀ (fr' : Fr) (w' : World) (want' : Ents) (xs' xw' : Value) (hw' : List Value), want'.Sublist (es.take (q + 1)) → hw'.length = want'.length → fr' 0 = ptrA v → fr' 1 = .int .i64 N → fr' 2 = .int .i64 sure → fr' 7 = xe → fr' 8 = xs' → fr' 9 = xw' → fr' 10 = .int .i64 q →
          Sep S w0 w' (rE xw' want' hw' :: rG xs' (keysE want') :: rE xe es hse :: rV v V :: rM V.map (mapE es hv) :: rG V.order (keysE es) :: rA a A 89 :: rO A.recs 36 1 hs (es.map recE).length :: rDk p F D :: L) (rL hw' (valsE want') :: rL hse (valsE es) :: R) → J3 .normal fr' w' := by
        intro fr' w' want' xs' xw' hw' h1 h2 k0 k1 k2 k7 k8 k9 k10 s
        refine seq_n g3 ?_
        rw [k10]
        refine nadd (y := 1) (by omega) ?_
        exact hJ (es.length - (q + 1)) _ _ (by omega) ⟨q + 1, want', xs', xw', hw', rfl, by omega, h1, h2, k0, k1, k2, k7, k8, k9, rfl, s⟩
      have no : ∀ (fr' : Fr), fr' 0 = ptrA v → fr' 1 = .int .i64 N → fr' 2 = .int .i64 sure → fr' 7 = xe → fr' 8 = xs → fr' 9 = xw → fr' 10 = .int .i64 q → J3 .normal fr' wr := fun fr' k0 k1 k2 k7 k8 k9 k10 =>
        fin fr' wr want xs xw hw (by rw [htk]; exact hsub.trans (List.sublist_append_left _ _)) hwl k0 k1 k2 k7 k8 k9 k10 s
      refine nand (y := 1) (by omega) (by decide) ?_
      refine neql (y := 0) ?_
      rw [f1, f8, f9]
      -- the entry, if it is wanted
      have er0 : EntsR wr xe hse es := ⟨OwnAt.rd (s.at 2 rfl), s.rat 1 rfl, ok.k32⟩
      have hq2 : q < hse.length := by omega
      have hk := ok.k32 _ (List.getElem_mem hlt')
      have hbl : (bc es[q].1).length = 32 := by rw [bc_length, hk]
      have yes : ∀ (K' : Value → Value → Value → Value → Value → Value → Value → Value → VPost), (∀ t32 t33 t34 t35 t36 t40 t41 t42 t43 w', Sep S w0 w' (rE t43 (want ++ [es[q]]) (hw ++ [hse[q]]) :: rG t36 (keysE (want ++ [es[q]])) :: rE xe es hse :: rV v V :: rM V.map (mapE es hv) :: rG V.order (keysE es) :: rA a A 89 :: rO A.recs 36 1 hs (es.map recE).length :: rDk p F D :: L) (rL (hw ++ [hse[q]]) (valsE (want ++ [es[q]])) :: rL hse (valsE es) :: R) → K' t32 t33 t34 t35 t36 t40 t41 t42 t43 w') →
          idxW (some (none, 33)) xe (.int .i64 q) wr fun t32 w69 => offW (some 0) t32 w69 fun t33 w71 => loadW (some (true, 32)) t33 w71 fun t34 w73 => insW Tryz.prog (Instr.buildSlice 57 1 #[(0, t34)]) w73 fun t35 w75 => insW Tryz.prog (Builtin.append_ #[57, 57] 57 #[xs, t35]) w75 fun t36 w77 =>
          idxW (some (none, 33)) xe (.int .i64 q) w77 fun t40 w79 => loadW (some (true, 33)) t40 w79 fun t41 w81 => insW Tryz.prog (Instr.buildSlice 32 1 #[(0, t41)]) w81 fun t42 w83 => insW Tryz.prog (Builtin.append_ #[32, 32] 32 #[xw, t42]) w83 fun t43 w85 => K' t32 t33 t34 t35 t36 t40 t41 t42 t43 w85 := by
        intro K' hK'
        obtain ⟨b1, o1, cs1, hix1, hb1, hl1, hc1, _, _, _⟩ := er0.el2 hlt' hq2 .i64
        have p1 : (cs1.drop (o1 + 0)).take 32 = bc es[q].1 := by rw [at_part hc1 (show 0 + 32 ≤ 33 by decide), List.drop_zero, List.take_left' hbl]
        refine hix1 _ ?_
        refine off_i (Go.Proofs.YtedebapgmfnflaaGreatDoor.loadN hb1 (by omega) ?_)
        rw [p1]
        refine s.litG hk fun vl w5 s => ?_
        have hlit : RdSl w5 vl 32 (bc [es[q].1].flatten) [es[q].1].length := OwnAt.rd (s.at 0 rfl)
        refine s.apG (v := xs) (ls := keysE want) (ms := [es[q].1]) 2 rfl hlit (by rw [keysE_length]; simp; omega) fun xs2 w6 s => ?_
        have s := s.drop 0
        have er0 : EntsR w6 xe hse es := ⟨OwnAt.rd (s.at 2 rfl), s.rat 1 rfl, ok.k32⟩
        obtain ⟨b1, o1, cs1, hix1, hb1, hl1, hc1, hr1, hcp1, hf1⟩ := er0.el2 hlt' hq2 .i64
        refine hix1 _ ?_
        refine Go.Proofs.YtedebapgmfnflaaGreatDoor.loadN hb1 (by omega) ?_
        rw [hc1]
        obtain ⟨ra, rc, hra⟩ := hr1.len
        refine s.entAdd (l := es[q].2) 0 rfl hra hk hwl (by omega) fun t xw2 w7 s => ?_
        have er0 : EntsR w7 xe hse es := ⟨OwnAt.rd (s.at 2 rfl), s.rat 1 rfl, ok.k32⟩
        obtain ⟨_, _, _, _, _, _, _, hr1, hcp1, hf1⟩ := er0.el2 hlt' hq2 .i64
        have s := s.growRd (hs := hw) (ls := valsE want) (v := hse[q]) (l := es[q].2) (U := rL hse (valsE es)) (by simp) hr1 hcp1 (by simp) hf1
        have ev : valsE (want ++ [es[q]]) = valsE want ++ [es[q].2] := by simp [valsE]
        have ek : keysE (want ++ [es[q]]) = keysE want ++ [es[q].1] := by simp [keysE]
        rw [← ev] at s
        refine hK' _ _ _ _ _ _ _ _ _ w7 ?_
        rw [ek]
        exact s.less (fun T hT => by
          rcases List.mem_cons.1 hT with rfl | hT
          · simp
          · simp [hT])
      by_cases hev : q &&& 1 = 0
      · rw [decide_eq_true hev]
        refine gs_tf ?_
        refine gs_tf ?_
        refine pick_ti ?_
        refine cndT ?_
        refine yes _ fun t32 t33 t34 t35 t36 t40 t41 t42 t43 w5 s => ?_
        refine fin _ w5 (want ++ [es[q]]) t36 t43 (hw ++ [hse[q]]) (by rw [htk]; exact hsub.append (List.Sublist.refl _)) (by rw [List.length_append, List.length_append, hwl]; rfl) ?_ ?_ ?_ ?_ ?_ ?_ ?_ s
        · exact f0
        · exact f1
        · exact f2
        · exact f7
        · rfl
        · rfl
        · exact f10
      · rw [decide_eq_false hev]
        refine gs_f ?_
        refine gs_f ?_
        rw [ieql]
        refine pick_fi ?_
        refine cond_d (fun _ => ?_) (fun _ => ?_)
        · refine yes _ fun t32 t33 t34 t35 t36 t40 t41 t42 t43 w5 s => ?_
          refine fin _ w5 (want ++ [es[q]]) t36 t43 (hw ++ [hse[q]]) (by rw [htk]; exact hsub.append (List.Sublist.refl _)) (by rw [List.length_append, List.length_append, hwl]; rfl) ?_ ?_ ?_ ?_ ?_ ?_ ?_ s
          · exact f0
          · exact f1
          · exact f2
          · exact f7
          · rfl
          · rfl
          · exact f10
        · refine no _ ?_ ?_ ?_ ?_ ?_ ?_ ?_
          · exact f0
          · exact f1
          · exact f2
          · exact f7
          · exact f8
          · exact f9
          · exact f10
    · obtain rfl : q = es.length := by omega
      rw [List.take_length] at hsub
      exact hX _ _ _ (by simp) (g2 _ _ _ (blk_x (tail _ wr want xs xw hw hsub hwl f0 f2 f7 f8 f9 s)))
end
end Go.Proofs.YtedebapgmfnflaaGreatDoor

/- VaultLasts: its walk. -/
namespace Go.Proofs.YtedebapgmfnflaaGreatDoor
open Go
set_option maxRecDepth 100000

theorem entC_take : ∀ {es : Ents} {hs : List Value} (m : Nat), hs.length = es.length → (∀ e ∈ es, e.1.length = 32) → (entC es hs).take (m * 33) = entC (es.take m) (hs.take m)
  | _, _, 0, _, _ => by simp [entC]
  | [], [], m + 1, _, _ => by simp [entC]
  | e :: es, h :: hs, m + 1, hl, hk => by
    have hl1 : (bc e.1 ++ [h]).length = 33 := by rw [List.length_append, bc_length, hk e (by simp)]; rfl
    have ih := entC_take (es := es) (hs := hs) m (by simpa using hl) (fun x hx => hk x (by simp [hx]))
    show ((bc e.1 ++ [h]) ++ entC es hs).take ((m + 1) * 33) = (bc e.1 ++ [h]) ++ entC (es.take m) (hs.take m)
    rw [← ih, show (m + 1) * 33 = (bc e.1 ++ [h]).length + m * 33 by rw [hl1]; omega, List.take_length_add_append]
  | [], _ :: _, _ + 1, hl, _ => by simp at hl
  | _ :: _, [], _ + 1, hl, _ => by simp at hl
theorem nodup_take {es : Ents} (hd : (keysE es).Nodup) (m : Nat) : (keysE (es.take m)).Nodup := by
  have e : keysE (es.take m) = (keysE es).take m := by unfold keysE; rw [List.map_take]
  rw [e]
  exact hd.sublist (List.take_sublist _ _)
/-- The first of them. -/
theorem EntsR.cut {w : World} {K : VPost} {x : Value} {hs : List Value} {es : Ents} (h : EntsR w x hs es) (hc : capOk x) {m : Nat} (hm : m ≤ es.length) (hK : ∀ z, EntsR w z (hs.take m) (es.take m) → K z w) : sliceW (.sl 33) x none (some (.int .i64 m)) none w K := by
  have hl := h.rows.length
  rw [valsE_length] at hl
  refine h.rd.cut (l := 0) (h := m) hc rfl rfl (by omega) hm fun z hz _ _ _ => hK z ⟨?_, ?_, fun e he => h.k32 e (List.mem_of_mem_take he)⟩
  · rw [Nat.zero_mul, List.drop_zero, Nat.sub_zero, entC_take m hl h.k32] at hz
    rw [show (es.take m).length = m by rw [List.length_take]; omega]
    exact hz
  · have e : valsE (es.take m) = (valsE es).take m := by unfold valsE; rw [List.map_take]
    rw [e]
    exact RowsL.takeL h.rows m

section
variable {S : List Nat} {w0 w : World} {L R : List Res} {K : VPost} {F : List Nat} {D : DiskM}
/-- Put, whatever comes of it, under a limit. -/
theorem Sep.vPutL {n p v a : Nat} {V : VaultH} {A : AreaH} {x : Value} {k l : Bytes} {es : Ents} {hv hs : List Value} {sure i : Nat} (s : Sep S w0 w (rV v V :: rM V.map (mapE es hv) :: rG V.order (keysE es) :: rA a A 89 :: rO A.recs 36 1 hs (es.map recE).length :: rDk p F D :: L) R) (inv : VL n p V a A D es sure i) (hi : i ≤ 200) (hn : n ≤ 4096)
    (hr : rL hv (valsE es) ∈ R) (hrs : rL hs (es.map recE) ∈ R) (hx : Reads L R x l) (hk : k.length = 32) (hf : es.length < 100000)
    (h : ∀ e F' V' A' D' es' hv' hs' w', VL n p V' a A' D' es' sure (i + 1) → es'.length ≤ es.length + 1 → Sep S w0 w' (rV v V' :: rM V'.map (mapE es' hv') :: rG V'.order (keysE es') :: rA a A' 89 :: rO A'.recs 36 1 hs' (es'.map recE).length :: rDk p F' D' :: L) (rL hv' (valsE es') :: rL hs' (es'.map recE) :: R) → K (.int .i64 e) w') :
    fnW Tryz.prog 15 #[ptrA v, kv k, x] w K := by
  obtain ⟨f1, f2, f3, f4, f5, f6, f7⟩ := inv.facts
  have hdn := inv.dn
  have had := inv.adisk
  have hvd := inv.vdisk
  have hfw := inv.ok.few
  obtain ⟨extra, H, F0, W, base, hxx⟩ := inv.hist
  have s : Sep S w0 w (rV v V :: rM V.map (mapE es hv) :: rG V.order (keysE es) :: rA a A 89 :: rO A.recs 36 1 hs (es.map recE).length :: rDk A.disk F D :: L) R := by rw [had]; exact s
  have hst : V.area = some a → A.stuck = false := fun e => by
    rcases inv.area with h1 | h1
    · rw [h1] at e; cases e
    · exact h1.2
  have old : ∀ e w', Sep S w0 w' (rV v V :: rM V.map (mapE es hv) :: rG V.order (keysE es) :: rA a A 89 :: rO A.recs 36 1 hs (es.map recE).length :: rDk A.disk F D :: L) R → K (.int .i64 e) w' := fun e w' s => by
    rw [had] at s
    exact h e F V A D es hv hs w' inv.step (Nat.le_succ _) (s.less (fun T hT => by
      rcases List.mem_cons.1 hT with rfl | hT
      · exact hr
      · rcases List.mem_cons.1 hT with rfl | hT
        · exact hrs
        · exact hT))
  have hlen : (k ++ l).length = 32 + l.length := by rw [List.length_append, hk]
  have har : V.area = none ∨ (V.area = some a ∧ (rA a A 89 :: rO A.recs 36 1 hs (es.map recE).length :: rDk A.disk F D :: L) = rA a A 89 :: rO A.recs 36 1 hs (es.map recE).length :: rDk A.disk F D :: L ∧ rL hs (es.map recE) ∈ R ∧ A.stuck = false ∧ 1 ≤ A.gen ∧ A.gen ≤ 4294967295 ∧ A.next ≤ A.size ∧ A.first + A.size ≤ 100000 ∧ D.pend.length ≤ 100000 ∧ (es.map recE).length ≤ 2 ^ 30) := by
    rcases inv.area with h1 | h1
    · exact .inl h1
    · exact .inr ⟨h1.1, rfl, hrs, h1.2, f1, f2, f3, by omega, by omega, by rw [List.length_map]; omega⟩
  refine s.vPut (L' := L) (t := 89) inv.ok hr hx (fun T hT => by simp [hT]) hk (fun _ w' s => old _ w' s) (fun _ _ _ _ w' s => old _ w' s) (fun _ _ w' s => old _ w' s) (fun _ _ _ w' s => old _ w' s) har
    (fun _ _ _ _ w' s => old _ w' s) (fun h1 hno ha hfi hb F' w' s => ?_) (fun h1 hno ha hfi hb F' o' hv' r' h' w' s => ?_)
  · have hnd := need_pos (n := (k ++ l).length) (by omega)
    have hh := (hxx.add (hst ha) (r := k ++ l) (by omega) hfi).2 hb
    have hln := layD_nA D (A.first + A.next) (packB A.gen A.next (k ++ l))
    rw [had] at s
    have hA : ({ disk := p, first := A.first, size := A.size, gen := A.gen, next := A.next, recs := A.recs, stuck := true } : AreaH) = { A with stuck := true } := by rw [← had]
    rw [hA] at s
    exact h _ F' { V with area := none } { A with stuck := true } _ es hv hs w' { vdisk := hvd, adisk := had, area := .inl rfl, hist := hh, ok := inv.ok, nd := inv.nd, dn := hln.trans hdn } (Nat.le_succ _) (s.less (fun T hT => by
      rcases List.mem_cons.1 hT with rfl | hT
      · exact hr
      · rcases List.mem_cons.1 hT with rfl | hT
        · exact hrs
        · exact hT))
  · have hnd := need_pos (n := (k ++ l).length) (by omega)
    have hh := (hxx.add (hst ha) (r := k ++ l) (by omega) hfi).1 hb r'
    have hln := layD_nA D (A.first + A.next) (packB A.gen A.next (k ++ l))
    have e := recs_snoc es k l
    rw [had] at s
    have hA : ({ disk := p, first := A.first, size := A.size, gen := A.gen, next := A.next + needN (k ++ l).length, recs := r', stuck := A.stuck } : AreaH) = { A with next := A.next + needN (k ++ l).length, recs := r' } := by rw [← had]
    rw [hA] at s
    rw [← e] at hh s
    exact h _ F' { V with order := o' } { A with next := A.next + needN (k ++ l).length, recs := r' } _ (es ++ [(k, l)]) hv' (hs ++ [h']) w' { vdisk := hvd, adisk := had, area := .inr ⟨ha, hst ha⟩, hist := hh, ok := inv.ok.snoc hk (by omega) hf, nd := nodup_snoc inv.nd hno, dn := hln.trans hdn } (by rw [List.length_append]; exact Nat.le_refl _) s
end

set_option maxHeartbeats 2000000 in
theorem lastsV_walk {w : World} {K : VPost} {n : Int} {y : Value} {l : List CallV} (hv0 : IsCallsV w y l) (hK : ∀ w', Ext [] w w' → K (.bool true) w') :
    Calls Tryz.prog 4 #[.int .i64 n, y] w (retK K) := by
  refine c4_calls _ _ w K ?_
  unfold c4
  refine fnW_of (by kernel_rfl) (alive6_c fun w1 e1 => ?_)
  refine not_ti ?_
  refine cndF ?_
  refine fnW_of (by kernel_rfl) (great6_c (hv0.keep e1) ?_ fun h40 h3000 => ?_)
  · iterate 2 ((repeat with_reducible refine gs_tf ?_); refine pick_ti ?_)
    exact cndT (hK _ e1)
  have s := (Sep.nil w).ext0 e1
  refine gs_f ?_
  refine gs_f ?_
  rw [ilss]
  refine pick_fi ?_
  by_cases hn4 : n < 4
  · rw [decide_eq_true hn4]
    iterate 1 ((repeat with_reducible refine gs_tf ?_); refine pick_ti ?_)
    exact cndT (hK _ s.ext)
  rw [decide_eq_false hn4]
  refine gs_f ?_
  refine gs_f ?_
  rw [igtr]
  refine pick_fi ?_
  refine cond_d (fun _ => hK _ s.ext) (fun hn60 => ?_)
  obtain ⟨n, rfl⟩ : ∃ k : Nat, n = k := ⟨n.toNat, by omega⟩
  refine fnW_of (by kernel_rfl) (new_c n (fun h => absurd ⟨by omega, by omega⟩ h) fun _ p F w2 hd e hf => ?_)
  rw [Int.toNat_natCast] at hd
  have hok := hd.okD
  have s := s.add (T := rDk p F (DiskM.fresh n)) hd e hf
  rw [extr0, extr1]
  refine nneq (x := 0) (y := 0) ?_
  refine gs_f ?_
  refine gs_f ?_
  rw [ptr_eql_nil ptr_disk]
  refine pick_fi ?_
  refine cndF ?_
  have hz : roomB ((DiskM.fresh n).n / 2) (([] : Ents).map recE) = 0 := roomB_ok (by simp) (by show 1 ≤ n / 2; omega)
  refine s.vOpenInv (n := n) (H := 0) (i := 0) (es := []) (Calm.fresh hok) (by decide) (by decide) (by show 4 ≤ n; omega) rfl (by omega) (by show (-1 : Int) < 0; decide) (by show 0 ≤ 40000; decide) (fresh_ents (by omega)) ⟨by simp, by simp, by simp⟩ (by simp [keysE]) hz (fun B hB => by rw [fresh_none (n := n) (by omega)] at hB; cases hB) fun F1 v V c A D1 hv hs w3 inv hsz hnx s => ?_
  rw [extr0, extr1]
  refine nneq (x := 0) (y := 0) ?_
  refine gs_f ?_
  refine gs_f ?_
  rw [ptr_eql_nil ptr_vault]
  refine pick_fi ?_
  refine cndF ?_
  have inv : VL n p V c A D1 [] 0 (0 + 1) := inv.toVL
  refine bindX_i fun J0 g0 => bindX_i fun J1 g1 => bindX_i fun J2 g2 => ?_
  obtain ⟨ya, yc, hya⟩ := hv0.rd.len
  have hyl : ∀ (w : World) (K : VPost), lenW Tryz.prog (some true) #[22] 3 #[y] w K = K (.int .i64 l.length) w := fun w K => by rw [hya, len_s]
  refine loop_i (fun m fr wr => ∃ (i v a : Nat) (V : VaultH) (A : AreaH) (D : DiskM) (F : List Nat) (es : Ents) (sure : Nat) (hv hs : List Value), m = l.length - i ∧ i ≤ l.length ∧ fr 1 = y ∧ fr 5 = ptrA p ∧ fr 7 = ptrA v ∧ fr 8 = .int .i64 sure ∧ fr 9 = .int .i64 i ∧ VL n p V a A D es sure (i + 1) ∧ es.length ≤ i ∧
    Sep [] w wr (rV v V :: rM V.map (mapE es hv) :: rG V.order (keysE es) :: rA a A 89 :: rO A.recs 36 1 hs (es.map recE).length :: rDk p F D :: []) (rL hv (valsE es) :: rL hs (es.map recE) :: [])) l.length ?_ ?_
  · exact ⟨0, v, c, V, A, D1, F1, [], 0, hv, hs, rfl, by omega, rfl, rfl, rfl, rfl, rfl, inv, Nat.le_refl _, s⟩
  · rintro m fr wr J ⟨i, v, a, V, A, D, F, es, sure, hv, hs, rfl, hi, f1, f5, f7, f8, f9, inv, hel, s⟩ hJ hX
    rw [f1, hyl, f9]
    refine nlss (cond_d (fun hlt => ?_) (fun hlt => ?_))
    · refine bindX_i fun J3 g3 => bindX_i fun J4 g4 => ?_
      have hcl := hv0.keep s.ext
      obtain ⟨b1, o1, cs1, hix1, hb1, hle1, hc1⟩ := hcl.elem hlt .i64
      have hg := hcl.good l[i] (List.getElem_mem hlt)
      have hg0 := hv0.good l[i] (List.getElem_mem hlt)
      have hgl := h3000 l[i] (List.getElem_mem hlt)
      obtain ⟨q1, q2, q3, q4, q5, q6, q7⟩ := inv.facts
      have hdn := inv.dn
      have hvd := inv.vdisk
      have had := inv.adisk
      have hsl := inv.sl
      refine hix1 _ ?_
      refine loadN hb1 hle1 ?_
      rw [hc1]
      generalize l[i] = c at *
      refine s.alloc zero_callV rfl fun q w7 s _ => ?_
      refine s.storeAll (vs := callVCells c) 0 rfl rfl rfl (by
        obtain ⟨xa, xc, hx⟩ := hg.rd.len
        intro y hy'
        simp only [callVCells, List.mem_cons, List.not_mem_nil, or_false] at hy'
        rcases hy' with rfl | rfl | rfl | rfl
        · rfl
        · rfl
        · rfl
        · rw [hx]; rfl) fun w8 s _ => ?_
      have s : Sep [] w w8 (rV v V :: rM V.map (mapE es hv) :: rG V.order (keysE es) :: rA a A 89 :: rO A.recs 36 1 hs (es.map recE).length :: rDk p F D :: rB q (callVCells c) 38 :: []) (rL hv (valsE es) :: rL hs (es.map recE) :: []) := s.toBack
      refine bindX_i fun J5 g5 => ?_
      -- behind each call
      have fin : ∀ (fr' : Fr) (wr' : World) (v' a' : Nat) (V' : VaultH) (A' : AreaH) (D' : DiskM) (F' : List Nat) (es' : Ents) (sure' : Nat) (hv' hs' : List Value), VL n p V' a' A' D' es' sure' (i + 1 + 1) → es'.length ≤ i + 1 →
          Sep [] w wr' (rV v' V' :: rM V'.map (mapE es' hv') :: rG V'.order (keysE es') :: rA a' A' 89 :: rO A'.recs 36 1 hs' (es'.map recE).length :: rDk p F' D' :: []) (rL hv' (valsE es') :: rL hs' (es'.map recE) :: []) →
          fr' 1 = y → fr' 5 = ptrA p → fr' 7 = ptrA v' → fr' 8 = .int .i64 sure' → fr' 9 = .int .i64 i → J5 .normal fr' wr' := by
        intro fr' wr' v' a' V' A' D' F' es' sure' hv' hs' inv' hel' s k1 k5 k7 k8 k9
        have hsl' := inv'.sl
        refine seq_n g5 ?_
        rw [k8, k7, ilss]
        rw [decide_eq_false (show ¬ ((sure' : Int) < 0) by omega)]
        refine gs_f ?_
        refine gs_f ?_
        refine gs_f (s.vLen 0 2 rfl rfl ?_)
        refine gs_f ?_
        refine ngtr ?_
        rw [decide_eq_false (show ¬ es'.length < sure' by omega)]
        refine pick_fi ?_
        refine cndF ?_
        refine seq_n g3 ?_
        show binN _ _ _ _ (fr' 9) _ _ _
        rw [k9]
        refine nadd (y := 1) (by omega) ?_
        exact hJ (l.length - (i + 1)) _ _ (by omega) ⟨i + 1, v', a', V', A', D', F', es', sure', hv', hs', rfl, by omega, k1, k5, k7, k8, rfl, inv', hel', s⟩
      refine off_i ?_
      refine s.load1 6 rfl rfl ?_
      refine bindX_i fun J6 g6 => ?_
      have s := s.addBase (T := rR c.bv 1 (bc c.bs) c.bs.length) hg0.rd
      rw [ieql]
      refine cond_d (fun h0 => ?_) (fun h0 => ?_)
      · have s := s.drew
        generalize w8.drew = w8 at *
        refine off_i ?_
        refine s.load1 (v := bv c.key) 6 rfl rfl ?_
        rw [show Value.int .u8 15 = bv 15 from rfl]
        refine u8_and fun z => ?_
        refine off_i ?_
        refine s.load1 (v := c.bv) 6 rfl rfl ?_
        refine fnW_of (by kernel_rfl) (key_c z fun w9 e9 => ?_)
        have s := s.ext0 e9
        refine ⟨s.load1 (v := c.bv) 6 rfl rfl ⟨rfl, rfl⟩, ?_⟩
        rw [f7]
        refine s.vPutL (k := keyD z) (l := c.bs) inv (by omega) (by omega) (by simp) (by simp) (.inl (by simp)) (keyD_len z) (by omega) fun e F2 V2 A2 D2 es2 hv2 hs2 w10 inv2 hl2 s => ?_
        refine fin _ w10 v a V2 A2 D2 F2 es2 sure hv2 hs2 inv2 (by omega) ((s.drop 6).less (fun T hT => by
          simp only [List.mem_cons, List.not_mem_nil, or_false] at hT
          rcases hT with rfl | rfl <;> simp)) ?_ ?_ ?_ ?_ ?_
        · exact f1
        · exact f5
        · exact f7
        · exact f8
        · exact f9
      rw [ieql]
      refine cond_d (fun h1 => ?_) (fun h1 => ?_)
      · rw [f7]
        rcases inv.area with ha | ⟨ha, hst⟩
        · refine s.vFlushN 0 rfl ha ?_
          refine nneq (x := 0) (y := 0) (cond_d (fun h => absurd rfl h) (fun _ => ?_))
          refine s.vSound 0 rfl ?_
          rw [ha]
          refine cndF ?_
          refine fin _ w8 v a V A D F es sure hv hs inv.step (by omega) ((s.drop 6).less (fun T hT => by
            simp only [List.mem_cons, List.not_mem_nil, or_false] at hT
            rcases hT with rfl | rfl <;> simp)) ?_ ?_ ?_ ?_ ?_
          · exact f1
          · exact f5
          · exact f7
          · exact f8
          · exact f9
        · refine s.vFlush (A := A) 0 3 5 rfl ha rfl (by show some (rDk p F D) = _; rw [had]) fun F3 w9 s => ?_
          have s : Sep [] w w9 (rV v V :: rM V.map (mapE es hv) :: rG V.order (keysE es) :: rA a A 89 :: rO A.recs 36 1 hs (es.map recE).length :: rDk A.disk F3 D.flush :: rB q (callVCells c) 38 :: []) _ := s
          rw [had] at s
          have inv2 : VL n p V a A D.flush es es.length (i + 1 + 1) := by
            obtain ⟨extra, H, F0, W, base, hx⟩ := inv.hist
            have hh := hx.flush.step
            rw [List.length_map] at hh
            exact { vdisk := hvd, adisk := had, area := inv.area, hist := ⟨extra, H, W, W, base, hh⟩, ok := inv.ok, nd := inv.nd, dn := hdn }
          refine nneq (x := 0) (y := 0) (cond_d (fun h => absurd rfl h) (fun _ => ?_))
          refine s.vSound 0 rfl ?_
          rw [ha]
          refine cndT ?_
          refine s.vLen 0 2 rfl rfl ?_
          refine fin _ w9 v a V A D.flush F3 es es.length hv hs inv2 (by omega) ((s.drop 6).less (fun T hT => by
            simp only [List.mem_cons, List.not_mem_nil, or_false] at hT
            rcases hT with rfl | rfl <;> simp)) ?_ ?_ ?_ ?_ ?_
          · exact f1
          · exact f5
          · exact f7
          · exact rfl
          · exact f9
      rw [ieql]
      refine cond_d (fun h2 => ?_) (fun h2 => ?_)
      · refine off_i ?_
        refine s.load1 6 rfl rfl ?_
        rw [f7, f8]
        refine s.lawKeep inv (by omega) (by omega) (by omega) (by simp) (by simp) fun F2 V2 a2 A2 D2 es2 sure2 hv2 hs2 w10 inv2 hl2 s => ?_
        refine fin _ w10 v a2 V2 A2 D2 F2 es2 sure2 hv2 hs2 inv2 (by omega) ((s.drop 6).less (fun T hT => by
          simp only [List.mem_cons, List.not_mem_nil, or_false] at hT
          rcases hT with rfl | rfl <;> simp)) ?_ ?_ ?_ ?_ ?_
        · exact f1
        · exact f5
        · exact f7
        · exact rfl
        · exact f9
      rw [ieql]
      refine cond_d (fun h3 => ?_) (fun h3 => ?_)
      · refine off_i ?_
        refine s.load1 6 rfl rfl ?_
        rw [f5]
        refine s.dlimit 5 rfl c.n hg.num.2 fun F2 w9 s => ?_
        have inv2 : VL n p V a A (D.limit c.n) es sure (i + 1 + 1) := by
          obtain ⟨extra, H, F0, W, base, hx⟩ := inv.hist
          exact { vdisk := hvd, adisk := had, area := inv.area, hist := ⟨extra, H, F0, W, base, (hx.limit c.n hg.num.2).step⟩, ok := inv.ok, nd := inv.nd, dn := hdn }
        refine fin _ w9 v a V A (D.limit c.n) F2 es sure hv hs inv2 (by omega) ((s.drop 6).less (fun T hT => by
          simp only [List.mem_cons, List.not_mem_nil, or_false] at hT
          rcases hT with rfl | rfl <;> simp)) ?_ ?_ ?_ ?_ ?_
        · exact f1
        · exact f5
        · exact f7
        · exact f8
        · exact f9
      rw [ieql]
      refine cond_d (fun h4 => ?_) (fun h4 => ?_)
      · obtain ⟨extra, H, F0, W, base, hx⟩ := inv.hist
        have x10 := hx.facts.2.2.2.2.2.2.2.2.2
        have ok := inv.ok
        have hfw := ok.few
        rw [f7]
        refine s.entries ok inv.nd 0 1 2 rfl rfl rfl (by simp) fun xe hse w9 s => ?_
        refine off_i ?_
        refine s.load1 (v := c.bv) 7 rfl rfl ?_
        rw [f5]
        refine s.dcrash 6 rfl c.bs (by simp) (by omega) fun e2 F2 w10 s => ?_
        have s : Sep [] w w10 (rE xe es hse :: rV v V :: rM V.map (mapE es hv) :: rG V.order (keysE es) :: rA a A 89 :: rO A.recs 36 1 hs (es.map recE).length :: rDk p F2 (D.crash c.bs) :: rB q (callVCells c) 38 :: []) _ := s
        obtain ⟨m, m1, m2, hcur⟩ := hx.crash (by omega) c.bs
        have hcalm2 := hx.calm.crash x10 c.bs
        have hcn : (D.crash c.bs).n = n := hdn
        have hcl : (D.crash c.bs).left < 0 := by show (-1 : Int) < 0; decide
        have hcp : (D.crash c.bs).pend.length ≤ 40000 := by show 0 ≤ 40000; decide
        have hcur2 : currentA (D.crash c.bs).seen ((D.crash c.bs).n / 2) = some ⟨A.first, A.size, A.gen, posR (es.map recE) m, (es.map recE).take m, true⟩ := hcur
        have hpm := posR_mono (es.map recE) m2
        have hpt := posR_take (es.map recE) m m2
        generalize D.crash c.bs = D2 at *
        rw [List.length_map] at m2
        have hml : (es.take m).length = m := by rw [List.length_take]; omega
        have hmt : (es.take m).map recE = (es.map recE).take m := List.map_take
        have okm := ok.take m
        have ndm := nodup_take inv.nd m
        have hents : entsD D2 = es.take m := by
          unfold entsD
          rw [hcur2]
          exact load_recs ok.k32 ok.v inv.nd m m2
        have hzm : roomB (D2.n / 2) ((es.take m).map recE) = 0 := roomB_ok (fun r hr => Nat.le_trans (recE_len okm r hr) (by decide)) (by rw [hmt, hpt, hcn]; omega)
        have s : Sep [] w w10 (rDk p F2 D2 :: rE xe es hse :: rV v V :: rM V.map (mapE es hv) :: rG V.order (keysE es) :: rA a A 89 :: rO A.recs 36 1 hs (es.map recE).length :: rB q (callVCells c) 38 :: []) _ := s.toFront 6 rfl
        refine s.vOpenInv (n := n) (H := H) (i := i + 1) (es := es.take m) hcalm2 hx.Hi (by omega) (by omega) hcn (by omega) hcl hcp hents okm ndm hzm (fun B hB => by
          rw [hcur2] at hB
          obtain rfl := Option.some.inj hB
          refine ⟨by show ((es.map recE).take m).length ≤ 100000; rw [List.length_take]; omega, fun r hr => Nat.le_trans (recE_len okm r (by rw [hmt]; exact hr)) (by decide)⟩) fun F3 u U c2 A2 D3 hv2 hs2 w11 inv2 _ _ s => ?_
        have hU := inv2.area
        rw [extr0, extr1]
        refine nneq (x := 0) (y := 0) ?_
        refine gs_f ?_
        refine gs_f ?_
        rw [ptr_eql_nil ptr_vault]
        refine pick_fi ?_
        refine gs_f ?_
        refine gs_f (s.vSound 0 rfl ?_)
        rw [hU]
        refine gs_f ?_
        refine not_ti ?_
        refine pick_fi ?_
        refine cndF ?_
        refine s.entries okm ndm 0 1 2 rfl rfl rfl (by simp) fun xe2 hse2 w12 s => ?_
        have lx : ∀ (K : VPost), lenW Tryz.prog (some true) #[32] 3 #[xe2] w12 K = K (.int .i64 (es.take m).length) w12 := fun K => (OwnAt.rd (s.at 0 rfl)).lenw
        have ly : ∀ (K : VPost), lenW Tryz.prog (some true) #[32] 3 #[xe] w12 K = K (.int .i64 es.length) w12 := fun K => (OwnAt.rd (s.at 7 rfl)).lenw
        rw [lx, f8]
        refine nlss ?_
        rw [decide_eq_false (show ¬ (es.take m).length < sure by omega)]
        refine gs_f ?_
        refine gs_f ?_
        rw [lx]
        refine gs_f ?_
        refine gs_f ?_
        rw [ly]
        refine gs_f ?_
        refine ngtr ?_
        rw [decide_eq_false (show ¬ (es.take m).length > es.length by omega)]
        refine pick_fi ?_
        refine gs_f ?_
        refine gs_f ?_
        refine gs_f ?_
        refine gs_f ?_
        rw [lx, hml]
        refine gs_f ?_
        have er1 : EntsR w12 xe2 hse2 (es.take m) := ⟨OwnAt.rd (s.at 0 rfl), s.rat 0 rfl, okm.k32⟩
        have er2 : EntsR w12 xe hse es := ⟨OwnAt.rd (s.at 7 rfl), s.rd (rL hse (valsE es)) (by simp), ok.k32⟩
        refine er2.cut (OwnAt.cap (s.at 7 rfl)) m2 fun z er3 => ?_
        refine gs_f ?_
        refine fnW_of (by kernel_rfl) (sameE_c er1 er3 (by omega) (fun e he => Nat.le_trans (okm.v e he) (by decide)) fun w13 e13 => ?_)
        have s := (s.ext0 e13).drop 0
        rw [decide_eq_true rfl]
        refine gs_f ?_
        refine not_ti ?_
        refine pick_fi ?_
        refine cndF ?_
        refine s.vLen 0 2 rfl rfl ?_
        have inv3 := inv2.toVL
        rw [List.length_map] at inv3
        refine fin _ w13 u c2 U A2 D3 F3 (es.take m) (es.take m).length hv2 hs2 inv3 (by omega) ((((((((s.drop 6).drop 6).drop 6).drop 6).drop 6).drop 6).drop 6).less (fun T hT => by
          simp only [List.mem_cons, List.not_mem_nil, or_false] at hT
          rcases hT with rfl | rfl <;> simp)) ?_ ?_ ?_ ?_ ?_
        · exact f1
        · exact f5
        · exact rfl
        · exact rfl
        · exact f9
      refine fin _ w8 v a V A D F es sure hv hs inv.step (by omega) ((s.drop 6).less (fun T hT => by
          simp only [List.mem_cons, List.not_mem_nil, or_false] at hT
          rcases hT with rfl | rfl <;> simp)) ?_ ?_ ?_ ?_ ?_
      · exact f1
      · exact f5
      · exact f7
      · exact f8
      · exact f9
    · exact hX _ _ _ (by simp) (g2 _ _ _ (blk_x (seq_n g1 (hK wr s.ext))))
end Go.Proofs.YtedebapgmfnflaaGreatDoor

/- The frame of a law whose row lists tables of the library's: the walk needs them not. And bytes, sectors that came in. -/
namespace Go.Proofs.YtedebapgmfnflaaGreatDoor
open Go Go.ChangeShapes Go.WideShapes Go.ChangeAt Go.RowKit
set_option maxRecDepth 100000

theorem law_lifted_laid {H : Type} {enc : TypeId × Value → H} {laid : List (String × DataW Unit)} {os : Os} (started : os.Started) {fid : FuncId} {f : Func} {s : ChangeSpec} {dom : List PathCond} {b : TypeId} (hno : Tryz.checked.prog.inits.idxOf? fid = none) (hfn : Tryz.checked.prog.funcs[fid]? = some f)
    (hwit : ∃ (w : World) (tape : Tape) (i : Input), w.os = os ∧ (w.forCall tape i).Shaped Tryz.checked.prog ∧ i.vars = [] ∧ Input.okWide Tryz.checked.prog (w.forCall tape i) .any w.heap.size fid i ∧
      ((s.pre enc Tryz.checked.prog f dom false (w.forCall tape i).memory i.args ∧ laidMetH Tryz.prog laid (w.forCall tape i).memory) ∧ sizedMet enc Tryz.checked.prog f (OpenSpec.ofChange s) false (w.forCall tape i).memory i.args) ∧ ({} : Assume).holds Tryz.checked.prog (lone (Frame.enter Tryz.checked.prog fid i.args .normal) [] (w.forCall tape i)))
    (hv : s.vars = []) (hs : ∀ ds : List (DataW H), ds.length = f.params.toList.length → (s.fn H ds).results = [.lit (.bool true)] ∧ (s.fn H ds).args = ds ∧ (s.fn H ds).vars = [])
    (hts : f.params.toList.all (fun t => Tryz.prog.readableRec t && decide (t < Tryz.prog.types.size)) = true) (hr : f.resultTypes = #[b]) (hb : Tryz.prog.underlying b = some .bool)
    (hvt : s.plain.varTypes Tryz.checked.prog = [])
    (walk : ∀ (W : World) (base : Nat) (args : Array Value), args.toList.length = f.params.toList.length → (∀ (j : Nat) t v, f.params.toList[j]? = some t → args.toList[j]? = some v → Value.okWide Tryz.prog W .any base t v ∧ Came W t v) →
      Calls Tryz.prog fid args W fun e W' => e = .returned (.bool true) ∧ Ext [] W W') :
    ReturnsInHanded {} Tryz.checked os fid .any (fun w args => (s.pre enc Tryz.checked.prog f dom false w args ∧ laidMetH Tryz.prog laid w) ∧ sizedMet enc Tryz.checked.prog f (OpenSpec.ofChange s) false w args) (s.post enc Tryz.checked.prog f false true false false) := by
  refine returnsInHanded_of_change_and (C := Tryz.checked) (X := fun w _ => laidMetH Tryz.prog laid w) (fun _ _ _ hh h => h.of_heap hh) law_own started hno hfn hwit ?_
  intro W base args ds gs before hval hW _ hsz _ _
  have hW' := hW
  have hlt := fun x hx => DataW.Whole.lt hW x hx
  obtain ⟨p, q, hA, hV, rfl, hfz, hnd⟩ := hW
  have hgs : gs = [] ∧ q = [] := by
    rw [hv] at hV
    cases gs with
    | nil => exact ⟨rfl, hV⟩
    | cons g gs => exact hV.elim
  obtain ⟨rfl, rfl⟩ := hgs
  rw [hvt, List.append_nil, List.append_nil] at hsz
  obtain ⟨c1, c2⟩ := came_all hA (fun n hn => by simpa using List.all_eq_true.1 hsz n hn)
  refine (walk W base args c1 (fun j t v ht hv' => ⟨hval j t v (by simpa using ht) (by simpa using hv'), c2 j t v ht hv'⟩)).mono fun e W' ⟨he, hg⟩ => ?_
  subst he
  have hlen : ds.length = f.params.toList.length := by
    have : ∀ {ts : List TypeId} {vs : List Value} {ds : List (DataW H)} {ps : List MemPlace}, DataW.TrodAll enc Tryz.prog W 0 (fun _ => true) true ts vs ds ps → ds.length = ts.length := by
      intro ts
      induction ts with
      | nil => intro vs ds ps h; cases vs <;> cases ds <;> first | rfl | exact h.elim
      | cons t ts ih =>
        intro vs ds ps h
        cases vs with
        | nil => exact h.elim
        | cons v vs => cases ds with
          | nil => exact h.elim
          | cons d ds =>
            obtain ⟨p, q, _, h2, _⟩ := h
            simp [ih h2]
    exact this hA
  obtain ⟨s1, s2, s3⟩ := hs (ds ++ []) (by simpa using hlen)
  refine ⟨_, rfl, ds, [], p ++ [], [], p, [], hW', ?_, ?_, ?_, (Ext.below hg).frame _, fun h => by cases h⟩
  · rw [s1, hr]
    exact trodAll_mk1 (shut_bool hb _)
  · rw [s2, List.append_nil]
    exact trodAll_keeps law_laid (Ext.below hg) hts hA (fun x hx => hlt x (by simpa using hx))
  · rw [s3, hv]
    rfl


abbrev theLaid : List (String × DataW Unit) := Rows.vaultPutsRow.laid
theorem door_os (os : Os) : (World.laidAll Tryz.prog os theLaid).os = os := World.laidAll_os _ _ _
theorem door_shape (os : Os) : (World.laidAll Tryz.prog os theLaid).Shaped Tryz.prog := World.shaped_of_ZipB (by kernel_rfl) (by kernel_rfl)
theorem door_met (os : Os) (args : Array Value) : laidMetH Tryz.prog theLaid ((World.laidAll Tryz.prog os theLaid).forCall (fun _ _ => 0) ⟨#[], args, []⟩).memory := by
  rw [MakeChecks.laidMetH_plain _ _ _ (by kernel_rfl)]
  exact laidMet_laidAll _ (by kernel_rfl) (by kernel_rfl)

theorem open_block {W : World} {base : Nat} {v : Value} (h : Value.okWide Tryz.prog W .any base 79 v ∧ Came W 79 v) : ∃ l : Bytes, v = .agg (bc l).toArray ∧ l.length = 64 := by
  obtain ⟨h1, H, enc, fuel, x, h2, h3⟩ := h
  have hu : Tryz.prog.underlying 79 = some (.array 64 5) := by kernel_rfl
  unfold Value.okWide at h1
  rw [hu] at h1
  obtain ⟨cs, rfl, _, _⟩ := h1
  obtain ⟨l, h4, h5⟩ := trod_arr hu (by kernel_rfl) (by kernel_rfl) (by kernel_rfl) h2
  refine ⟨l, ?_, h5⟩
  have : cs.toList = bc l := h4
  rw [← this]
theorem open_blocks {W : World} {base : Nat} {v : Value} (h : Value.okWide Tryz.prog W .any base 60 v ∧ Came W 60 v) : ∃ l : List Bytes, RdSl W v 64 (l.flatMap bc) l.length ∧ (∀ x ∈ l, x.length = 64) ∧ capOk v ∧ l.length ≤ 140737488351232 := by
  obtain ⟨h1, H, enc, fuel, x, h2, h3⟩ := h
  rw [open_sl (by kernel_rfl : Tryz.prog.underlying 60 = some (.slice 79)) h1] at h2
  exact trod_arrs (by kernel_rfl) (by kernel_rfl : Tryz.prog.underlying 79 = some (.array 64 5)) (by decide) (by kernel_rfl) (by kernel_rfl) (by kernel_rfl) (by kernel_rfl) h2 h3
theorem open_bool {W : World} {base : Nat} {v : Value} (h : Value.okWide Tryz.prog W .any base 4 v ∧ Came W 4 v) : ∃ b, v = .bool b := by
  obtain ⟨b, rfl⟩ := okWide_bool (by kernel_rfl : Tryz.prog.underlying 4 = some .bool) h.1
  exact ⟨b, rfl⟩
theorem args6 {args : Array Value} (h : args.toList.length = 6) : ∃ a b c d e f, args = #[a, b, c, d, e, f] := by
  obtain ⟨l⟩ := args
  match l, h with
  | [a, b, c, d, e, f], _ => exact ⟨a, b, c, d, e, f, rfl⟩
theorem args7 {args : Array Value} (h : args.toList.length = 7) : ∃ a b c d e f g, args = #[a, b, c, d, e, f, g] := by
  obtain ⟨l⟩ := args
  match l, h with
  | [a, b, c, d, e, f, g], _ => exact ⟨a, b, c, d, e, f, g, rfl⟩
end Go.Proofs.YtedebapgmfnflaaGreatDoor
