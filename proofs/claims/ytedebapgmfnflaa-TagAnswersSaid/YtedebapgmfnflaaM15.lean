/- Digests sorted, each once: the walks of slices.SortFunc, slices.Compact, and the program's Sort and Set. Condition: at most 49 digests. -/
import Derived.Test.YtedebapgmfnflaaM14
import Derived.Test.YtedebapgmfnflaaK7
namespace Go.Proofs.Ytedebapgmfnflaa
open Go
set_option maxRecDepth 100000

/-- A slice's rest is cleared, and its beginning told. -/
theorem Sep.clearTail {P : Program} {S : List Nat} {w0 w : World} {L R : List Res} {T ty e : TypeId} {ti : TypeInfo} {z : Value} {v : Value} {xs : List Value} {n k : Nat} {kk kk' : IntKind} (sp : Sep S w0 w L R) (i : Nat) (hL : L[i]? = some (rO v e ti.size xs n))
    (hu : P.underlying T = some (.slice e)) (hi : P.info? e = some ti) (hz : ti.zero = some z) (hzs : z.cells.size = ti.size) (h1 : ∀ x ∈ z.cells.toList, x.oneCell' = true) (hk : k < n)
    {K : Value → Value → Value → World → Prop} (h : ∀ v1 u v2 w', Sep S w0 w' (L.set i (rO v2 e ti.size (xs.take (k * ti.size)) k)) R → K v1 u v2 w') :
    sliceW (.sl ti.size) v (some (.int kk k)) none none w fun v1 w1 => insW P (Builtin.clear_ #[T] ty #[v1]) w1 fun u w2 => sliceW (.sl ti.size) v none (some (.int kk' k)) none w2 fun v2 w3 => K v1 u v2 w3 := by
  have hv : OwnAt w v e ti.size xs n := sp.at i hL
  rcases hv with ⟨rfl, rfl, rfl⟩ | ⟨b, o, c, cs, rfl, hb, hl, ht, hc, hn⟩
  · omega
  · have hzr : ∀ w, (zeroValue e).run P w = .ok z w := fun w => by
      unfold zeroValue; simp only [Sem.run_bind, run_info hi, Result.andThen_ok, hz, Sem.run_pure]
    have hks : k * ti.size ≤ n * ti.size := Nat.mul_le_mul_right _ (by omega)
    have hns : n * ti.size ≤ c * ti.size := Nat.mul_le_mul_right _ hn
    have hsub : (n - k) * ti.size = n * ti.size - k * ti.size := Nat.sub_mul _ _ _
    have hzl : (Builtin.zeroCells z.cells (n - k)).toList.length = (n - k) * ti.size := by rw [Array.length_toList, zeroCells_size, hzs]
    have hz1 : ∀ x ∈ (Builtin.zeroCells z.cells (n - k)).toList, x.oneCell' = true := by
      intro x hx
      have hx : x ∈ (Array.ofFn fun (i : Fin ((n - k) * z.cells.size)) => z.cells[i.val % z.cells.size]!).toList ∨ True := .inr trivial
      rename_i hx0
      obtain ⟨j, hj, rfl⟩ := List.mem_iff_getElem.1 hx0
      by_cases hs0 : z.cells.size = 0
      · rw [Array.length_toList, zeroCells_size, hs0, Nat.mul_zero] at hj
        omega
      · have hm : j % z.cells.size < z.cells.size := Nat.mod_lt _ (by omega)
        have : (Builtin.zeroCells z.cells (n - k)).toList[j] = z.cells.toList[j % z.cells.size]'(by rw [Array.length_toList]; exact hm) := by
          simp [Builtin.zeroCells, getElem!_pos, hm]
        rw [this]
        exact h1 _ (List.getElem_mem _)
    refine cut_ok (l := k) (h := n) rfl rfl (by omega) hn ?_
    rw [if_neg (by omega)]
    simp only [Option.map_some, add_addr]
    generalize hzc : (Builtin.zeroCells z.cells (n - k)).toList = zs at *
    have hst := run_storeCells_at P b (o + k * ti.size) e zs 0 cs.toArray w hb (by simp only [Nat.add_zero, List.size_toArray]; omega) hz1
    simp only [Nat.add_zero, setRow_setB hb] at hst
    obtain ⟨m, hm⟩ : ∃ m, n - k = m + 1 := ⟨n - k - 1, by omega⟩
    have hb' : Blk (setB w b (.cells (spl cs.toArray (o + k * ti.size) zs.toArray) e)) b (lspl cs (o + k * ti.size) zs) e := by
      unfold Blk setB
      show (w.heap.setIfInBounds b _)[b]? = _
      rw [Array.getElem?_setIfInBounds]
      have : b < w.heap.size := hb.lt
      simp only [if_true, this]
      rfl
    refine insW_ok (v := .tuple #[]) (w' := setB w b (.cells (spl cs.toArray (o + k * ti.size) zs.toArray) e)) ?_ ?_
    · rw [hm] at hzc ⊢
      simp only [Builtin.clear_, List.getElem?_toArray, List.getElem?_cons_zero, Sem.run_bind, run_und hu, Result.andThen_ok, hzr, hzc, hst, Sem.run_pure]
      rfl
    · refine cut_ok (l := 0) (h := k) rfl rfl (by omega) (by omega) ?_
      rw [if_neg (by omega)]
      simp only [Option.map_some, add_addr, Nat.zero_mul, Nat.add_zero, Nat.sub_zero]
      refine h _ _ _ _ (sp.upd i hL (T' := rO (.slice (some ⟨b, o, none⟩) k c) e ti.size (xs.take (k * ti.size)) k) ?_ (ext_setB w b _) (fun x hx => .inl hx))
      refine .inr ⟨b, o, c, _, rfl, hb', ?_, ?_, ?_, by omega⟩
      · rw [List.length_take]; omega
      · rw [← ht, List.take_take, Nat.min_eq_left hks]
        unfold lspl
        rw [List.append_assoc, List.drop_append_of_le_length (by rw [List.length_take]; omega), List.drop_take, show o + k * ti.size - o = k * ti.size by omega, List.take_append_of_le_length (by rw [List.length_take, List.length_drop]; omega), List.take_take, Nat.min_self]
      · rw [lspl_length (by omega)]; exact hc

theorem sortFunc_c {S : List Nat} {w0 w : World} {L R : List Res} {K : VPost} {v : Value} {ds : Array Bytes} (s : Sep S w0 w (rDs v ds :: L) R) (hd : all32 ds) (h50 : ds.size < 50)
    (hK : ∀ u w' d, d = Sort.sort dlt ds → d.size = ds.size → all32 d → Sep S w0 w' (rDs v d :: L) R → K u w') : Calls Try.prog 91 #[v, cmpV] w (retK K) := by
  refine c91_calls _ _ w K ?_
  unfold c91
  have hv : OwnAt w v 62 32 (fl ds.toList) ds.size := s.at 0 rfl
  obtain ⟨va, vc, hva⟩ := hv.rd.len
  have hlen : ∀ (w : World) (K : VPost), lenW Try.prog (some true) #[75] 3 #[v] w K = K (.int .i64 ds.size) w := fun w K => by rw [hva, len_s]
  rw [hlen, convN_i und_int und_uint, wrap_u64n, Nat.mod_eq_of_lt (by omega)]
  refine fnW_of (by kernel_rfl) ?_
  refine c110_calls _ w _ ?_
  unfold c110
  rw [condW_f]
  refine fnW_of (by kernel_rfl) (len64_c (n := ds.size) (by omega) ?_)
  obtain ⟨q1, q2, q3⟩ := len_tab ⟨ds.size, by omega⟩
  have q3 : Sort.bitsLen ds.size ≤ 6 := q3
  refine fnW_of (by kernel_rfl) (pdq_c (a := 0) (b := ds.size) ds.size (by omega) s hd (by omega) (Nat.le_refl _) (by omega) (by omega) (by omega) fun u w2 d hd2 hs h32 s => ?_)
  exact hK _ _ d hd2 hs h32 s

theorem dig_z1 : ∀ x ∈ (Value.agg (Array.replicate 32 (.int .u8 0))).cells.toList, x.oneCell' = true := by
  intro x hx
  have hx : x ∈ (Array.replicate 32 (Value.int .u8 0)).toList := hx
  rw [Array.toList_replicate] at hx
  rw [List.eq_of_mem_replicate hx]
  rfl
theorem fl_take : ∀ {ds : List Bytes}, (∀ d ∈ ds, d.length = 32) → ∀ m, (fl ds).take (m * 32) = fl (ds.take m)
  | [], _, m => by simp [fl]
  | d :: ds, hd, 0 => by simp [fl]
  | d :: ds, hd, m + 1 => by
    have h1 : (bc d).length = 32 := by rw [bc_length]; exact hd d (by simp)
    have e : fl (d :: ds) = bc d ++ fl ds := rfl
    have e2 : fl ((d :: ds).take (m + 1)) = bc d ++ fl (ds.take m) := rfl
    rw [e, e2, show (m + 1) * 32 = (bc d).length + m * 32 by omega, List.take_append, List.take_of_length_le (by omega), Nat.add_sub_cancel_left, fl_take (fun x hx => hd x (by simp [hx])) m]

set_option maxHeartbeats 2000000 in
theorem compact_c {S : List Nat} {w0 w : World} {L R : List Res} {K : VPost} {v : Value} {xs : Array Bytes} (s : Sep S w0 w (rDs v xs :: L) R) (hd : all32 xs) (hsz : xs.size ≤ 2 ^ 20)
    (hK : ∀ v' w', Sep S w0 w' (rO v' 62 32 (fl (cplN xs.toList xs.size)) (cplN xs.toList xs.size).length :: L) R → K v' w') : Calls Try.prog 92 #[v] w (retK K) := by
  refine c92_calls _ w K ?_
  unfold c92
  have hdx := hd
  have hll : xs.toList.length = xs.size := Array.length_toList
  have hv : OwnAt w v 62 32 (fl xs.toList) xs.size := s.at 0 rfl
  obtain ⟨va, vc, hva⟩ := hv.rd.len
  have hlen : ∀ (w : World) (K : VPost), lenW Try.prog (some true) #[75] 3 #[v] w K = K (.int .i64 xs.size) w := fun w K => by rw [hva, len_s]
  have whole : ∀ (w' : World), cplN xs.toList xs.size = xs.toList → Sep S w0 w' (rDs v xs :: L) R → K v w' := by
    intro w' hc s
    have := hK v w'
    rw [hc, hll] at this
    exact this s
  rw [hlen]
  refine nlss (y := 2) (cond_d (fun h2 => ?_) (fun h2 => ?_))
  · refine whole _ ?_ s
    match hx : xs.toList with
    | [] => rw [hx] at hll; rw [← hll]; rfl
    | [x] => rw [hx] at hll; rw [← hll]; rfl
    | x :: y :: r => rw [hx] at hll; simp at hll; omega
  refine bindX_i fun J4 h4 => bindX_i fun J5 h5 => bindX_i fun J8 h8 => ?_
  refine loop_i (fun m fr wr => ∃ (k : Nat), m = xs.size - k ∧ 1 ≤ k ∧ k ≤ xs.size ∧ cplN xs.toList k = xs.toList.take k ∧ fr 0 = v ∧ fr 3 = .int .i64 k ∧ Sep S w0 wr (rDs v xs :: L) R) (xs.size - 1) ?_ ?_
  · refine ⟨1, rfl, Nat.le_refl _, by omega, ?_, rfl, rfl, s⟩
    rw [cplN_one, getD_at _ _ (by omega), List.take_succ_eq_append_getElem (by omega), List.take_zero, List.nil_append]
  · rintro m fr wr JJ ⟨k, rfl, hk1, hkn, hcp, f0, f3, s⟩ hJ hX
    rw [f0, f3, hlen]
    refine nlss (cond_d (fun hlt => ?_) (fun hlt => ?_))
    · refine bindX_i fun J16 h16 => bindX_i fun J21 h21 => ?_
      have s := s.drew
      obtain ⟨b1, o1, hix1, hld1⟩ := s.dget hd hlt
      refine hix1 _ ?_
      refine hld1 _ ?_
      refine nsub (y := 1) (by omega) (by omega) ?_
      obtain ⟨b2, o2, hix2, hld2⟩ := s.dget hd (p := k - 1) (by omega)
      refine hix2 _ ?_
      refine hld2 _ ?_
      refine dig_eql (get32 hd hlt) (get32 hd (by omega)) ?_
      refine ⟨rfl, ?_⟩
      rw [arr_get xs k hlt, arr_get xs (k - 1) (by omega)]
      refine cond_d (fun he => ?_) (fun hne => ?_)
      · have hcp1 : cplN xs.toList (k + 1) = xs.toList.take k := by
          rw [cplN, if_pos ⟨by omega, by rw [getD_at _ _ (by omega), getD_at _ _ (by omega)]; exact he⟩, hcp]
        have hcut : ∀ (w : World) (K : VPost), (∀ v1, RdSl w v1 32 (fl (xs.toList.drop k)) (xs.size - k) → K v1 w) → Sep S w0 w (rDs v xs :: L) R → True := fun _ _ _ _ => trivial
        have hv : OwnAt wr.drew v 62 32 (fl xs.toList) xs.size := s.at 0 rfl
        rcases hv with ⟨h0, h1, _⟩ | ⟨b, o, c, cs, hve, hb, hl, ht, hc, hn⟩
        · omega
        subst hve
        refine cut_ok (l := k) (h := xs.size) rfl rfl (by omega) hn ?_
        rw [if_neg (by omega)]
        simp only [Option.map_some, add_addr]
        refine bindX_i fun J36 h36 => bindX_i fun J45 h45 => ?_
        refine loop_i (fun m fr wr => ∃ (j : Nat) (ys : Array Bytes), m = xs.size - j ∧ k + 1 ≤ j ∧ j ≤ xs.size ∧ ys.size = xs.size ∧ all32 ys ∧ (cplN xs.toList j).length < j ∧ ys.toList.take (cplN xs.toList j).length = cplN xs.toList j ∧ (∀ i, j - 1 ≤ i → i < xs.size → ys[i]! = xs[i]!) ∧
          fr 0 = .slice (some ⟨b, o, none⟩) xs.size c ∧ fr 3 = .int .i64 (cplN xs.toList j).length ∧ fr 4 = .slice (some ⟨b, o + k * 32, none⟩) (xs.size - k) (c - k) ∧ fr 5 = .int .i64 (j - k : Nat) ∧ Sep S w0 wr (rDs (.slice (some ⟨b, o, none⟩) xs.size c) ys :: L) R) (xs.size - (k + 1)) ?_ ?_
        · refine ⟨k + 1, xs, rfl, Nat.le_refl _, by omega, rfl, hd, ?_, ?_, fun _ _ _ => rfl, f0, ?_, rfl, ?_, s⟩
          · rw [hcp1, List.length_take]; omega
          · rw [hcp1]
            congr 1
            rw [List.length_take]; omega
          · show fr 3 = _
            rw [hcp1, List.length_take, f3]
            congr 2
            omega
          · show Value.int .i64 1 = _
            congr 1
            omega
        · rintro m fr wr JK ⟨j, ys, rfl, hj1, hjn, hys, hd, hcl, hpre, hsame, f0, f3, f4, f5, s⟩ hJK hXK
          rw [f4, f5, len_s]
          refine nlss (cond_d (fun hlt2 => ?_) (fun hlt2 => ?_))
          · refine bindX_i fun J53 h53 => bindX_i fun JU hU => ?_
            have s := s.drew
            have hyl : ys.toList.length = ys.size := Array.length_toList
            -- an element of the rest is one of the whole
            have part : ∀ (i : Nat) (w : World) (hw : Sep S w0 w (rDs (.slice (some ⟨b, o, none⟩) xs.size c) ys :: L) R) (hki : k + i < xs.size), ∃ b' o', (∀ K : VPost, K (.pointer (some ⟨b', o', none⟩)) w → idxW (some (none, 32)) (.slice (some ⟨b, o + k * 32, none⟩) (xs.size - k) (c - k)) (.int .i64 i) w K) ∧ (∀ (K : VPost), K (.agg (bc ys[k + i]!).toArray) w → loadW (some (true, 32)) (.pointer (some ⟨b', o', none⟩)) w K) := by
              intro i w hw hki
              have hv : OwnAt w (.slice (some ⟨b, o, none⟩) xs.size c) 62 32 (fl ys.toList) ys.size := hw.at 0 rfl
              rcases hv with ⟨h0, _⟩ | ⟨b9, o9, c9, cs9, h9, hb9, hl9, ht9, hc9, hn9⟩
              · cases h0
              · obtain ⟨rfl, rfl, rfl⟩ : b = b9 ∧ o = o9 ∧ c = c9 := by
                  simp only [Value.slice.injEq, Option.some.injEq, Addr.mk.injEq] at h9
                  exact ⟨h9.1.1, h9.1.2.1, h9.2.2⟩
                refine ⟨b, o + k * 32 + i * 32, fun K hK => idx_i (by omega) hK, fun K hK => loadN hb9.r (by omega) ?_⟩
                have e : (cs9.drop (o + k * 32 + i * 32)).take 32 = bc ys[k + i]! := by
                  rw [arr_get ys (k + i) (by omega), ← fl_get (fun x hx => hd x hx) (show k + i < ys.toList.length by omega), ← ht9]
                  rw [show o + k * 32 + i * 32 = o + (k + i) * 32 by omega]
                  exact take_drop_part cs9 o ((k + i) * 32) 32 (ys.size * 32) (by omega)
                rw [e]; exact hK
            obtain ⟨b3, o3, hix3, hld3⟩ := part (j - k) _ s (by omega)
            refine hix3 _ ?_
            refine hld3 _ ?_
            refine nsub (y := 1) (by omega) (by omega) ?_
            obtain ⟨b4, o4, hix4, hld4⟩ := part (j - k - 1) _ s (by omega)
            refine hix4 _ ?_
            refine hld4 _ ?_
            have ej : k + (j - k) = j := by omega
            have ej1 : k + (j - k - 1) = j - 1 := by omega
            rw [ej, ej1, hsame j (by omega) (by omega), hsame (j - 1) (by omega) (by omega)]
            have hx32 : ∀ i, i < xs.size → (xs[i]!).length = 32 := by
              intro i hi
              rw [arr_get xs i hi]
              exact hdx _ (List.getElem_mem _)
            refine dig_neq (hx32 j (by omega)) (hx32 (j - 1) (by omega)) ?_
            refine ⟨rfl, ?_⟩
            have e1 : xs[j]! = xs.toList.getD j [] := by rw [arr_get xs j (by omega), getD_at _ _ (by omega)]
            have e2 : xs[j - 1]! = xs.toList.getD (j - 1) [] := by rw [arr_get xs (j - 1) (by omega), getD_at _ _ (by omega)]
            have fin : ∀ (fr : Fr) (w' : World) (ys : Array Bytes), ys.size = xs.size → all32 ys → (cplN xs.toList (j + 1)).length < j + 1 → ys.toList.take (cplN xs.toList (j + 1)).length = cplN xs.toList (j + 1) → (∀ i, j ≤ i → i < xs.size → ys[i]! = xs[i]!) →
                fr 0 = .slice (some ⟨b, o, none⟩) xs.size c → fr 3 = .int .i64 (cplN xs.toList (j + 1)).length → fr 4 = .slice (some ⟨b, o + k * 32, none⟩) (xs.size - k) (c - k) → fr 5 = .int .i64 (j - k : Nat) → Sep S w0 w' (rDs (.slice (some ⟨b, o, none⟩) xs.size c) ys :: L) R → J53 .normal fr w' := by
              intro fr w' ys hys hd hcl hpre hsame f0 f3 f4 f5 s
              refine seq_n h53 ?_
              rw [f5]
              refine nadd (y := 1) (by omega) ?_
              refine hJK (xs.size - (j + 1)) _ _ (by omega) ⟨j + 1, ys, rfl, by omega, by omega, hys, hd, hcl, hpre, fun i hi => hsame i (by omega), f0, f3, f4, ?_, s⟩
              show Value.int .i64 ((j - k + 1 : Nat) : Int) = _
              congr 2
              omega
            cases hc2 : decide (xs[j]! = xs[j - 1]!) with
            | false =>
              rw [Bool.not_false, condW_t]
              have hne := of_decide_eq_false hc2
              have hcp2 : cplN xs.toList (j + 1) = cplN xs.toList j ++ [xs[j]!] := by
                rw [cplN, if_neg (fun h => hne (by rw [e1, e2]; exact h.2)), e1]
              obtain ⟨b5, o5, hix5, hld5⟩ := part (j - k) _ s (by omega)
              refine hix5 _ ?_
              refine hld5 _ ?_
              rw [ej, hsame j (by omega) (by omega), f0, f3]
              obtain ⟨b6, o6, hix6, _, hst6⟩ := s.digAt 0 rfl hyl hd (k := (cplN xs.toList j).length) (by omega) .i64
              refine hix6 _ ?_
              refine hst6 _ _ _ (hx32 j (by omega)) fun w3 s => ?_
              refine nadd (y := 1) (by omega) ?_
              have hset : (ys.setIfInBounds (cplN xs.toList j).length xs[j]!).toList = ys.toList.set (cplN xs.toList j).length xs[j]! := Array.toList_setIfInBounds
              have hsz2 : (ys.setIfInBounds (cplN xs.toList j).length xs[j]!).size = ys.size := Array.size_setIfInBounds
              have s : Sep S w0 w3 (rO (.slice (some ⟨b, o, none⟩) xs.size c) 62 32 (fl (ys.toList.set (cplN xs.toList j).length xs[j]!)) ys.size :: L) R := s
              rw [← hset, ← hsz2] at s
              refine fin _ _ (ys.setIfInBounds (cplN xs.toList j).length xs[j]!) (by omega) ?_ ?_ ?_ ?_ f0 ?_ f4 f5 s
              · intro x hx
                rw [hset] at hx
                rcases List.mem_or_eq_of_mem_set hx with hx | rfl
                · exact hd x hx
                · exact hx32 j (by omega)
              · rw [hcp2, List.length_append, List.length_singleton]; omega
              · rw [hcp2, hset, List.length_append, List.length_singleton, List.take_succ_eq_append_getElem (by rw [List.length_set]; omega), List.getElem_set_self, List.take_set_of_le (Nat.le_refl _), hpre]
              · intro i hi hin
                rw [arr_get _ i (by omega), arr_get xs i hin]
                have := hsame i (by omega) hin
                rw [arr_get ys i (by omega), arr_get xs i hin] at this
                rw [← this]
                simp only [hset]
                rw [List.getElem_set_ne (by omega)]
              · rw [hcp2, List.length_append, List.length_singleton]; rfl
            | true =>
              rw [Bool.not_true, condW_f]
              have he2 := of_decide_eq_true hc2
              have hcp2 : cplN xs.toList (j + 1) = cplN xs.toList j := by
                rw [cplN, if_pos ⟨by omega, by rw [← e1, ← e2]; exact he2⟩]
              exact fin _ _ ys hys hd (by rw [hcp2]; omega) (by rw [hcp2]; exact hpre) (fun i hi => hsame i (by omega)) f0 (by rw [hcp2]; exact f3) f4 f5 s
          · obtain rfl : j = xs.size := by omega
            refine hXK _ _ _ (by simp) (h45 _ _ _ (blk_x (seq_n h36 ?_)))
            show sliceW (.sl 32) (fr 0) (some (fr 3)) none none wr (fun v1 w1 => insW Try.prog (Builtin.clear_ #[75] 0 #[v1]) w1 fun u w2 => sliceW (.sl 32) (fr 0) none (some (fr 3)) none w2 fun v2 w3 => _)
            rw [f0, f3]
            obtain ⟨ti, hti, htz, hts, htb⟩ := tyI_spec ty_dig
            have key := fun K h => s.clearTail (T := 75) (ty := 0) (e := 62) (ti := ti) (n := ys.size) (k := (cplN xs.toList xs.size).length) (xs := fl ys.toList) (kk := .i64) (kk' := .i64) (v := .slice (some ⟨b, o, none⟩) xs.size c) 0 (by rw [hts]; rfl) und_digs hti htz (by rw [hts]; rfl) dig_z1 (by omega) (K := K) h
            rw [hts] at key
            refine key _ fun v1 u v2 w3 s => ?_
            refine hX _ _ _ (by simp) (h8 _ _ _ (h5 _ _ _ (h4 _ _ _ ?_)))
            have e : (fl ys.toList).take ((cplN xs.toList xs.size).length * 32) = fl (cplN xs.toList xs.size) := by
              rw [fl_take (fun x hx => hd x hx), hpre]
            have s : Sep S w0 w3 (rO v2 62 32 ((fl ys.toList).take ((cplN xs.toList xs.size).length * 32)) (cplN xs.toList xs.size).length :: L) R := s
            rw [e] at s
            exact hK v2 w3 s
      · have hcp2 : cplN xs.toList (k + 1) = xs.toList.take (k + 1) := by
          rw [cplN, if_neg (fun h => hne (by have := h.2; rwa [getD_at _ _ (by omega), getD_at _ _ (by omega)] at this)), hcp, getD_at _ _ (by omega), List.take_succ_eq_append_getElem (by omega)]
        refine seq_n h16 ?_
        show binN Try.prog .add _ true (fr 3) _ _ _
        rw [f3]
        refine nadd (y := 1) (by omega) ?_
        exact hJ (xs.size - (k + 1)) _ _ (by omega) ⟨k + 1, rfl, by omega, by omega, hcp2, f0, rfl, s⟩
    · obtain rfl : k = xs.size := by omega
      refine hX _ _ _ (by simp) (h8 _ _ _ (blk_x (seq_n h5 ?_)))
      show K (fr 0) wr
      rw [f0]
      refine whole _ ?_ s
      rw [hcp, ← hll, List.take_length]
end Go.Proofs.Ytedebapgmfnflaa
