/- SHA-256: rows taken in, forks, what stands behind, digests: by contracts. Conditions: at most 2^36 bytes. -/
import Derived.Test.YtedebapgmfnflaaS6
namespace Go.Proofs.Ytedebapgmfnflaa
open Go
set_option maxRecDepth 100000

theorem slArr0 {b n sz : Nat} {w : World} {K : VPost} (h : K (.slice (some ⟨b, 0, none⟩) n n) w) : sliceW (.arr n sz) (.pointer (some ⟨b, 0, none⟩)) none none none w K := slArr_i h

theorem Blk.rdAll {w : World} {b n : Nat} {cs : List Value} {t : TypeId} (h : Blk w b cs t) (hn : cs.length = n) : RdSl w (.slice (some ⟨b, 0, none⟩) n n) 1 cs n :=
  ⟨by rw [hn, Nat.mul_one], .inr ⟨b, 0, n, cs, rfl, h.r, by rw [List.drop_zero, List.take_of_length_le (by rw [hn, Nat.mul_one]; exact Nat.le_refl _)], by rw [hn]; omega⟩⟩

theorem Compress_c {w : World} {K : VPost} {blk : Bytes} {st : List UInt32} (hst : st.length = 8) (hb : blk.length = 64) (hK : ∀ w', Ext [] w w' → K (.agg (uc (compress st blk)).toArray) w') :
    Calls Try.prog 50 #[.agg (uc st).toArray, .agg (bc blk).toArray] w (retK K) := by
  refine c50_calls _ _ w K ?_
  unfold c50
  have h1 : (uc st).length = 8 := by rw [uc_length]; exact hst
  have h2 : (bc blk).length = 64 := by rw [bc_length]; exact hb
  refine (Sep.nil w).box fun b2 w1 s _ => s.box fun b3 w2 s _ => s.alloc zero_w8 cells_w8 fun b4 w3 s _ => ?_
  have s := s.drew
  have s : Sep [] w _ [rB b4 (uc (List.replicate 8 0)) 70, rB b3 (bc blk) 32, rB b2 (uc st) 70] [] := s
  refine s.loadAll 2 rfl h1 ?_
  refine slArr0 ?_
  refine fnW_of (by kernel_rfl) (compress_c hst (Blk.rdAll (s.at 1 rfl) h2) (Nat.le_refl _) fun w4 e => ?_)
  have s := s.ext0 e
  have hc : (uc (compress st blk)).length = 8 := by rw [uc_length]; exact compress_length _ _ hst
  refine s.storeAll 0 rfl hc rfl (uc_one _) fun w5 s _ => s.loadAll 0 rfl hc ?_
  exact hK _ s.ext

/-! ### What stands behind -/
theorem be8_range (x : Nat) : be8 x = (List.range 8).map fun j => UInt8.ofNat (x >>> (56 - 8 * j)) := rfl
theorem be8_step (x j : Nat) (h : j < 8) : (be8 x).take (j + 1) = (be8 x).take j ++ [UInt8.ofNat (x >>> (56 - 8 * j))] := by
  have hl : j < (be8 x).length := by rw [be8_length]; exact h
  rw [List.take_succ_eq_append_getElem hl]
  congr 2
  simp [be8_range]

theorem flat_one (v : Value) (h : v.cells = #[v]) : flatV [v] = [v] := by simp [flatV, h]
theorem bv_cells (b : UInt8) : (bv b).cells = #[bv b] := rfl

/-- A byte more. -/
theorem Sep.addByte {S : List Nat} {w0 w : World} {L R : List Res} {K : Value → VPost} {v : Value} {l : Bytes} {n : Nat} (s : Sep S w0 w L R) (i : Nat) (hL : L[i]? = some (rO v 5 1 (bc l) n)) (b : UInt8) (hn : n ≤ 2 ^ 38)
    (h : ∀ t v' w', Sep S w0 w' (L.set i (rO v' 5 1 (bc (l ++ [b])) (n + 1))) R → K t v' w') :
    insW Try.prog (Instr.buildSlice 34 1 #[(0, bv b)]) w fun t w' => insW Try.prog (Builtin.append_ #[34, 34] 34 #[v, t]) w' (K t) := by
  obtain ⟨ui, hui, huz, husz, huby⟩ := tyI_spec ty_u8
  refine s.lit (vs := [bv b]) und_u8s hui huz rfl (by intro x hx; simp at hx; subst hx; rw [husz]; rfl) (by rw [husz]; simp) fun t w1 s1 ht _ => ?_
  have s1 : Sep S w0 w1 (rO t 5 ui.size [bv b] 1 :: L) R := s1
  rw [husz] at s1
  have hi : i < L.length := (List.getElem?_eq_some_iff.1 hL).1
  refine s1.appendO (v := v) (n := n) (m := 1) (ys := [bv b]) (xs := bc l) (i + 1) (by rw [husz]; simpa using hL) und_u8s und_u8s hui huz (by rw [husz]; rfl) (by rw [huby]; decide) (by rw [husz]; exact OwnAt.rd (s1.at 0 rfl)) (by intro y hy; simp at hy; subst hy; rfl) (by rw [huby]; omega) fun v' w2 s2 => ?_
  rw [husz] at s2
  have e : bc l ++ [bv b] = bc (l ++ [b]) := by simp [bc]
  rw [e] at s2
  exact h t v' w2 (s2.drop 0)

theorem pad_c {w : World} {K : VPost} (n : Int) (hno : ¬ (0 ≤ n ∧ n ≤ 1125899906842624) → K (.slice none 0 0) w)
    (hK : 0 ≤ n ∧ n ≤ 1125899906842624 → ∀ v w', OwnAt w' v 5 1 (bc (padM n.toNat)) (padM n.toNat).length → Ext [] w w' → (∀ b ∈ slB v, w.heap.size ≤ b) → K v w') :
    Calls Try.prog 48 #[.int .i64 n] w (retK K) := by
  refine c48_calls _ w K ?_
  unfold c48
  obtain ⟨ui, hui, huz, husz, huby⟩ := tyI_spec ty_u8
  rw [ilss]
  by_cases h0 : n < 0
  · simp only [h0, decide_true, gstep_tf, pickW_t, condW_t]
    exact hno (by omega)
  · simp only [h0, decide_false, gstep_f, igtr, pickW_f]
    refine cond_d (fun h1 => hno (by omega)) (fun h1 => ?_)
    replace hK := hK (by omega)
    obtain ⟨n, rfl⟩ : ∃ k : Nat, n = k := ⟨n.toNat, by omega⟩
    simp only [Int.toNat_natCast] at hK
    refine nrem (y := 64) (by decide) ?_
    refine nsub (x := 119) (by omega) (by decide) ?_
    refine nrem (y := 64) (by decide) ?_
    refine (Sep.nil w).lit (vs := [bv 128]) und_u8s hui huz rfl (by intro x hx; simp at hx; subst hx; rw [husz]; rfl) (by rw [husz]; simp) fun t w1 s ht _ => ?_
    have hz : (119 - n % 64) % 64 = zeros n := rfl
    rw [hz]
    have hzl : zeros n < 64 := Nat.mod_lt _ (by decide)
    refine s.appendZ (v := t) (n := 1) (m := zeros n) (xs := flatV [bv 128]) 0 rfl und_u8s und_int hui huz (by rw [husz]; rfl) (by rw [huby]; decide) (by intro y hy; simp [Value.cells] at hy; subst hy; rfl) (by rw [huby]; omega) fun v w2 s => ?_
    have hzc : (Builtin.zeroCells (Value.int .u8 0).cells (zeros n)).toList = bc (List.replicate (zeros n) 0) := by
      rw [bc_zeros]
      apply List.ext_getElem
      · rw [zeroC _ _ 1 rfl]; simp
      · intro k h1 h2
        unfold Builtin.zeroCells
        simp [Value.cells, Nat.mod_one]
    rw [hzc, husz] at s
    have s : Sep [] w w2 [rO v 5 1 (bc (128 :: List.replicate (zeros n) 0)) (1 + zeros n)] [] := s
    refine bindX_i fun J0 h0 => bindX_i fun J1 h1 => bindX_i fun J2 h2 => ?_
    refine loop_i (fun m fr wr => ∃ (j : Nat) (v : Value), m = 8 - j ∧ j ≤ 8 ∧ fr 0 = .int .i64 n ∧ fr 4 = v ∧ fr 5 = .int .i64 (56 - 8 * (j : Int)) ∧
      Sep [] w wr [rO v 5 1 (bc (128 :: List.replicate (zeros n) 0 ++ (be8 (n * 8)).take j)) (1 + zeros n + j)] []) 8 ?_ ?_
    · exact ⟨0, v, rfl, by omega, rfl, rfl, rfl, by rw [List.take_zero, List.append_nil]; exact s⟩
    · rintro m fr wr J ⟨j, v, rfl, hj, f0, f4, f5, s⟩ hJ hX
      rw [f0, f4, f5, igeq]
      refine cond_d (fun hge => ?_) (fun hge => ?_)
      · have hj8 : j < 8 := by omega
        refine nmul (x := n) (y := 8) (by omega) ?_
        have e56 : (56 - 8 * (j : Int)) = ((56 - 8 * j : Nat) : Int) := by omega
        rw [e56]
        refine nshr (by show 56 - 8 * j ≤ 64; omega) ?_
        rw [conv_byte und_int und_u8]
        refine s.addByte 0 rfl _ (by omega) fun _ v' w3 s => ?_
        have s : Sep [] w w3 [rO v' 5 1 (bc (128 :: List.replicate (zeros n) 0 ++ (be8 (n * 8)).take j ++ [UInt8.ofNat ((n * 8) >>> (56 - 8 * j))])) (1 + zeros n + j + 1)] [] := s
        rw [List.append_assoc, ← be8_step _ _ hj8] at s
        refine isub (by omega) ?_
        exact hJ (8 - (j + 1)) _ _ (by omega) ⟨j + 1, v', rfl, by omega, f0, rfl, by show Value.int .i64 _ = _; congr 1; omega, s⟩
      · obtain rfl : j = 8 := by omega
        refine hX _ _ _ (by simp) (h2 _ _ _ (blk_x (seq_n h1 ?_)))
        have e : 128 :: List.replicate (zeros n) 0 ++ (be8 (n * 8)).take 8 = padM n := rfl
        have hl : 1 + zeros n + 8 = (padM n).length := by rw [padM_length]; omega
        rw [e, hl] at s
        have hv := s.fresh 0 rfl
        show K (fr 4) wr
        rw [f4]
        exact hK v wr (s.at 0 rfl) s.ext hv

/-! ### A hash made -/
theorem fill_hash {Z : List Value} (hZ : Z.length = 10) (st : List UInt32) (hst : st.length = 8) (v : Value) (hv : v.cells = #[v]) (n : Nat) :
    fillL [(0, 8), (8, 1), (9, 1)] Z [(0, .agg (uc st).toArray), (1, v), (2, .int .i64 n)] = some (uc st ++ [v, .int .i64 n]) := by
  have h1 : (Value.agg (uc st).toArray).cells = (uc st).toArray := rfl
  have h2 : (Value.int .i64 (n : Int)).cells = #[.int .i64 n] := rfl
  have hu : (uc st).length = 8 := by rw [uc_length]; exact hst
  have l1 : (lspl Z 0 (uc st)).length = 10 := by rw [lspl_length (by omega)]; exact hZ
  have l2 : (lspl (lspl Z 0 (uc st)) 8 [v]).length = 10 := by rw [lspl_length (by simp; omega)]; exact l1
  have e1 := lspl_lspl Z 0 (uc st) [v] (by simp; omega)
  rw [hu, Nat.zero_add] at e1
  have e2 := lspl_lspl Z 0 (uc st ++ [v]) [.int .i64 n] (by simp; omega)
  rw [List.length_append, hu, Nat.zero_add, ← e1] at e2
  have e3 : lspl Z 0 (uc st ++ [v] ++ [.int .i64 n]) = uc st ++ [v, .int .i64 n] := by
    unfold lspl
    rw [List.drop_of_length_le (by simp; omega)]
    simp
  rw [e3] at e2
  simp [fillL, h1, h2, hv, hu, hZ, l1, l2]
  exact e2
theorem fill_hash0 {Z : List Value} (hZ : Z.length = 10) (st : List UInt32) (hst : st.length = 8) :
    fillL [(0, 8), (8, 1), (9, 1)] Z [(0, .agg (uc st).toArray)] = some (uc st ++ Z.drop 8) := by
  have h1 : (Value.agg (uc st).toArray).cells = (uc st).toArray := rfl
  have hu : (uc st).length = 8 := by rw [uc_length]; exact hst
  simp [fillL, h1, hu, hZ, lspl]

def hashZ : List Value := List.replicate 8 (.int .u32 0) ++ [.slice none 0 0, .int .i64 0]
theorem str_hash : strI Try.prog 112 = some ([(0, 8), (8, 1), (9, 1)], hashZ) := by kernel_rfl

theorem newH_c {w : World} {K : VPost} (hK : ∀ p F w', Hash w' p F (hm []) → Ext [] w w' → (∀ b ∈ F, w.heap.size ≤ b) → K (.pointer (some ⟨p, 0, none⟩)) w') : Calls Try.prog 42 #[] w (retK K) := by
  refine c42_calls w K ?_
  unfold c42
  refine fnW_of (by kernel_rfl) (first_c fun w1 e1 => ?_)
  refine build_i str_hash (fill_hash0 rfl shaH rfl) ?_
  refine boxW_i fun p w2 hp e2 hk _ => ?_
  refine hK p [p] w2 ⟨.slice none 0 0, ⟨hk, .inl ⟨rfl, rfl, rfl⟩, by simp [slB], rfl⟩, rfl⟩ (e1.new e2) ?_
  intro b hb
  simp at hb
  have := e1.size
  omega

theorem Hash.n {w : World} {K : VPost} {p : Nat} {F : List Nat} {m : HM} (h : Hash w p F m) (hK : K (.int .i64 m.n) w) : nilW (.pointer (some ⟨p, 0, none⟩)) w fun t w' => offW (some 9) t w' fun t w' => loadW (some (false, 1)) t w' K := by
  obtain ⟨rv, h, rfl⟩ := h
  rw [nilW_e]
  refine off_i (k := 9) ?_
  exact load1 h.hdr.r (hc_9 h.st) hK

theorem lenH_c {w : World} {K : VPost} {p : Nat} {F : List Nat} {m : HM} (h : Hash w p F m) (hK : K (.int .i64 m.n) w) : Calls Try.prog 44 #[.pointer (some ⟨p, 0, none⟩)] w (retK K) := by
  refine c44_calls _ w K ?_
  unfold c44
  exact h.n hK

theorem forkH_c {w : World} {K : VPost} {p : Nat} {F : List Nat} {m : HM} (h : Hash w p F m) (hr : m.rest.length ≤ 2 ^ 38) (hK : ∀ q G w', Hash w' q G m → Ext [] w w' → (∀ b ∈ G, w.heap.size ≤ b) → K (.pointer (some ⟨q, 0, none⟩)) w') :
    Calls Try.prog 47 #[.pointer (some ⟨p, 0, none⟩)] w (retK K) := by
  refine c47_calls _ w K ?_
  unfold c47
  obtain ⟨ui, hui, huz, husz, huby⟩ := tyI_spec ty_u8
  have e0 := Ext.drew [] w
  have hsz : w.drew.heap.size = w.heap.size := rfl
  replace h : Hash w.drew p F m := h.keep e0 (by simp)
  generalize w.drew = w1 at *
  obtain ⟨rv, h, rfl⟩ := h
  have h8 := h.st
  rw [nilW_e]
  refine off_i (k := 0) ?_
  refine loadN h.hdr.r (by rw [hc_len h8]; decide) ?_
  rw [Nat.zero_add, hc_st h8, nilW_e]
  refine off_i (k := 8) ?_
  refine load1 h.hdr.r (hc_8 h8) ?_
  rw [nilW_e]
  refine off_i (k := 9) ?_
  refine load1 h.hdr.r (hc_9 h8) ?_
  refine buildSlice_i (vs := []) und_u8s hui huz rfl (by simp) (by simp) fun b1 w2 hb1 e1 hk1 hs1 => ?_
  have hh := h.hdr.keep e1 (by simp)
  have hst0 := hc_st (rv := rv) h8
  rw [List.drop_zero] at hst0
  refine ⟨loadN hh.r (by rw [hc_len h8]; decide) ⟨by rw [List.drop_zero, hst0], rfl⟩, load1 hh.r (hc_8 h8) ⟨rfl, rfl⟩, load1 hh.r (hc_9 h8) ⟨rfl, rfl⟩, ?_⟩
  have hb1s : b1 = w1.heap.size := hb1.symm
  refine append_i (ys := bc m.rest) (m := m.rest.length) (xs := []) (n := 0) und_u8s und_u8s hui huz (by rw [husz]; rfl) (by rw [huby]; decide) (.inr ⟨b1, 0, [], rfl, by simpa [flatV] using hk1, by simp, by simp, Nat.le_refl _⟩) (by rw [husz]; exact h.rest.rd.keep e1 (by simp)) (bc_one _) (by rw [huby]; omega) fun v2 w3 hv2 e2 hb2 => ?_
  rw [husz, Nat.zero_add, List.nil_append] at hv2
  have hne1 : p ∉ slB (.slice (some ⟨b1, 0, none⟩) 0 0) := by simp [slB]; have := h.hdr.lt; omega
  have hh2 := hh.keep e2 hne1
  refine ⟨loadN hh2.r (by rw [hc_len h8]; decide) ⟨by rw [List.drop_zero, hst0], rfl⟩, load1 hh2.r (hc_9 h8) ⟨rfl, rfl⟩, ?_⟩
  have hv2c : v2.cells = #[v2] := by obtain ⟨a, c, rfl⟩ := hv2.rd.len; rfl
  refine build_i str_hash (fill_hash rfl m.st h8 v2 hv2c m.n) ?_
  have hnew : ∀ b ∈ slB v2, w1.heap.size ≤ b := by
    intro b hb
    rcases hb2 with e | ⟨b', e, hge⟩
    · rw [e] at hb; simp [slB] at hb; omega
    · rw [e] at hb; simp at hb; have := e1.size; omega
  refine boxW_i fun q w4 hq e4 hk4 _ => ?_
  have hltv := hv2.lt
  refine hK q (q :: slB v2) w4 ⟨v2, ⟨hk4, hv2.at.keep e4 (by simp), fun hm => by have := hltv q hm; omega, h8⟩, rfl⟩ (((e0.new e1).step e2 (by intro x hx hlt; simp [slB] at hx; omega)).new e4) ?_
  intro b hb
  rcases List.mem_cons.1 hb with rfl | hb
  · have := e1.size
    have := e2.size
    omega
  · have := hnew b hb; omega
end Go.Proofs.Ytedebapgmfnflaa
