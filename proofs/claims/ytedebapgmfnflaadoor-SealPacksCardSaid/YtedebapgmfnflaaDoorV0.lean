/- seal: how many sectors, numbers as bytes: their walks. Conditions: numbers as bytes are not below 0; at most 4 bytes are read as a number. -/
import Derived.Test.YtedebapgmfnflaaDoorNA
import Derived.Test.YtedebapgmfnflaaDoorRA
import Derived.Test.YtedebapgmfnflaaDoorCL
import Derived.Test.YtedebapgmfnflaaDoorU2
namespace Go.Proofs.YtedebapgmfnflaaDoor
open Go
set_option maxRecDepth 100000

theorem RdSl.lenw {P : Program} {w w' : World} {v : Value} {s : Nat} {ys : List Value} {m : Nat} {ts : Array TypeId} {t : TypeId} {K : VPost} (h : RdSl w v s ys m) : lenW P (some true) ts t #[v] w' K = K (.int .i64 m) w' := by
  obtain ⟨a, c, rfl⟩ := h.len
  exact len_s

def needI (n : Int) : Nat := if n < 0 then 0 else needN n.toNat
theorem needI_nat (n : Nat) : needI n = needN n := by unfold needI; rw [if_neg (by omega), Int.toNat_natCast]

theorem need_c {w : World} {K : VPost} {n : Int} (hK : K (.int .i64 (needI n)) w) : Calls Tryd.prog 21 #[.int .i64 n] w (retK K) := by
  refine c21_calls _ w K ?_
  unfold c21
  rw [ilss]
  unfold needI needN at hK
  by_cases h : n < 0
  · rw [decide_eq_true h]
    repeat with_reducible refine gs_tf ?_
    refine pick_ti ?_
    rw [condW_t]
    rw [if_pos h] at hK
    exact hK
  · rw [decide_eq_false h]
    rw [if_neg h] at hK
    refine gs_f ?_
    refine gs_f ?_
    rw [igtr]
    refine pick_fi ?_
    refine cond_d (fun h2 => ?_) (fun h2 => ?_)
    · rw [if_pos (by omega)] at hK
      exact hK
    · rw [if_neg (by omega)] at hK
      refine iadd (by omega) ?_
      refine iadd (by omega) ?_
      refine isub (by omega) ?_
      rw [show n + 34 + 46 - 1 = ((n.toNat + 79 : Nat) : Int) by omega]
      exact nquo (by decide) (by omega) hK

theorem beN_or (b : Bytes) (c : UInt8) : beN b * 2 ^ 8 ||| c.toNat = beN (b ++ [c]) := by
  rw [beN_snoc, or_byte _ _ c.toNat_lt]

theorem get_c {w : World} {K : VPost} {x : Value} {b : Bytes} (h : RdSl w x 1 (bc b) b.length) (hl : b.length ≤ 4) (hK : K (.int .i64 (beN b)) w) : Calls Tryd.prog 75 #[x] w (retK K) := by
  refine c75_calls _ w K ?_
  unfold c75
  refine bindX_i fun J0 h0 => bindX_i fun J1 h1 => ?_
  rw [h.lenw]
  refine bindX_i fun J2 h2 => ?_
  refine loop_i (fun m fr wr => ∃ i : Nat, m = b.length - i ∧ i ≤ b.length ∧ fr 3 = .int .i64 (beN (b.take i)) ∧ fr 6 = x ∧ fr 7 = .int .i64 b.length ∧ fr 8 = .int .i64 i ∧ wr = w) b.length ?_ ?_
  · exact ⟨0, rfl, by omega, rfl, rfl, rfl, rfl, rfl⟩
  · rintro m fr wr J ⟨i, rfl, hi, f3, f6, f7, f8, rfl⟩ hJ hX
    rw [f8, f7]
    refine nlss (cond_d (fun hlt => ?_) (fun hlt => ?_))
    · rw [f6, f3]
      obtain ⟨b1, o1, i1, l1⟩ := RdSl.elAt (f := bv) 0 h (k := i) hlt .i64
      refine i1 _ ?_
      refine l1 _ ?_
      have hb := beN_lt (b.take i)
      have hlen : (b.take i).length = i := by rw [List.length_take]; omega
      rw [hlen] at hb
      have hp : 256 ^ i ≤ 256 ^ 3 := Nat.pow_le_pow_right (by decide) (by omega)
      have h3 : (256 : Nat) ^ 3 = 16777216 := by decide
      refine nshl (s := 8) (by decide) (by omega) ?_
      have hg : b.getD i 0 = b[i] := by rw [List.getD_eq_getElem?_getD, List.getElem?_eq_getElem hlt]; rfl
      have hc := (b[i]).toNat_lt
      rw [hg, show bv b[i] = .int .u8 b[i].toNat from rfl, convN_i und_u8 und_int, i64_fit (by omega)]
      refine nor (by omega) (by omega) ?_
      rw [beN_or]
      refine nadd (y := 1) (by omega) ?_
      refine hJ (b.length - (i + 1)) _ _ (by omega) ⟨i + 1, rfl, by omega, ?_, f6, f7, rfl, rfl⟩
      show Value.int .i64 _ = _
      rw [List.take_succ_eq_append_getElem hlt]
    · obtain rfl : i = b.length := by omega
      refine hX _ _ _ (by simp) (h2 _ _ _ (h1 _ _ _ ?_))
      show K (fr 3) _
      rw [f3, List.take_length]
      exact hK

theorem beP_step (n k i : Nat) : (List.replicate (k + 1) 0 ++ beP i n).set k (UInt8.ofNat (n >>> (8 * i))) = List.replicate k 0 ++ beP (i + 1) n := by
  rw [List.replicate_succ', List.append_assoc]
  simp [beP, List.set_append]

theorem put_c {w : World} {K : VPost} {n k : Nat} (hn : n < 9223372036854775808) (hk : k ≤ 8) (hK : ∀ v w', OwnAt w' v 5 1 (bc (beP k n)) k → Ext [] w w' → (∀ b ∈ slB v, w.heap.size ≤ b) → K v w') :
    Calls Tryd.prog 128 #[.int .i64 n, .int .i64 k] w (retK K) := by
  refine c128_calls _ _ w K ?_
  unfold c128
  obtain ⟨ui, hui, huz, husz, huby⟩ := tyI_spec ty_u8
  refine makeSlice_i (z0 := .int .u8 0) (n := k) (c := k) und_u8s hui huz (by rw [husz]; rfl) (Nat.le_refl _) (by rw [huby]; omega) (by omega) fun bb w1 hbb e hm _ => ?_
  rw [husz, Nat.mul_one, ← bc_zeros] at hm
  have s := (Sep.nil w).add (T := rO (.slice (some ⟨bb, 0, none⟩) k k) 5 1 (bc (List.replicate k 0)) k) (.inr ⟨bb, 0, k, _, rfl, hm, by rw [bc_length]; simp, by rw [List.drop_zero, List.take_of_length_le (by rw [bc_length]; simp)], by rw [bc_length]; simp, Nat.le_refl _⟩) e (fun c hc => by simp [rO, slB] at hc; omega)
  have hf : ∀ b ∈ slB (.slice (some ⟨bb, 0, none⟩) k k), w.heap.size ≤ b := fun c hc => by simp [slB] at hc; omega
  have hvl : ∀ (w : World) (K : VPost), lenW Tryd.prog (some true) #[22] 3 #[.slice (some ⟨bb, 0, none⟩) k k] w K = K (.int .i64 k) w := fun w K => by rw [len_s]
  generalize (Value.slice (some ⟨bb, 0, none⟩) k k) = v at *
  refine bindX_i fun J0 h0 => bindX_i fun J1 h1 => ?_
  rw [hvl]
  refine bindX_i fun J2 h2 => ?_
  refine loop_i (fun m fr wr => ∃ i : Nat, m = k - i ∧ i ≤ k ∧ fr 0 = .int .i64 n ∧ fr 1 = .int .i64 k ∧ fr 5 = v ∧ fr 10 = .int .i64 k ∧ fr 11 = .int .i64 i ∧ Sep [] w wr [rO v 5 1 (bc (List.replicate (k - i) 0 ++ beP i n)) k] []) k ?_ ?_
  · exact ⟨0, rfl, by omega, rfl, rfl, rfl, rfl, rfl, by simpa [beP] using s⟩
  · rintro m fr wr J ⟨i, rfl, hi, f0, f1, f5, f10, f11, s⟩ hJ hX
    rw [f10, f11]
    refine nlss (cond_d (fun hlt => ?_) (fun hlt => ?_))
    · rw [f0, f1, f5]
      refine nsub (y := 1) (by omega) (by omega) ?_
      refine nsub (by omega) (by omega) ?_
      refine nmul (x := 8) (by omega) ?_
      refine nshr (by show 8 * i ≤ 64; omega) ?_
      have e8 : IntKind.u8.wrap ((n >>> (8 * i) : Nat) : Int) = ((UInt8.ofNat (n >>> (8 * i))).toNat : Int) := wrap_u8n _
      rw [convN_i und_int und_u8, e8]
      obtain ⟨b1, o1, i1, _, s1⟩ := s.byteAt 0 rfl (k := k - 1 - i) (by omega) .i64
      refine i1 _ ?_
      refine s1 _ (UInt8.ofNat (n >>> (8 * i))) _ fun w5 s => ?_
      refine nadd (y := 1) (by omega) ?_
      have e9 : k - i = (k - 1 - i) + 1 := by omega
      have s : Sep [] w w5 [rO v 5 1 (bc ((List.replicate (k - i) 0 ++ beP i n).set (k - 1 - i) (UInt8.ofNat (n >>> (8 * i))))) k] [] := s
      rw [e9, beP_step] at s
      exact hJ (k - (i + 1)) _ _ (by omega) ⟨i + 1, rfl, by omega, f0, f1, f5, f10, rfl, by rw [show k - (i + 1) = k - 1 - i by omega]; exact s⟩
    · obtain rfl : i = k := by omega
      refine hX _ _ _ (by simp) (h2 _ _ _ (h1 _ _ _ ?_))
      show K (fr 5) _
      rw [f5]
      rw [Nat.sub_self] at s
      exact hK v _ (s.at 0 rfl) s.ext hf
end Go.Proofs.YtedebapgmfnflaaDoor
