/- The median of three digests: the walks. -/
import Derived.Test.YtedebapgmfnflaaM5
namespace Go.Proofs.Ytedebapgmfnflaa
open Go
set_option maxRecDepth 100000

theorem order2_c {S : List Nat} {w0 w : World} {L R : List Res} {K : VPost} {v : Value} {d : Array Bytes} {a b n p : Nat} (s : Sep S w0 w (rDs v d :: rB p [.int .i64 n] 3 :: L) R) (hd : all32 d) (ha : a < d.size) (hb : b < d.size) (hn : n < 2 ^ 30)
    (hK : ∀ w', Sep S w0 w' (rDs v d :: rB p [.int .i64 (Sort.order2 dlt d a b n).2.2] 3 :: L) R → K (.tuple #[.int .i64 (Sort.order2 dlt d a b n).1, .int .i64 (Sort.order2 dlt d a b n).2.1]) w') :
    Calls Try.prog 130 #[v, .int .i64 a, .int .i64 b, .pointer (some ⟨p, 0, none⟩), cmpV] w (retK K) := by
  refine c130_calls _ _ _ _ _ w K ?_
  unfold c130
  have s := s.drew
  obtain ⟨b1, o1, hix1, hld1⟩ := s.dget hd hb
  refine hix1 _ ?_
  refine hld1 _ ?_
  obtain ⟨b2, o2, hix2, hld2⟩ := s.dget hd ha
  refine hix2 _ ?_
  refine hld2 _ ?_
  refine s.dcmp (get32 hd hb) (get32 hd ha) fun w2 s => ?_
  rw [ilss]
  have e : dlt d[b]! d[a]! = decide (Lib.compareBytes d[b]! d[a]! < 0) := rfl
  refine cond_d (fun h => ?_) (fun h => ?_)
  · have ho : Sort.order2 dlt d a b n = (b, a, n + 1) := by rw [Sort.order2, e, if_pos (by simpa using h)]
    rw [ho] at hK
    refine nil_i ?_
    refine s.load1 1 rfl (o := 0) rfl ?_
    refine nadd (y := 1) (by omega) ?_
    refine nil_i ?_
    refine s.store1 1 rfl (o := 0) rfl (by simp) rfl fun w3 s _ => ?_
    exact hK _ s
  · have ho : Sort.order2 dlt d a b n = (a, b, n) := by rw [Sort.order2, e, if_neg (by simpa using h)]
    rw [ho] at hK
    exact hK _ s

theorem order2_in {d : Array Bytes} {a b n : Nat} (P : Nat → Prop) (ha : P a) (hb : P b) : P (Sort.order2 dlt d a b n).1 ∧ P (Sort.order2 dlt d a b n).2.1 ∧ (Sort.order2 dlt d a b n).2.2 ≤ n + 1 := by
  unfold Sort.order2
  split
  · exact ⟨hb, ha, Nat.le_refl _⟩
  · exact ⟨ha, hb, Nat.le_succ _⟩

theorem median_c {S : List Nat} {w0 w : World} {L R : List Res} {K : VPost} {v : Value} {d : Array Bytes} {a b c n p : Nat} (s : Sep S w0 w (rDs v d :: rB p [.int .i64 n] 3 :: L) R) (hd : all32 d) (ha : a < d.size) (hb : b < d.size) (hc : c < d.size) (hn : n + 3 < 2 ^ 30)
    (hK : ∀ w', Sep S w0 w' (rDs v d :: rB p [.int .i64 (Sort.median dlt d a b c n).2] 3 :: L) R → K (.int .i64 (Sort.median dlt d a b c n).1) w') :
    Calls Try.prog 129 #[v, .int .i64 a, .int .i64 b, .int .i64 c, .pointer (some ⟨p, 0, none⟩), cmpV] w (retK K) := by
  refine c129_calls _ _ _ _ _ _ w K ?_
  unfold c129
  have hm : Sort.median dlt d a b c n = ((Sort.order2 dlt d (Sort.order2 dlt d a b n).1 (Sort.order2 dlt d (Sort.order2 dlt d a b n).2.1 c (Sort.order2 dlt d a b n).2.2).1 (Sort.order2 dlt d (Sort.order2 dlt d a b n).2.1 c (Sort.order2 dlt d a b n).2.2).2.2).2.1, (Sort.order2 dlt d (Sort.order2 dlt d a b n).1 (Sort.order2 dlt d (Sort.order2 dlt d a b n).2.1 c (Sort.order2 dlt d a b n).2.2).1 (Sort.order2 dlt d (Sort.order2 dlt d a b n).2.1 c (Sort.order2 dlt d a b n).2.2).2.2).2.2) := rfl
  rw [hm] at hK
  clear hm
  obtain ⟨i1, i2, i3⟩ := order2_in (d := d) (n := n) (fun x => x < d.size) ha hb
  refine fnW_of (by kernel_rfl) (order2_c s hd ha hb (by omega) fun w1 s => ?_)
  generalize Sort.order2 dlt d a b n = r1 at *
  rw [extr0, extr1]
  obtain ⟨j1, j2, j3⟩ := order2_in (d := d) (n := r1.2.2) (fun x => x < d.size) i2 hc
  refine fnW_of (by kernel_rfl) (order2_c s hd i2 hc (by omega) fun w2 s => ?_)
  generalize Sort.order2 dlt d r1.2.1 c r1.2.2 = r2 at *
  rw [extr0, extr1]
  obtain ⟨k1, k2, k3⟩ := order2_in (d := d) (n := r2.2.2) (fun x => x < d.size) i1 j1
  refine fnW_of (by kernel_rfl) (order2_c s hd i1 j1 (by omega) fun w3 s => ?_)
  rw [extr0, extr1]
  exact hK _ s
end Go.Proofs.Ytedebapgmfnflaa
