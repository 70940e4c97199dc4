/- Digests of an array read and compared, in hand. -/
import Derived.Test.YtedebapgmfnflaaM4
namespace Go.Proofs.Ytedebapgmfnflaa
open Go
set_option maxRecDepth 100000

/-- A digest is read. -/
theorem Sep.dget {S : List Nat} {w0 w : World} {L R : List Res} {v : Value} {d : Array Bytes} {p : Nat} (s : Sep S w0 w (rDs v d :: L) R) (hd : all32 d) (hp : p < d.size) :
    ∃ b o, (∀ K : VPost, K (.pointer (some ⟨b, o, none⟩)) w → idxW (some (none, 32)) v (.int .i64 p) w K) ∧ (∀ (K : VPost), K (.agg (bc d[p]!).toArray) w → loadW (some (true, 32)) (.pointer (some ⟨b, o, none⟩)) w K) := by
  have hll : d.toList.length = d.size := Array.length_toList
  obtain ⟨b, o, hix, hld, _⟩ := s.digAt 0 rfl hll hd (by omega : p < d.toList.length) .i64
  exact ⟨b, o, hix, fun K hK => hld K (by rw [arr_get d p hp] at hK; exact hK)⟩
theorem get32 {d : Array Bytes} (hd : all32 d) {p : Nat} (hp : p < d.size) : (d[p]!).length = 32 := by
  rw [arr_get d p hp]
  exact hd _ (List.getElem_mem _)
/-- Two digests are compared. -/
theorem Sep.dcmp {S : List Nat} {w0 w : World} {L R : List Res} {x y : Bytes} {K : VPost} (s : Sep S w0 w L R) (hx : x.length = 32) (hy : y.length = 32) (hK : ∀ w', Sep S w0 w' L R → K (.int .i64 (Lib.compareBytes x y)) w') :
    dynW Try.prog cmpV #[.agg (bc x).toArray, .agg (bc y).toArray] w K := by
  show fnW Try.prog 59 #[_, _] _ _
  exact fnW_of (by kernel_rfl) (compare_c hx hy fun w2 e2 => hK w2 (s.ext0 e2))
end Go.Proofs.Ytedebapgmfnflaa
