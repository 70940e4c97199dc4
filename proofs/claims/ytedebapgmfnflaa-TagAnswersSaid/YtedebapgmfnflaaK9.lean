/- The order of digests: the walk of the program's. -/
import Derived.Test.YtedebapgmfnflaaK8
namespace Go.Proofs.Ytedebapgmfnflaa
open Go
set_option maxRecDepth 100000

theorem compare_c {w : World} {K : VPost} {a b : Bytes} (ha : a.length = 32) (hb : b.length = 32) (hK : ∀ w', Ext [] w w' → K (.int .i64 (Lib.compareBytes a b)) w') :
    Calls Try.prog 59 #[.agg (bc a).toArray, .agg (bc b).toArray] w (retK K) := by
  refine c59_calls _ _ w K ?_
  unfold c59
  refine (Sep.nil w).box fun b1 w1 s _ => ?_
  have s : Sep [] w w1 [rB b1 (bc a) 62] [] := s
  refine s.box fun b2 w2 s _ => ?_
  have s : Sep [] w w2 [rB b2 (bc b) 62, rB b1 (bc a) 62] [] := s
  have s := s.drew
  refine slArr_i ?_
  refine slArr_i ?_
  have r1 : RdSl w2.drew (.slice (some ⟨b1, 0, none⟩) 32 32) 1 (bc (a.take 32)) (a.take 32).length := Blk.rdTo (s.at 1 rfl) ha (by decide)
  have r2 : RdSl w2.drew (.slice (some ⟨b2, 0, none⟩) 32 32) 1 (bc (b.take 32)) (b.take 32).length := Blk.rdTo (s.at 0 rfl) hb (by decide)
  rw [List.take_of_length_le (by omega)] at r1
  rw [List.take_of_length_le (by omega)] at r2
  refine fnW_of (by kernel_rfl) (bytesCompare_c (a := a) (b := b) r1 r2 ?_)
  exact hK _ s.ext
end Go.Proofs.Ytedebapgmfnflaa
