/- The law TagFrames holds for every input; no condition. -/
import Derived.Test.YtedebapgmfnflaaTC
import Derived.Test.YtedebapgmfnflaaLA
namespace Go.Proofs.Ytedebapgmfnflaa
open Go Go.ChangeShapes Go.WideShapes Go.ChangeAt Go.RowKit
set_option maxRecDepth 100000

theorem tagFrames_lifted (os : Os) (started : os.Started) (H : Type) (enc : TypeId × Value → H) :
    ReturnsInHanded {} Try.checked os 14 .any (Rows.tagFramesSpec.pre6 enc Try.prog Try.f14 Rows.tagFramesRow.domain false) (Rows.tagFramesSpec.post enc Try.prog Try.f14 false true false false) := by
  refine law_lifted started (b := 4) (by kernel_rfl) Try.func14
    (ChangeSpec.witness6 (enc := enc) (C := Try.checked) false ⟨#[], #[.slice none 0 0, .int .u8 0], []⟩ 8 (by kernel_rfl) (by kernel_rfl) (by kernel_rfl) (by kernel_rfl)) rfl ?_ (by kernel_rfl) (by kernel_rfl) (by kernel_rfl) rfl ?_
  · intro ds hds
    have hn : ds.length = 2 := hds.trans (by kernel_rfl)
    match ds, hn with
    | [a, b], _ => exact ⟨rfl, rfl, rfl⟩
  · intro W base args hl hc
    have hn : args.toList.length = 2 := hl.trans (by kernel_rfl)
    obtain ⟨v0, v1, rfl⟩ := args2 hn
    obtain ⟨s0, a, h0, c0, k0, b0⟩ := open_rows (hc 0 _ v0 (by kernel_rfl) rfl)
    obtain ⟨b, rfl⟩ := open_u8 (hc 1 _ v1 (by kernel_rfl) rfl)
    exact (framesLaw_walk h0 k0 b0 (K := fun v W' => v = .bool true ∧ Ext [] W W') fun w' e => ⟨rfl, e⟩).mono law_ret

theorem tagFrames_holds : Rows.TagFramesSaid :=
  OpenClaim.holds_of_wide 14 Try.f14 rfl rfl rfl rfl rfl rfl rfl ⟨rfl, rfl, rfl, rfl, rfl⟩ rfl rfl rfl rfl rfl (by kernel_rfl) Try.func14 (by kernel_rfl)
    (of_decide_eq_true (by kernel_rfl)) (by unfold Func.isWrapper; first | (rw [if_pos (by decide +kernel)]; kernel_rfl) | (rw [if_neg (by decide +kernel)]; exact ⟨rfl, rfl⟩))
    (fun os started H enc _ => tagFrames_lifted os started H enc)
end Go.Proofs.Ytedebapgmfnflaa
