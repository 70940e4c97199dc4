/- The law TagUnframes holds for every input; no condition. -/
import Derived.Test.YtedebapgmfnflaaTE
import Derived.Test.YtedebapgmfnflaaLA
namespace Go.Proofs.Ytedebapgmfnflaa
open Go Go.ChangeShapes Go.WideShapes Go.ChangeAt Go.RowKit
set_option maxRecDepth 100000

theorem tagUnframes_lifted (os : Os) (started : os.Started) (H : Type) (enc : TypeId × Value → H) :
    ReturnsInHanded {} Try.checked os 15 .any (Rows.tagUnframesSpec.pre6 enc Try.prog Try.f15 Rows.tagUnframesRow.domain false) (Rows.tagUnframesSpec.post enc Try.prog Try.f15 false true false false) := by
  refine law_lifted started (b := 4) (by kernel_rfl) Try.func15
    (ChangeSpec.witness6 (enc := enc) (C := Try.checked) false ⟨#[], #[.slice none 0 0], []⟩ 8 (by kernel_rfl) (by kernel_rfl) (by kernel_rfl) (by kernel_rfl)) rfl ?_ (by kernel_rfl) (by kernel_rfl) (by kernel_rfl) rfl ?_
  · intro ds hds
    have hn : ds.length = 1 := hds.trans (by kernel_rfl)
    match ds, hn with
    | [a], _ => exact ⟨rfl, rfl, rfl⟩
  · intro W base args hl hc
    have hn : args.toList.length = 1 := hl.trans (by kernel_rfl)
    obtain ⟨v0, rfl⟩ := args1 hn
    obtain ⟨a, ⟨h0, c0⟩, k0⟩ := open_bytesC (hc 0 _ v0 (by kernel_rfl) rfl)
    exact (unframesLaw_walk h0 c0 (K := fun v W' => v = .bool true ∧ Ext [] W W') fun w' e => ⟨rfl, e⟩).mono law_ret

theorem tagUnframes_holds : Rows.TagUnframesSaid :=
  OpenClaim.holds_of_wide 15 Try.f15 rfl rfl rfl rfl rfl rfl rfl ⟨rfl, rfl, rfl, rfl, rfl⟩ rfl rfl rfl rfl rfl (by kernel_rfl) Try.func15 (by kernel_rfl)
    (of_decide_eq_true (by kernel_rfl)) (by unfold Func.isWrapper; first | (rw [if_pos (by decide +kernel)]; kernel_rfl) | (rw [if_neg (by decide +kernel)]; exact ⟨rfl, rfl⟩))
    (fun os started H enc _ => tagUnframes_lifted os started H enc)
end Go.Proofs.Ytedebapgmfnflaa
