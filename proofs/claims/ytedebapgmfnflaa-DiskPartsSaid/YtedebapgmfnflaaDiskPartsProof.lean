/- The law DiskParts holds for every input; no condition. -/
import Derived.Test.YtedebapgmfnflaaF3
import Derived.Test.YtedebapgmfnflaaE2
namespace Go.Proofs.Ytedebapgmfnflaa
open Go Go.ChangeShapes Go.WideShapes Go.ChangeAt Go.RowKit
set_option maxRecDepth 100000

theorem diskParts_lifted (os : Os) (started : os.Started) (H : Type) (enc : TypeId × Value → H) :
    ReturnsInHanded {} Try.checked os 7 .any (Rows.diskPartsSpec.pre6 enc Try.prog Try.f7 Rows.diskPartsRow.domain false) (Rows.diskPartsSpec.post enc Try.prog Try.f7 false true false false) := by
  refine law_lifted started (b := 4) (by kernel_rfl) Try.func7
    (ChangeSpec.witness6 (enc := enc) (C := Try.checked) false ⟨#[], #[.agg (Array.replicate 64 (.int .u8 0)), .slice none 0 0], []⟩ 8 (by kernel_rfl) (by kernel_rfl) (by kernel_rfl) (by kernel_rfl)) rfl ?_ (by kernel_rfl) (by kernel_rfl) (by kernel_rfl) rfl ?_
  · intro ds hds
    have hn : ds.length = 2 := hds.trans (by kernel_rfl)
    match ds, hn with
    | [a, b], _ => exact ⟨rfl, rfl, rfl⟩
  · intro W base args hl hc
    have hn : args.toList.length = 2 := hl.trans (by kernel_rfl)
    obtain ⟨v0, v1, rfl⟩ := args2 hn
    obtain ⟨bb, rfl, h0⟩ := open_block (hc 0 _ v0 (by kernel_rfl) rfl)
    obtain ⟨pk, h1, k1⟩ := open_bytes (hc 1 _ v1 (by kernel_rfl) rfl)
    exact (parts_walk h1 h0 (K := fun v W' => v = .bool true ∧ Ext [] W W') fun w' e => ⟨rfl, e⟩).mono law_ret

theorem diskParts_holds : Rows.DiskPartsSaid :=
  OpenClaim.holds_of_wide 7 Try.f7 rfl rfl rfl rfl rfl rfl rfl ⟨rfl, rfl, rfl, rfl, rfl⟩ rfl rfl rfl rfl rfl (by kernel_rfl) Try.func7 (by kernel_rfl)
    (of_decide_eq_true (by kernel_rfl)) (by unfold Func.isWrapper; first | (rw [if_pos (by decide +kernel)]; kernel_rfl) | (rw [if_neg (by decide +kernel)]; exact ⟨rfl, rfl⟩))
    (fun os started H enc _ => diskParts_lifted os started H enc)
end Go.Proofs.Ytedebapgmfnflaa
