/- The law TagNodes holds for every input; no condition. -/
import Derived.Test.YtedebapgmfnflaaTC
import Derived.Test.YtedebapgmfnflaaLA
namespace Go.Proofs.Ytedebapgmfnflaa
open Go Go.ChangeShapes Go.WideShapes Go.ChangeAt Go.RowKit
set_option maxRecDepth 100000

theorem tagNodes_lifted (os : Os) (started : os.Started) (H : Type) (enc : TypeId × Value → H) :
    ReturnsInHanded {} Try.checked os 18 .any (Rows.tagNodesSpec.pre6 enc Try.prog Try.f18 Rows.tagNodesRow.domain false) (Rows.tagNodesSpec.post enc Try.prog Try.f18 false true false false) := by
  refine law_lifted started (b := 4) (by kernel_rfl) Try.func18
    (ChangeSpec.witness6 (enc := enc) (C := Try.checked) false ⟨#[], #[.slice none 0 0, .slice none 0 0, .int .u8 0], []⟩ 8 (by kernel_rfl) (by kernel_rfl) (by kernel_rfl) (by kernel_rfl)) rfl ?_ (by kernel_rfl) (by kernel_rfl) (by kernel_rfl) rfl ?_
  · intro ds hds
    have hn : ds.length = 3 := hds.trans (by kernel_rfl)
    match ds, hn with
    | [a, b, c], _ => exact ⟨rfl, rfl, rfl⟩
  · intro W base args hl hc
    have hn : args.toList.length = 3 := hl.trans (by kernel_rfl)
    obtain ⟨v0, v1, v2, rfl⟩ := args3 hn
    obtain ⟨s0, a, h0, c0, k0, b0⟩ := open_rows (hc 0 _ v0 (by kernel_rfl) rfl)
    obtain ⟨s1, b, h1, c1, k1, b1⟩ := open_rows (hc 1 _ v1 (by kernel_rfl) rfl)
    obtain ⟨c, rfl⟩ := open_u8 (hc 2 _ v2 (by kernel_rfl) rfl)
    exact (nodesLaw_walk h0 h1 k0 b0 k1 b1 (K := fun v W' => v = .bool true ∧ Ext [] W W') fun w' e => ⟨rfl, e⟩).mono law_ret

theorem tagNodes_holds : Rows.TagNodesSaid :=
  OpenClaim.holds_of_wide 18 Try.f18 rfl rfl rfl rfl rfl rfl rfl ⟨rfl, rfl, rfl, rfl, rfl⟩ rfl rfl rfl rfl rfl (by kernel_rfl) Try.func18 (by kernel_rfl)
    (of_decide_eq_true (by kernel_rfl)) (by unfold Func.isWrapper; first | (rw [if_pos (by decide +kernel)]; kernel_rfl) | (rw [if_neg (by decide +kernel)]; exact ⟨rfl, rfl⟩))
    (fun os started H enc _ => tagNodes_lifted os started H enc)
end Go.Proofs.Ytedebapgmfnflaa
