/- The law TagSets holds for every input; no condition. -/
import Derived.Test.YtedebapgmfnflaaTF
import Derived.Test.YtedebapgmfnflaaLA
namespace Go.Proofs.Ytedebapgmfnflaa
open Go Go.ChangeShapes Go.WideShapes Go.ChangeAt Go.RowKit
set_option maxRecDepth 100000

theorem tagSets_lifted (os : Os) (started : os.Started) (H : Type) (enc : TypeId × Value → H) :
    ReturnsInHanded {} Try.checked os 17 .any (Rows.tagSetsSpec.pre6 enc Try.prog Try.f17 Rows.tagSetsRow.domain false) (Rows.tagSetsSpec.post enc Try.prog Try.f17 false true false false) := by
  refine law_lifted started (b := 4) (by kernel_rfl) Try.func17
    (ChangeSpec.witness6 (enc := enc) (C := Try.checked) false ⟨#[], #[.slice none 0 0, .int .u8 0, .int .i64 0], []⟩ 8 (by kernel_rfl) (by kernel_rfl) (by kernel_rfl) (by kernel_rfl)) rfl ?_ (by kernel_rfl) (by kernel_rfl) (by kernel_rfl) rfl ?_
  · intro ds hds
    have hn : ds.length = 3 := hds.trans (by kernel_rfl)
    match ds, hn with
    | [a, b, c], _ => exact ⟨rfl, rfl, rfl⟩
  · intro W base args hl hc
    have hn : args.toList.length = 3 := hl.trans (by kernel_rfl)
    obtain ⟨v0, v1, v2, rfl⟩ := args3 hn
    obtain ⟨a, h0, k0, c0, b0⟩ := open_digs (hc 0 _ v0 (by kernel_rfl) rfl)
    obtain ⟨b, rfl⟩ := open_u8 (hc 1 _ v1 (by kernel_rfl) rfl)
    obtain ⟨c, rfl, h2⟩ := open_i64 (hc 2 _ v2 (by kernel_rfl) rfl)
    exact (setsLaw_walk h0 k0 h2 (K := fun v W' => v = .bool true ∧ Ext [] W W') fun w' e => ⟨rfl, e⟩).mono law_ret

theorem tagSets_holds : Rows.TagSetsSaid :=
  OpenClaim.holds_of_wide 17 Try.f17 rfl rfl rfl rfl rfl rfl rfl ⟨rfl, rfl, rfl, rfl, rfl⟩ rfl rfl rfl rfl rfl (by kernel_rfl) Try.func17 (by kernel_rfl)
    (of_decide_eq_true (by kernel_rfl)) (by unfold Func.isWrapper; first | (rw [if_pos (by decide +kernel)]; kernel_rfl) | (rw [if_neg (by decide +kernel)]; exact ⟨rfl, rfl⟩))
    (fun os started H enc _ => tagSets_lifted os started H enc)
end Go.Proofs.Ytedebapgmfnflaa
