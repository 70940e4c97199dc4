/- The law TagAnswers holds for every input; no condition. -/
import Derived.Test.YtedebapgmfnflaaTI
import Derived.Test.YtedebapgmfnflaaLA
namespace Go.Proofs.Ytedebapgmfnflaa
open Go Go.ChangeShapes Go.WideShapes Go.ChangeAt Go.RowKit
set_option maxRecDepth 100000

theorem tagAnswers_lifted (os : Os) (started : os.Started) (H : Type) (enc : TypeId × Value → H) :
    ReturnsInHanded {} Try.checked os 13 .any (Rows.tagAnswersSpec.pre6 enc Try.prog Try.f13 Rows.tagAnswersRow.domain false) (Rows.tagAnswersSpec.post enc Try.prog Try.f13 false true false false) := by
  refine law_lifted started (b := 4) (by kernel_rfl) Try.func13
    (ChangeSpec.witness6 (enc := enc) (C := Try.checked) false ⟨#[], #[.slice none 0 0, .int .u8 0, .agg (Array.replicate 32 (.int .u8 0)), .agg (Array.replicate 32 (.int .u8 0)), .string ByteArray.empty], []⟩ 8 (by kernel_rfl) (by kernel_rfl) (by kernel_rfl) (by kernel_rfl)) rfl ?_ (by kernel_rfl) (by kernel_rfl) (by kernel_rfl) rfl ?_
  · intro ds hds
    have hn : ds.length = 5 := hds.trans (by kernel_rfl)
    match ds, hn with
    | [a, b, c, d, e], _ => exact ⟨rfl, rfl, rfl⟩
  · intro W base args hl hc
    have hn : args.toList.length = 5 := hl.trans (by kernel_rfl)
    obtain ⟨v0, v1, v2, v3, v4, rfl⟩ := args5 hn
    obtain ⟨a, h0, k0, c0, b0⟩ := open_digs (hc 0 _ v0 (by kernel_rfl) rfl)
    obtain ⟨b, rfl⟩ := open_u8 (hc 1 _ v1 (by kernel_rfl) rfl)
    obtain ⟨c, rfl, h2⟩ := open_digest (hc 2 _ v2 (by kernel_rfl) rfl)
    obtain ⟨d, rfl, h3⟩ := open_digest (hc 3 _ v3 (by kernel_rfl) rfl)
    obtain ⟨e, rfl⟩ := open_text (hc 4 _ v4 (by kernel_rfl) rfl)
    exact (answersLaw_walk h0 k0 h2 h3 (K := fun v W' => v = .bool true ∧ Ext [] W W') fun w' e => ⟨rfl, e⟩).mono law_ret

theorem tagAnswers_holds : Rows.TagAnswersSaid :=
  OpenClaim.holds_of_wide 13 Try.f13 rfl rfl rfl rfl rfl rfl rfl ⟨rfl, rfl, rfl, rfl, rfl⟩ rfl rfl rfl rfl rfl (by kernel_rfl) Try.func13 (by kernel_rfl)
    (of_decide_eq_true (by kernel_rfl)) (by unfold Func.isWrapper; first | (rw [if_pos (by decide +kernel)]; kernel_rfl) | (rw [if_neg (by decide +kernel)]; exact ⟨rfl, rfl⟩))
    (fun os started H enc _ => tagAnswers_lifted os started H enc)
end Go.Proofs.Ytedebapgmfnflaa
