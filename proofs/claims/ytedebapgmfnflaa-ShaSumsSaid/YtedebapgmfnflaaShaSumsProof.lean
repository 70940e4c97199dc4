/- The law ShaSums holds for every input; no condition. -/
import Derived.Test.YtedebapgmfnflaaT7
import Derived.Test.YtedebapgmfnflaaE2
namespace Go.Proofs.Ytedebapgmfnflaa
open Go Go.ChangeShapes Go.WideShapes Go.ChangeAt Go.RowKit
set_option maxRecDepth 100000

theorem shaSums_lifted (os : Os) (started : os.Started) (H : Type) (enc : TypeId × Value → H) :
    ReturnsInHanded {} Try.checked os 11 .any (Rows.shaSumsSpec.pre6 enc Try.prog Try.f11 Rows.shaSumsRow.domain false) (Rows.shaSumsSpec.post enc Try.prog Try.f11 false true false false) := by
  refine law_lifted started (b := 4) (by kernel_rfl) Try.func11
    (ChangeSpec.witness6 (enc := enc) (C := Try.checked) false ⟨#[], #[.slice none 0 0, .agg (Array.replicate 8 (.int .u32 0)), .agg (Array.replicate 64 (.int .u8 0)), .int .i64 0], []⟩ 8 (by kernel_rfl) (by kernel_rfl) (by kernel_rfl) (by kernel_rfl)) rfl ?_ (by kernel_rfl) (by kernel_rfl) (by kernel_rfl) rfl ?_
  · intro ds hds
    have hn : ds.length = 4 := hds.trans (by kernel_rfl)
    match ds, hn with
    | [a, b, c, d], _ => exact ⟨rfl, rfl, rfl⟩
  · intro W base args hl hc
    have hn : args.toList.length = 4 := hl.trans (by kernel_rfl)
    obtain ⟨v0, v1, v2, v3, rfl⟩ := args4 hn
    obtain ⟨a, ⟨h0, c0⟩, k0⟩ := open_bytesC (hc 0 _ v0 (by kernel_rfl) rfl)
    obtain ⟨b, rfl, h1⟩ := open_w8 (hc 1 _ v1 (by kernel_rfl) rfl)
    obtain ⟨c, rfl, h2⟩ := open_b64 (hc 2 _ v2 (by kernel_rfl) rfl)
    obtain ⟨d, rfl, h3⟩ := open_i64 (hc 3 _ v3 (by kernel_rfl) rfl)
    exact (sums_walk (n := d) h0 h1 h2 (K := fun v W' => v = .bool true ∧ Ext [] W W') fun w' e => ⟨rfl, e⟩).mono law_ret

theorem shaSums_holds : Rows.ShaSumsSaid :=
  OpenClaim.holds_of_wide 11 Try.f11 rfl rfl rfl rfl rfl rfl rfl ⟨rfl, rfl, rfl, rfl, rfl⟩ rfl rfl rfl rfl rfl (by kernel_rfl) Try.func11 (by kernel_rfl)
    (of_decide_eq_true (by kernel_rfl)) (by unfold Func.isWrapper; first | (rw [if_pos (by decide +kernel)]; kernel_rfl) | (rw [if_neg (by decide +kernel)]; exact ⟨rfl, rfl⟩))
    (fun os started H enc _ => shaSums_lifted os started H enc)
end Go.Proofs.Ytedebapgmfnflaa
