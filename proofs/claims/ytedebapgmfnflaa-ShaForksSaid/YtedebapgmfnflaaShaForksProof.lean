/- The law ShaForks holds for every input; no condition. -/
import Derived.Test.YtedebapgmfnflaaT2
import Derived.Test.YtedebapgmfnflaaE2
namespace Go.Proofs.Ytedebapgmfnflaa
open Go Go.ChangeShapes Go.WideShapes Go.ChangeAt Go.RowKit
set_option maxRecDepth 100000

theorem shaForks_lifted (os : Os) (started : os.Started) (H : Type) (enc : TypeId × Value → H) :
    ReturnsInHanded {} Try.checked os 9 .any (Rows.shaForksSpec.pre6 enc Try.prog Try.f9 Rows.shaForksRow.domain false) (Rows.shaForksSpec.post enc Try.prog Try.f9 false true false false) := by
  refine law_lifted started (b := 4) (by kernel_rfl) Try.func9
    (ChangeSpec.witness6 (enc := enc) (C := Try.checked) false ⟨#[], #[.slice none 0 0, .slice none 0 0, .slice none 0 0], []⟩ 8 (by kernel_rfl) (by kernel_rfl) (by kernel_rfl) (by kernel_rfl)) rfl ?_ (by kernel_rfl) (by kernel_rfl) (by kernel_rfl) rfl ?_
  · intro ds hds
    have hn : ds.length = 3 := hds.trans (by kernel_rfl)
    match ds, hn with
    | [a, b, c], _ => exact ⟨rfl, rfl, rfl⟩
  · intro W base args hl hc
    have hn : args.toList.length = 3 := hl.trans (by kernel_rfl)
    obtain ⟨v0, v1, v2, rfl⟩ := args3 hn
    obtain ⟨a, ⟨h0, c0⟩, k0⟩ := open_bytesC (hc 0 _ v0 (by kernel_rfl) rfl)
    obtain ⟨b, ⟨h1, c1⟩, k1⟩ := open_bytesC (hc 1 _ v1 (by kernel_rfl) rfl)
    obtain ⟨c, ⟨h2, c2⟩, k2⟩ := open_bytesC (hc 2 _ v2 (by kernel_rfl) rfl)
    exact (forks_walk h0 h1 h2 c0 c1 c2 (K := fun v W' => v = .bool true ∧ Ext [] W W') fun w' e => ⟨rfl, e⟩).mono law_ret

theorem shaForks_holds : Rows.ShaForksSaid :=
  OpenClaim.holds_of_wide 9 Try.f9 rfl rfl rfl rfl rfl rfl rfl ⟨rfl, rfl, rfl, rfl, rfl⟩ rfl rfl rfl rfl rfl (by kernel_rfl) Try.func9 (by kernel_rfl)
    (of_decide_eq_true (by kernel_rfl)) (by unfold Func.isWrapper; first | (rw [if_pos (by decide +kernel)]; kernel_rfl) | (rw [if_neg (by decide +kernel)]; exact ⟨rfl, rfl⟩))
    (fun os started H enc _ => shaForks_lifted os started H enc)
end Go.Proofs.Ytedebapgmfnflaa
