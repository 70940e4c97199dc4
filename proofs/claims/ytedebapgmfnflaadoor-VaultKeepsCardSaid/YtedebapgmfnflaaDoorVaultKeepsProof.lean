/- The law VaultKeeps holds for every input, as its card says; no condition. -/
import Derived.Test.YtedebapgmfnflaaDoorVaultK4
import Derived.Test.YtedebapgmfnflaaDoorCards
import Derived.Test.YtedebapgmfnflaaDoorTie
import Derived.SevenTiedAt
namespace Go.Proofs.YtedebapgmfnflaaDoor
open Go Go.ChangeShapes Go.WideShapes Go.ChangeAt Go.RowKit
set_option maxRecDepth 100000

theorem vaultKeeps_lifted (os : Os) (started : os.Started) (H : Type) (enc : TypeId × Value → H) :
    ReturnsInHanded {} Tryd.checked os 10 .any (fun w args => (Rows.vaultKeepsSpec.pre enc Tryd.prog Tryd.f10 Rows.vaultKeepsRow.domain false w args ∧ laidMetH Tryd.prog theLaid w) ∧ sizedMet enc Tryd.prog Tryd.f10 (OpenSpec.ofChange Rows.vaultKeepsSpec) false w args)
      (Rows.vaultKeepsSpec.post enc Tryd.prog Tryd.f10 false true false false) := by
  refine law_lifted_laid (laid := theLaid) (dom := Rows.vaultKeepsRow.domain) started (b := 4) (by kernel_rfl) Tryd.func10
    (ChangeSpec.witness_shaped (enc := enc) (C := Tryd.checked) (os := os) (X := fun w _ => laidMetH Tryd.prog theLaid w) false (World.laidAll Tryd.prog os theLaid) #[.slice none 0 0, .slice none 0 0] 8 (door_os os) (door_shape os) (by kernel_rfl) (by kernel_rfl) (by kernel_rfl) (door_met os _)) rfl ?_ (by kernel_rfl) (by kernel_rfl) (by kernel_rfl) rfl ?_
  · intro ds hds
    have hn : ds.length = 2 := hds.trans (by kernel_rfl)
    match ds, hn with
    | [d0, d1], _ => exact ⟨rfl, rfl, rfl⟩
  · intro W base args hl hc
    have hn : args.toList.length = 2 := hl.trans (by kernel_rfl)
    obtain ⟨v0, v1, rfl⟩ := args2 hn
    obtain ⟨a, ⟨h0, c0⟩, k0⟩ := open_bytesC (hc 0 _ v0 (by kernel_rfl) rfl)
    obtain ⟨b, h1, k1⟩ := open_bools (hc 1 _ v1 (by kernel_rfl) rfl)
    exact (keepsLaw_walk h0 c0 k0 h1 k1 (K := fun v W' => v = .bool true ∧ Ext [] W W') fun w' e => ⟨rfl, e⟩).mono law_ret

theorem vaultKeeps_row : Rows.VaultKeepsSaid :=
  OpenClaim.holds_of_wide 10 Tryd.f10 rfl rfl rfl rfl rfl rfl rfl ⟨rfl, rfl, rfl, rfl, rfl⟩ rfl rfl rfl rfl rfl (by kernel_rfl) Tryd.func10 (by kernel_rfl)
    (of_decide_eq_true (by kernel_rfl)) (by unfold Func.isWrapper; first | (rw [if_pos (by decide +kernel)]; kernel_rfl) | (rw [if_neg (by decide +kernel)]; exact ⟨rfl, rfl⟩))
    (fun os started H enc _ => vaultKeeps_lifted os started H enc)

theorem vaultKeeps_holds : Rows.VaultKeepsCardSaid :=
  Claim7.holds_tied_plain_at .later [] [.data, .pinned] true (true, "cece70cbbb7e7deb769315f9ff6d12f8ea4fec9450782fee1a5f38f72081f107") false
    vaultKeeps_row (fun _ h => by cases h) (by kernel_rfl) (fun _ h => by cases h) vaultKeeps_row_tie rfl ⟨rfl, rfl⟩ (by kernel_rfl) rfl
    (fun f fn hf hfn => by
      obtain rfl : f = 10 := (Option.some.inj ((show Tryd.prog.funcNamed "imprimatur/imprimaturlaw06.VaultKeeps" = some 10 by kernel_rfl).symm.trans hf)).symm
      obtain rfl : fn = Tryd.f10 := (Option.some.inj (Tryd.func10.symm.trans hfn)).symm
      exact ⟨by kernel_rfl, fun j t ht => by
        have hall : Tryd.f10.params.toList.all (fun t => Tryd.prog.wantsStandIn t == false) = true := by kernel_rfl
        have ht' : t ∈ Tryd.f10.params.toList := by
          have := Array.mem_of_getElem? ht
          simpa using this
        show Tryd.prog.wantsStandIn t = false
        exact eq_of_beq (List.all_eq_true.1 hall t ht')⟩)
    (by kernel_rfl)
end Go.Proofs.YtedebapgmfnflaaDoor
