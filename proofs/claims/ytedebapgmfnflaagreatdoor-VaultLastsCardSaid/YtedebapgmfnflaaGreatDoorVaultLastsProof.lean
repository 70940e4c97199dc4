/- The law VaultLasts holds for every input, as its card says; no condition. -/
import Derived.Test.YtedebapgmfnflaaGreatDoorVaultL4
import Derived.Test.YtedebapgmfnflaaGreatDoorCards
import Derived.Test.YtedebapgmfnflaaGreatDoorTie
import Derived.SevenTiedAt
namespace Go.Proofs.YtedebapgmfnflaaGreatDoor
open Go Go.ChangeShapes Go.WideShapes Go.ChangeAt Go.RowKit
set_option maxRecDepth 100000

theorem vaultLasts_lifted (os : Os) (started : os.Started) (H : Type) (enc : TypeId × Value → H) :
    ReturnsInHanded {} Tryz.checked os 4 .any (fun w args => (Rows.vaultLastsSpec.pre enc Tryz.prog Tryz.f4 Rows.vaultLastsRow.domain false w args ∧ laidMetH Tryz.prog theLaid w) ∧ sizedMet enc Tryz.prog Tryz.f4 (OpenSpec.ofChange Rows.vaultLastsSpec) false w args)
      (Rows.vaultLastsSpec.post enc Tryz.prog Tryz.f4 false true false false) := by
  refine law_lifted_laid (laid := theLaid) (dom := Rows.vaultLastsRow.domain) started (b := 4) (by kernel_rfl) Tryz.func4
    (ChangeSpec.witness_shaped (enc := enc) (C := Tryz.checked) (os := os) (X := fun w _ => laidMetH Tryz.prog theLaid w) false (World.laidAll Tryz.prog os theLaid) #[.int .i64 0, .slice none 0 0] 8 (door_os os) (door_shape os) (by kernel_rfl) (by kernel_rfl) (by kernel_rfl) (door_met os _)) rfl ?_ (by kernel_rfl) (by kernel_rfl) (by kernel_rfl) rfl ?_
  · intro ds hds
    have hn : ds.length = 2 := hds.trans (by kernel_rfl)
    match ds, hn with
    | [d0, d1], _ => exact ⟨rfl, rfl, rfl⟩
  · intro W base args hl hc
    have hn : args.toList.length = 2 := hl.trans (by kernel_rfl)
    obtain ⟨v0, v1, rfl⟩ := args2 hn
    obtain ⟨a, rfl, h0⟩ := open_i64 (hc 0 _ v0 (by kernel_rfl) rfl)
    obtain ⟨b, h1⟩ := open_callsV (hc 1 _ v1 (by kernel_rfl) rfl)
    exact (lastsV_walk h1 (K := fun v W' => v = .bool true ∧ Ext [] W W') fun w' e => ⟨rfl, e⟩).mono law_ret

theorem vaultLasts_row : Rows.VaultLastsSaid :=
  OpenClaim.holds_of_wide 4 Tryz.f4 rfl rfl rfl rfl rfl rfl rfl ⟨rfl, rfl, rfl, rfl, rfl⟩ rfl rfl rfl rfl rfl (by kernel_rfl) Tryz.func4 (by kernel_rfl)
    (of_decide_eq_true (by kernel_rfl)) (by unfold Func.isWrapper; first | (rw [if_pos (by decide +kernel)]; kernel_rfl) | (rw [if_neg (by decide +kernel)]; exact ⟨rfl, rfl⟩))
    (fun os started H enc _ => vaultLasts_lifted os started H enc)

theorem vaultLasts_holds : Rows.VaultLastsCardSaid :=
  Claim7.holds_tied_plain_at .later [] [.data, .pinned] true (true, "e46756971cce72f3884962b3d18063bd7df745a1f9bdb790aa5f0a2bfb617deb") false
    vaultLasts_row (fun _ h => by cases h) (by kernel_rfl) (fun _ h => by cases h) vaultLasts_row_tie rfl ⟨rfl, rfl⟩ (by kernel_rfl) rfl
    (fun f fn hf hfn => by
      obtain rfl : f = 4 := (Option.some.inj ((show Tryz.prog.funcNamed "imprimatur/imprimaturlaw06.VaultLasts" = some 4 by kernel_rfl).symm.trans hf)).symm
      obtain rfl : fn = Tryz.f4 := (Option.some.inj (Tryz.func4.symm.trans hfn)).symm
      exact ⟨by kernel_rfl, fun j t ht => by
        have hall : Tryz.f4.params.toList.all (fun t => Tryz.prog.wantsStandIn t == false) = true := by kernel_rfl
        have ht' : t ∈ Tryz.f4.params.toList := by
          have := Array.mem_of_getElem? ht
          simpa using this
        show Tryz.prog.wantsStandIn t = false
        exact eq_of_beq (List.all_eq_true.1 hall t ht')⟩)
    (by kernel_rfl)
end Go.Proofs.YtedebapgmfnflaaGreatDoor
