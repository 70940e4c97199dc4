/- The document's 64 constants are the program's: by the kernel's reckoning. -/
import Derived.Test.YtedebapgmfnflaaDoorBB
namespace Go.Proofs.YtedebapgmfnflaaDoor
set_option maxRecDepth 100000

def cube32 (p : UInt64) : UInt32 := (cubeF p 35 0).toUInt32
theorem cubes0 : ((primes64.drop 0).take 4).map cube32 = (shaK.drop 0).take 4 := by decide +kernel
theorem cubes1 : ((primes64.drop 4).take 4).map cube32 = (shaK.drop 4).take 4 := by decide +kernel
theorem cubes2 : ((primes64.drop 8).take 4).map cube32 = (shaK.drop 8).take 4 := by decide +kernel
theorem cubes3 : ((primes64.drop 12).take 4).map cube32 = (shaK.drop 12).take 4 := by decide +kernel
theorem cubes4 : ((primes64.drop 16).take 4).map cube32 = (shaK.drop 16).take 4 := by decide +kernel
theorem cubes5 : ((primes64.drop 20).take 4).map cube32 = (shaK.drop 20).take 4 := by decide +kernel
theorem cubes6 : ((primes64.drop 24).take 4).map cube32 = (shaK.drop 24).take 4 := by decide +kernel
theorem cubes7 : ((primes64.drop 28).take 4).map cube32 = (shaK.drop 28).take 4 := by decide +kernel
theorem cubes8 : ((primes64.drop 32).take 4).map cube32 = (shaK.drop 32).take 4 := by decide +kernel
theorem cubes9 : ((primes64.drop 36).take 4).map cube32 = (shaK.drop 36).take 4 := by decide +kernel
theorem cubes10 : ((primes64.drop 40).take 4).map cube32 = (shaK.drop 40).take 4 := by decide +kernel
theorem cubes11 : ((primes64.drop 44).take 4).map cube32 = (shaK.drop 44).take 4 := by decide +kernel
theorem cubes12 : ((primes64.drop 48).take 4).map cube32 = (shaK.drop 48).take 4 := by decide +kernel
theorem cubes13 : ((primes64.drop 52).take 4).map cube32 = (shaK.drop 52).take 4 := by decide +kernel
theorem cubes14 : ((primes64.drop 56).take 4).map cube32 = (shaK.drop 56).take 4 := by decide +kernel
theorem cubes15 : ((primes64.drop 60).take 4).map cube32 = (shaK.drop 60).take 4 := by decide +kernel
theorem cubes : primes64.map cube32 = shaK := by
  have h : ∀ (l : List UInt64) (m : List UInt32) (a b : Nat), (l.take a).map cube32 = m.take a → ((l.drop a).take b).map cube32 = (m.drop a).take b → (l.take (a + b)).map cube32 = m.take (a + b) := by
    intro l m a b h1 h2
    rw [List.take_add, List.take_add, List.map_append, h1, h2]
  have h0 : (primes64.take 0).map cube32 = shaK.take 0 := rfl
  have h1 := h _ _ 0 4 h0 cubes0
  have h2 := h _ _ 4 4 h1 cubes1
  have h3 := h _ _ 8 4 h2 cubes2
  have h4 := h _ _ 12 4 h3 cubes3
  have h5 := h _ _ 16 4 h4 cubes4
  have h6 := h _ _ 20 4 h5 cubes5
  have h7 := h _ _ 24 4 h6 cubes6
  have h8 := h _ _ 28 4 h7 cubes7
  have h9 := h _ _ 32 4 h8 cubes8
  have h10 := h _ _ 36 4 h9 cubes9
  have h11 := h _ _ 40 4 h10 cubes10
  have h12 := h _ _ 44 4 h11 cubes11
  have h13 := h _ _ 48 4 h12 cubes12
  have h14 := h _ _ 52 4 h13 cubes13
  have h15 := h _ _ 56 4 h14 cubes14
  have h16 := h _ _ 60 4 h15 cubes15
  exact h16
end Go.Proofs.YtedebapgmfnflaaDoor
