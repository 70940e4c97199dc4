/- The clean forms of some of the program's functions, written by a program of ours; each is the model's own by the kernel's reckoning. -/
import Derived.Test.YtedebapgmfnflaaGB
import Derived.KernelRfl
namespace Go.Proofs.Ytedebapgmfnflaa
open Go
set_option maxRecDepth 100000

/-- imprimatur/imprimaturref00.CopyBytes -/
def c27 (x0 : Value) (w : World) (K : VPost) : Prop :=
  insW Try.prog (Instr.buildSlice 34 0 #[]) w fun t4_0 w1 =>
  insW Try.prog (Builtin.append_ #[34, 34] 34 #[t4_0, x0]) w1 fun t7_2 w3 =>
  K t7_2 w3
theorem c27_eq (x0 : Value) (w : World) (K : VPost) : c27 x0 w K = WP false Try.prog 9 [] (bodyOf Try.f27) (argF [x0]) w [.tmp 2] K := by kernel_rfl
theorem c27_calls (x0 : Value) (w : World) (K : VPost) (h : c27 x0 w K) : Calls Try.prog 27 #[x0] w (retK K) :=
  calls_of_WP (c27_eq x0 w K) mixedG Try.func27 (by kernel_rfl) Try.ntmps27 (by kernel_rfl) (by kernel_rfl) h

/-- imprimatur/imprimaturref00.SameBytes -/
def c30 (x0 x1 : Value) (w : World) (K : VPost) : Prop :=
  lenW Try.prog (some true) #[34] 3 #[x0] w fun t7_0 w1 =>
  lenW Try.prog (some true) #[34] 3 #[x1] w1 fun t9_2 w3 =>
  binW Try.prog .neq 3 false t7_0 t9_2 w3 fun t10_4 w5 =>
  condW t10_4 (
  K (.bool false) w5) (
  bindX (endW Try.prog [.tmp 4] K) fun K6 =>
  bindX (seqX (fun _ w9 =>
  K (.bool true) w9) K6) fun K7 =>
  bindX (blkX 0 K7) fun K10 =>
  loopW (fun f11 w12 K13 =>
  lenW Try.prog (some true) #[34] 3 #[(f11 0)] w12 fun t13_14 w15 =>
  binW Try.prog .lss 3 false (f11 5) t13_14 w15 fun t14_16 w17 =>
  condW t14_16 (
  idxW (some (none, 1)) (f11 0) (f11 5) w17.drew fun t19_18 w19 =>
  loadW (some (false, 1)) t19_18 w19 fun t20_20 w21 =>
  idxW (some (none, 1)) (f11 1) (f11 5) w21 fun t23_22 w23 =>
  loadW (some (false, 1)) t23_22 w23 fun t24_24 w25 =>
  binW Try.prog .neq 5 false t20_20 t24_24 w25 fun t25_26 w27 =>
  w27 = w25 ∧
  condW t25_26 (
  K13 .ret (pf 26 (pf 26 (pf 26 (pf 26 (pf 26 (pf 26 (pf 26 (pf 26 (pf 26 (pf 26 (pf 26 (pf 26 (pf 26 (pf 26 f11 11 (f11 5)) 12 (f11 0)) 13 t13_14) 14 t14_16) 17 (f11 0)) 18 (f11 5)) 19 t19_18) 20 t20_20) 21 (f11 1)) 22 (f11 5)) 23 t23_22) 24 t24_24) 25 t25_26) 4 (.bool false)) w27) (
  binW Try.prog .add 3 true (f11 5) (.int .i64 1) w27 fun t16_28 w29 =>
  K13 .normal (pf 26 (pf 26 (pf 26 (pf 26 (pf 26 (pf 26 (pf 26 (pf 26 (pf 26 (pf 26 (pf 26 (pf 26 (pf 26 (pf 26 (pf 26 (pf 26 f11 11 (f11 5)) 12 (f11 0)) 13 t13_14) 14 t14_16) 17 (f11 0)) 18 (f11 5)) 19 t19_18) 20 t20_20) 21 (f11 1)) 22 (f11 5)) 23 t23_22) 24 t24_24) 25 t25_26) 15 (f11 5)) 16 t16_28) 5 t16_28) w29)) (
  K13 (.exit 0) (pf 26 (pf 26 (pf 26 (pf 26 f11 11 (f11 5)) 12 (f11 0)) 13 t13_14) 14 t14_16) w17)) (pf 26 (pf 26 (pf 26 (pf 26 (pf 26 (pf 26 (pf 26 (argF [x0, x1]) 4 (.bool false)) 6 x0) 7 t7_0) 8 x1) 9 t9_2) 10 t10_4) 5 (.int .i64 0)) w5 K10)
theorem c30_eq (x0 x1 : Value) (w : World) (K : VPost) : c30 x0 x1 w K = WP false Try.prog 26 [(6, 0, [0, 0, 3, 4, 0, 0, 48, 64, 136], [0, 0, 3, 7, 0, 0, 48, 112, 255])] (bodyOf Try.f30) (argF [x0, x1]) w [.tmp 4] K := by kernel_rfl
theorem c30_calls (x0 x1 : Value) (w : World) (K : VPost) (h : c30 x0 x1 w K) : Calls Try.prog 30 #[x0, x1] w (retK K) :=
  calls_of_WP (c30_eq x0 x1 w K) mixedG Try.func30 (by kernel_rfl) Try.ntmps30 (by kernel_rfl) (by kernel_rfl) h

end Go.Proofs.Ytedebapgmfnflaa
