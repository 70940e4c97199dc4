/- term.forms: its clean form, with names in place of its numbers. -/
import Derived.Test.YtbaddpnlokmldaaDoorGB
import Derived.KernelRfl
namespace Go.Proofs.YtbaddpnlokmldaaDoor
open Go
set_option maxRecDepth 100000


def formsB (z o t h f m : Value) : Code :=
  (Code.region 0 #[{ dst := some 0, op := Op.alloc 78, type := 0, pos := "term.go:52", after := #[], guard := none }] false).seq
    ((Code.region 1 #[{ dst := some 1, op := Op.build 77 #[(0, Operand.const z), (1, Operand.const z), (2, Operand.const m)], type := 77, pos := "term.go:53", after := #[], guard := none },
      { dst := some 2, op := Op.build 77 #[(0, Operand.const z), (1, Operand.const z), (2, Operand.const m)], type := 77, pos := "term.go:53", after := #[], guard := none },
      { dst := some 3, op := Op.build 77 #[(0, Operand.const z), (1, Operand.const o), (2, Operand.const m)], type := 77, pos := "term.go:53", after := #[], guard := none },
      { dst := some 4, op := Op.build 77 #[(0, Operand.const z), (1, Operand.const f), (2, Operand.const m)], type := 77, pos := "term.go:53", after := #[], guard := none },
      { dst := some 5, op := Op.build 77 #[(0, Operand.const t), (1, Operand.const z), (2, Operand.const m)], type := 77, pos := "term.go:53", after := #[], guard := none },
      { dst := some 6, op := Op.build 77 #[(0, Operand.const t), (1, Operand.const z), (2, Operand.const o)], type := 77, pos := "term.go:53", after := #[], guard := none },
      { dst := some 7, op := Op.build 77 #[(0, Operand.const t), (1, Operand.const z), (2, Operand.const o)], type := 77, pos := "term.go:53", after := #[], guard := none },
      { dst := some 8, op := Op.build 77 #[(0, Operand.const h), (1, Operand.const z), (2, Operand.const t)], type := 77, pos := "term.go:53", after := #[], guard := none },
      { dst := some 9, op := Op.build 77 #[(0, Operand.const o), (1, Operand.const z), (2, Operand.const m)], type := 77, pos := "term.go:53", after := #[], guard := none },
      { dst := some 10, op := Op.build 78 #[(1, Operand.tmp 1), (2, Operand.tmp 2), (3, Operand.tmp 3), (4, Operand.tmp 4), (5, Operand.tmp 5), (6, Operand.tmp 6), (7, Operand.tmp 7), (8, Operand.tmp 8), (9, Operand.tmp 9)], type := 78, pos := "term.go:53", after := #[{ on := 0, ground := Ground.data }, { on := 1, ground := Ground.data }, { on := 2, ground := Ground.data }, { on := 3, ground := Ground.data }, { on := 4, ground := Ground.data }, { on := 5, ground := Ground.data }, { on := 6, ground := Ground.data }, { on := 7, ground := Ground.data }, { on := 8, ground := Ground.data }], guard := none },
      { dst := none, op := Op.store 78 (Operand.tmp 0) (Operand.tmp 10), type := 0, pos := "term.go:53", after := #[{ on := 9, ground := Ground.data }, { on := 0, ground := Ground.phase }, { on := 1, ground := Ground.phase }, { on := 2, ground := Ground.phase }, { on := 3, ground := Ground.phase }, { on := 4, ground := Ground.phase }, { on := 5, ground := Ground.phase }, { on := 6, ground := Ground.phase }, { on := 7, ground := Ground.phase }, { on := 8, ground := Ground.phase }, { on := 9, ground := Ground.phase }], guard := none }] false).seq Code.ret)

def cForms (z o t h f m : Value) (w : World) (K : VPost) : Prop :=
  allocW (zeroO Tryd.prog 78) 78 w fun t0 w1 =>
  insW Tryd.prog (Instr.build 77 #[(0, z), (1, z), (2, m)]) w1 fun t1 w2 =>
  insW Tryd.prog (Instr.build 77 #[(0, z), (1, z), (2, m)]) w2 fun t2 w3 =>
  insW Tryd.prog (Instr.build 77 #[(0, z), (1, o), (2, m)]) w3 fun t3 w4 =>
  insW Tryd.prog (Instr.build 77 #[(0, z), (1, f), (2, m)]) w4 fun t4 w5 =>
  insW Tryd.prog (Instr.build 77 #[(0, t), (1, z), (2, m)]) w5 fun t5 w6 =>
  insW Tryd.prog (Instr.build 77 #[(0, t), (1, z), (2, o)]) w6 fun t6 w7 =>
  insW Tryd.prog (Instr.build 77 #[(0, t), (1, z), (2, o)]) w7 fun t7 w8 =>
  insW Tryd.prog (Instr.build 77 #[(0, h), (1, z), (2, t)]) w8 fun t8 w9 =>
  insW Tryd.prog (Instr.build 77 #[(0, o), (1, z), (2, m)]) w9 fun t9 w10 =>
  insW Tryd.prog (Instr.build 78 #[(1, t1), (2, t2), (3, t3), (4, t4), (5, t5), (6, t6), (7, t7), (8, t8), (9, t9)]) w10 fun t10 w11 =>
  storeW (some (true, 30)) t0 t10 w11 fun w12 =>
  loadW (some (true, 30)) t0 w12 fun r _ =>
  K r w12

theorem cForms_eq (z o t h f m : Value) (w : World) (K : VPost) : cForms z o t h f m w K = WP true Tryd.prog 11 [] (formsB z o t h f m) (argF []) w [.cell 0 78] K := by kernel_rfl

theorem forms_body : bodyOf Tryd.f56 = formsB (.int .i64 0) (.int .i64 1) (.int .i64 2) (.int .i64 3) (.int .i64 4) (.int .i64 (-1)) := by kernel_rfl

theorem cForms_calls (w : World) (K : VPost) (h : cForms (.int .i64 0) (.int .i64 1) (.int .i64 2) (.int .i64 3) (.int .i64 4) (.int .i64 (-1)) w K) : Calls Tryd.prog 56 #[] w (retK K) :=
  calls_of_WP (by rw [forms_body]; exact cForms_eq _ _ _ _ _ _ w K) mixedG Tryd.func56 (by kernel_rfl) Tryd.ntmps56 (by kernel_rfl) (by kernel_rfl) h

end Go.Proofs.YtbaddpnlokmldaaDoor
