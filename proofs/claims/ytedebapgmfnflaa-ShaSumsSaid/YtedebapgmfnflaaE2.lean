/- Arguments of the disk's laws, opened. -/
import Derived.Test.YtedebapgmfnflaaE1
namespace Go.Proofs.Ytedebapgmfnflaa
open Go Go.ChangeShapes Go.WideShapes
set_option maxRecDepth 100000

theorem open_sl {W : World} {base : Nat} {t e : TypeId} {v : Value} (hu : Try.prog.underlying t = some (.slice e)) (h : Value.okWide Try.prog W .any base t v) : v.cells.toList = [v] := by
  obtain ⟨a, n, c, rfl⟩ := okWide_slice hu h
  rfl

theorem open_bytes {W : World} {base : Nat} {v : Value} (h : Value.okWide Try.prog W .any base 34 v ∧ Came W 34 v) : ∃ l : Bytes, RdSl W v 1 (bc l) l.length ∧ l.length ≤ 140737488351232 := by
  obtain ⟨h1, H, enc, fuel, x, h2, h3⟩ := h
  rw [open_sl und_u8s h1] at h2
  exact trod_bytes und_u8s (by kernel_rfl) (by kernel_rfl) (by kernel_rfl) h2 h3

theorem open_calls {W : World} {base : Nat} {v : Value} (h : Value.okWide Try.prog W .any base 22 v ∧ Came W 22 v) : ∃ l, IsCalls W v l := by
  obtain ⟨h1, H, enc, fuel, x, h2, h3⟩ := h
  rw [open_sl (by kernel_rfl : Try.prog.underlying 22 = some (.slice 36)) h1] at h2
  exact trod_calls h2 h3

theorem open_block {W : World} {base : Nat} {v : Value} (h : Value.okWide Try.prog W .any base 33 v ∧ Came W 33 v) : ∃ l : Bytes, v = .agg (bc l).toArray ∧ l.length = 64 := by
  obtain ⟨h1, H, enc, fuel, x, h2, h3⟩ := h
  have hu : Try.prog.underlying 33 = some (.array 64 5) := by kernel_rfl
  unfold Value.okWide at h1
  rw [hu] at h1
  obtain ⟨cs, rfl, _, _⟩ := h1
  obtain ⟨l, h4, h5⟩ := trod_arr hu (by kernel_rfl) (by kernel_rfl) (by kernel_rfl) h2
  refine ⟨l, ?_, h5⟩
  have : cs.toList = bc l := h4
  rw [← this]

theorem open_i64 {W : World} {base : Nat} {v : Value} (h : Value.okWide Try.prog W .any base 3 v ∧ Came W 3 v) : ∃ n, v = .int .i64 n ∧ i64ok n := by
  obtain ⟨h1, H, enc, fuel, x, h2, h3⟩ := h
  obtain ⟨n, rfl, _, _, hw⟩ := open_int (by kernel_rfl : Try.prog.underlying 3 = some (.int .i64)) h1 ⟨fuel, h2⟩
  exact ⟨n, rfl, wf_i64 hw⟩

theorem law_ret {W : World} (e : Ending) (W' : World) (h : retK (fun v W' => v = .bool true ∧ Ext [] W W') e W') : e = .returned (.bool true) ∧ Ext [] W W' := by
  cases e <;> first | exact h.elim | (obtain ⟨rfl, h⟩ := h; exact ⟨rfl, h⟩)

theorem args3 {args : Array Value} (h : args.toList.length = 3) : ∃ a b c, args = #[a, b, c] := by
  obtain ⟨l⟩ := args
  match l, h with
  | [a, b, c], _ => exact ⟨a, b, c, rfl⟩
theorem args2 {args : Array Value} (h : args.toList.length = 2) : ∃ a b, args = #[a, b] := by
  obtain ⟨l⟩ := args
  match l, h with
  | [a, b], _ => exact ⟨a, b, rfl⟩
theorem args1 {args : Array Value} (h : args.toList.length = 1) : ∃ a, args = #[a] := by
  obtain ⟨l⟩ := args
  match l, h with
  | [a], _ => exact ⟨a, rfl⟩
theorem args4 {args : Array Value} (h : args.toList.length = 4) : ∃ a b c d, args = #[a, b, c, d] := by
  obtain ⟨l⟩ := args
  match l, h with
  | [a, b, c, d], _ => exact ⟨a, b, c, d, rfl⟩

end Go.Proofs.Ytedebapgmfnflaa
