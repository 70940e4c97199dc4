/- Operations on numbers, where a region takes them for what hangs on no world; bounds are asked for where a sum might not fit. -/
import Derived.Test.YtedebapgmfnflaaG10
namespace Go.Proofs.Ytedebapgmfnflaa
open Go

section
variable {P : Program} {w : World} {K : VPost} {t : TypeId} {c : Bool}
theorem i64_fit {n : Int} (h : -9223372036854775808 ≤ n ∧ n ≤ 9223372036854775807) : IntKind.i64.wrap n = n := by rw [IntKind.wrap_i64]; omega

theorem binN_e {op : BinOp} {k k' : IntKind} {x y : Int} : binN P op t c (.int k x) (.int k' y) w K = binW P op t c (.int k x) (.int k' y) w K := rfl
theorem unN_i {op : UnOp} {k : IntKind} {x : Int} : unN P op (.int k x) w K = insW P (Op.unary op (.int k x)) w K := rfl
theorem unN_b {op : UnOp} {x : Bool} : unN P op (.bool x) w K = insW P (Op.unary op (.bool x)) w K := rfl
theorem convN_e {s d : TypeId} {k : IntKind} {x : Int} : convN P s d (.int k x) w K = insW P (convert s d (.int k x)) w K := rfl
theorem notN {b : Bool} : unN P .not (.bool b) w K = K (.bool !b) w := rfl
theorem negN {k : IntKind} {x : Int} : unN P .neg (.int k x) w K = K (.int k (k.wrap (-x))) w := by
  show K (.int k (k.wrap (0 - x))) w = _
  rw [Int.zero_sub]
theorem convN_i {s d : TypeId} {td : TypeDesc} {k k' : IntKind} {x : Int} (hu : P.underlying s = some td) (hu' : P.underlying d = some (.int k)) : convN P s d (.int k' x) w K = K (.int k (k.wrap x)) w := by
  show insW P (convert s d (.int k' x)) w K = _
  unfold insW convert
  simp only [Sem.run_bind, run_und hu, run_und hu', Result.andThen_ok]
  rfl

/-! Whole numbers of 64 bits -/
theorem iadd {x y : Int} (h : -9223372036854775808 ≤ x + y ∧ x + y ≤ 9223372036854775807) (hK : K (.int .i64 (x + y)) w) : binN P .add t c (.int .i64 x) (.int .i64 y) w K := by
  rw [binN_e, bin_add, i64_fit h]; exact hK
theorem isub {x y : Int} (h : -9223372036854775808 ≤ x - y ∧ x - y ≤ 9223372036854775807) (hK : K (.int .i64 (x - y)) w) : binN P .sub t c (.int .i64 x) (.int .i64 y) w K := by
  rw [binN_e, bin_sub, i64_fit h]; exact hK
theorem imul {x y : Int} (h : -9223372036854775808 ≤ x * y ∧ x * y ≤ 9223372036854775807) (hK : K (.int .i64 (x * y)) w) : binN P .mul t c (.int .i64 x) (.int .i64 y) w K := by
  rw [binN_e, bin_mul, i64_fit h]; exact hK
theorem ilss {k : IntKind} {x y : Int} : binN P .lss t c (.int k x) (.int k y) w K = K (.bool (decide (x < y))) w := by rw [binN_e, bin_lss]
theorem ileq {k : IntKind} {x y : Int} : binN P .leq t c (.int k x) (.int k y) w K = K (.bool (decide (x ≤ y))) w := by rw [binN_e, bin_leq]
theorem igtr {k : IntKind} {x y : Int} : binN P .gtr t c (.int k x) (.int k y) w K = K (.bool (decide (y < x))) w := by rw [binN_e, bin_gtr]
theorem igeq {k : IntKind} {x y : Int} : binN P .geq t c (.int k x) (.int k y) w K = K (.bool (decide (y ≤ x))) w := by rw [binN_e, bin_geq]
theorem ieql {k : IntKind} {x y : Int} : binN P .eql t c (.int k x) (.int k y) w K = K (.bool (decide (x = y))) w := by
  rw [binN_e, bin_eql]; congr 2
theorem ineq {k : IntKind} {x y : Int} : binN P .neq t c (.int k x) (.int k y) w K = K (.bool (decide (x ≠ y))) w := by
  rw [binN_e, bin_neq]; congr 2
  by_cases h : x = y
  · subst h; simp
  · simp [h]
theorem iquo {k : IntKind} {x y : Int} (h : y ≠ 0) : binN P .quo t c (.int k x) (.int k y) w K = K (.int k (k.wrap (x.tdiv y))) w := by rw [binN_e, bin_quo h]
theorem irem {k : IntKind} {x y : Int} (h : y ≠ 0) : binN P .rem t c (.int k x) (.int k y) w K = K (.int k (x.tmod y)) w := by rw [binN_e, bin_rem h]
theorem ishl {k k' : IntKind} {x y : Int} (h : 0 ≤ y) : binN P .shl t c (.int k x) (.int k' y) w K = K (.int k (k.wrap (x * 2 ^ (min y.toNat k.bits)))) w := by rw [binN_e, bin_shl h]
theorem ishr {k k' : IntKind} {x y : Int} (h : 0 ≤ y) : binN P .shr t c (.int k x) (.int k' y) w K = K (.int k (x.fdiv (2 ^ (min y.toNat k.bits)))) w := by rw [binN_e, bin_shr h]

/-! Of these, such as are not below nought -/
theorem nadd {x y : Nat} (h : x + y < 9223372036854775808) (hK : K (.int .i64 ((x + y : Nat) : Int)) w) : binN P .add t c (.int .i64 x) (.int .i64 y) w K :=
  iadd (by omega) (by rw [← Int.natCast_add]; exact hK)
theorem nmul {x y : Nat} (h : x * y < 9223372036854775808) (hK : K (.int .i64 ((x * y : Nat) : Int)) w) : binN P .mul t c (.int .i64 x) (.int .i64 y) w K :=
  imul (by rw [← Int.natCast_mul]; omega) (by rw [← Int.natCast_mul]; exact hK)
theorem nsub {x y : Nat} (h : y ≤ x) (hx : x < 9223372036854775808) (hK : K (.int .i64 ((x - y : Nat) : Int)) w) : binN P .sub t c (.int .i64 x) (.int .i64 y) w K :=
  isub (by omega) (by rw [← Int.natCast_sub h]; exact hK)
theorem nlss {k : IntKind} {x y : Nat} (hK : K (.bool (decide (x < y))) w) : binN P .lss t c (.int k x) (.int k y) w K := by
  rw [ilss]; simpa only [Int.ofNat_lt] using hK
theorem nleq {k : IntKind} {x y : Nat} (hK : K (.bool (decide (x ≤ y))) w) : binN P .leq t c (.int k x) (.int k y) w K := by
  rw [ileq]; simpa only [Int.ofNat_le] using hK
theorem ngtr {k : IntKind} {x y : Nat} (hK : K (.bool (decide (y < x))) w) : binN P .gtr t c (.int k x) (.int k y) w K := by
  rw [igtr]; simpa only [Int.ofNat_lt] using hK
theorem ngeq {k : IntKind} {x y : Nat} (hK : K (.bool (decide (y ≤ x))) w) : binN P .geq t c (.int k x) (.int k y) w K := by
  rw [igeq]; simpa only [Int.ofNat_le] using hK
theorem neql {k : IntKind} {x y : Nat} (hK : K (.bool (decide (x = y))) w) : binN P .eql t c (.int k x) (.int k y) w K := by
  rw [ieql]; simpa only [Int.natCast_inj] using hK
theorem nneq {k : IntKind} {x y : Nat} (hK : K (.bool (decide (x ≠ y))) w) : binN P .neq t c (.int k x) (.int k y) w K := by
  rw [ineq]; simpa only [ne_eq, Int.natCast_inj] using hK
theorem nquo {x y : Nat} (hy : y ≠ 0) (hx : x < 9223372036854775808) (hK : K (.int .i64 ((x / y : Nat) : Int)) w) : binN P .quo t c (.int .i64 x) (.int .i64 y) w K := by
  rw [iquo (by omega)]
  have h1 : (x : Int).tdiv (y : Int) = ((x / y : Nat) : Int) := rfl
  have h2 : x / y ≤ x := Nat.div_le_self _ _
  rw [h1]
  generalize x / y = q at *
  rw [i64_fit (by omega)]; exact hK
theorem nrem {x y : Nat} (hy : y ≠ 0) (hK : K (.int .i64 ((x % y : Nat) : Int)) w) : binN P .rem t c (.int .i64 x) (.int .i64 y) w K := by
  rw [irem (by omega)]
  exact hK
theorem nshr {k k' : IntKind} {x s : Nat} (hs : s ≤ k.bits) (hK : K (.int k ((x >>> s : Nat) : Int)) w) : binN P .shr t c (.int k x) (.int k' s) w K := by
  rw [ishr (by omega)]
  have h1 : min ((s : Int).toNat) k.bits = s := by omega
  have h2 : (2 : Int) ^ s = ((2 ^ s : Nat) : Int) := by rw [Int.natCast_pow]; rfl
  rw [h1, h2, ← Int.ofNat_fdiv]
  rw [Nat.shiftRight_eq_div_pow] at hK
  exact hK
end
end Go.Proofs.Ytedebapgmfnflaa
