/- Texts that the law AreaLasts stands on, part 5 of 5. Conditions: see each. -/
import Derived.Test.YtedebapgmfnflaaDoorAreaL3
import Derived.ProofKit
import Derived.Carry
import Derived.SizedLaws
import Derived.ChangeMaps5
import Derived.LaidMore
import Derived.Lay
import Derived.Stop.Joined

/- The frame of a law: from a walk that ends in 'true' and changes nothing old to the row's step; and what came in, read as cells. -/
namespace Go.Proofs.YtedebapgmfnflaaDoor
open Go Go.ChangeShapes Go.WideShapes Go.ChangeAt Go.RowKit
set_option maxRecDepth 100000

theorem law_own : ownKnob Tryd.prog.godebug = none := by kernel_rfl
theorem law_laid : laidOutB Tryd.prog = true := by kernel_rfl

section
variable {H : Type} {enc : TypeId × Value → H}

theorem trodAll_keeps {P : Program} (hl : laidOutB P = true) {W W' : World} (hb : Below W.heap.size W W') : ∀ {ts : List TypeId} {vs : List Value} {ds : List (DataW H)} {ps : List MemPlace}, ts.all (fun t => P.readableRec t && decide (t < P.types.size)) = true →
    DataW.TrodAll enc P W 0 (fun _ => true) true ts vs ds ps → (∀ x ∈ ps, x.block < W.heap.size) → DataW.TrodAll enc P W' 0 (fun b => decide (b < W.heap.size)) true ts vs ds ps := by
  intro ts
  induction ts with
  | nil =>
    intro vs ds ps _ h _
    cases vs <;> cases ds <;> first | exact h | exact h.elim
  | cons t ts ih =>
    intro vs ds ps hts h hlt
    cases vs with
    | nil => exact h.elim
    | cons v vs =>
      cases ds with
      | nil => exact h.elim
      | cons d ds =>
        obtain ⟨p, q, h1, h2, rfl⟩ := h
        simp only [List.all_cons, Bool.and_eq_true, decide_eq_true_eq] at hts
        exact ⟨p, q, Below.trod hl hts.1.1 hts.1.2 h1 hb (fun x hx => hlt x (List.mem_append_left _ hx)), ih hts.2 h2 (fun x hx => hlt x (List.mem_append_right _ hx)), rfl⟩

/-- All that a datum takes lies within the reach. -/
def fitsD (P : Program) (t : TypeId) (d : DataW H) : Prop := ∀ n ∈ d.weights P t, n ≤ reachBytes

theorem weightsAll_mem {P : Program} {e : TypeId} : ∀ {l : List (DataW H)} {d : DataW H} {n : Nat}, d ∈ l → n ∈ d.weights P e → n ∈ DataW.weightsAll P e l := by
  intro l
  induction l with
  | nil => intro d n h; cases h
  | cons a r ih =>
    intro d n h hn
    simp only [DataW.weightsAll, List.mem_append]
    rcases List.mem_cons.1 h with rfl | h
    · exact .inl hn
    · exact .inr (ih h hn)
theorem weightsEach_mem {P : Program} : ∀ {ts : List TypeId} {l : List (DataW H)} {i : Nat} {t : TypeId} {d : DataW H} {n : Nat}, ts[i]? = some t → l[i]? = some d → n ∈ d.weights P t → n ∈ DataW.weightsEach P ts l := by
  intro ts
  induction ts with
  | nil => intro l i t d n h; simp at h
  | cons t0 ts ih =>
    intro l i t d n h1 h2 hn
    cases l with
    | nil => simp at h2
    | cons a r =>
      simp only [DataW.weightsEach, List.mem_append]
      cases i with
      | zero => simp at h1 h2; subst h1; subst h2; exact .inl hn
      | succ i => exact .inr (ih (by simpa using h1) (by simpa using h2) hn)
theorem fits_slice {P : Program} {t e : TypeId} {el spr : List (DataW H)} (hu : P.underlying t = some (.slice e)) (h : fitsD P t (.slice el spr)) : (el.length + spr.length) * P.bytesOf e ≤ reachBytes ∧ ∀ d ∈ el, fitsD P e d := by
  unfold fitsD at h
  simp only [DataW.weights, hu] at h
  exact ⟨h _ List.mem_cons_self, fun d hd n hn => h n (List.mem_cons_of_mem _ (List.mem_append_left _ (weightsAll_mem hd hn)))⟩
theorem fits_struct {P : Program} {t : TypeId} {fs : Array Field} {parts : List (DataW H)} (hu : P.underlying t = some (.struct fs)) (h : fitsD P t (.agg parts)) {i : Nat} {te : TypeId} {d : DataW H} (h1 : (fs.toList.map (·.type))[i]? = some te) (h2 : parts[i]? = some d) : fitsD P te d := by
  unfold fitsD at h
  simp only [DataW.weights, hu] at h
  exact fun n hn => h n (weightsEach_mem h1 h2 hn)
theorem fits_array {P : Program} {t e : TypeId} {n : Nat} {parts : List (DataW H)} (hu : P.underlying t = some (.array n e)) (h : fitsD P t (.agg parts)) {d : DataW H} (hd : d ∈ parts) : fitsD P e d := by
  unfold fitsD at h
  simp only [DataW.weights, hu] at h
  exact fun n hn => h n (weightsAll_mem hd hn)

/-- A value that came in. -/
def Came (W : World) (t : TypeId) (v : Value) : Prop := ∃ (H : Type) (enc : TypeId × Value → H) (fuel : Nat) (x : DataW H × List MemPlace), DataW.trod enc Tryd.prog W 0 (fun _ => true) true fuel t v.cells.toList = some x ∧ fitsD Tryd.prog t x.1

theorem came_all {W : World} : ∀ {ts : List TypeId} {vs : List Value} {ds : List (DataW H)} {ps : List MemPlace}, DataW.TrodAll enc Tryd.prog W 0 (fun _ => true) true ts vs ds ps → (∀ n ∈ DataW.weightsEach Tryd.prog ts ds, n ≤ reachBytes) →
    vs.length = ts.length ∧ ∀ (j : Nat) t v, ts[j]? = some t → vs[j]? = some v → Came W t v := by
  intro ts
  induction ts with
  | nil => intro vs ds ps h _; cases vs <;> cases ds <;> first | exact ⟨rfl, by simp⟩ | exact h.elim
  | cons t ts ih =>
    intro vs ds ps h hw
    cases vs with
    | nil => exact h.elim
    | cons v vs => cases ds with
      | nil => exact h.elim
      | cons d ds =>
        obtain ⟨p, q, ⟨fuel, h1⟩, h2, _⟩ := h
        simp only [DataW.weightsEach, List.mem_append] at hw
        obtain ⟨i1, i2⟩ := ih h2 (fun n hn => hw n (.inr hn))
        refine ⟨by simp [i1], fun j t' v' ht hv => ?_⟩
        cases j with
        | zero =>
          simp at ht hv
          subst ht; subst hv
          exact ⟨H, enc, fuel, (d, p), h1, fun n hn => hw n (.inl hn)⟩
        | succ j => exact i2 j t' v' (by simpa using ht) (by simpa using hv)

theorem law_lifted {os : Os} (started : os.Started) {fid : FuncId} {f : Func} {s : ChangeSpec} {dom : List PathCond} {b : TypeId} (hno : Tryd.checked.prog.inits.idxOf? fid = none) (hfn : Tryd.checked.prog.funcs[fid]? = some f)
    (hwit : ∃ (w : World) (tape : Tape) (i : Input), w.os = os ∧ (w.forCall tape i).Shaped Tryd.checked.prog ∧ i.vars = [] ∧ Input.okWide Tryd.checked.prog (w.forCall tape i) .any w.heap.size fid i ∧
      s.pre6 enc Tryd.checked.prog f dom false (w.forCall tape i).memory i.args ∧ ({} : Assume).holds Tryd.checked.prog (lone (Frame.enter Tryd.checked.prog fid i.args .normal) [] (w.forCall tape i)))
    (hv : s.vars = []) (hs : ∀ ds : List (DataW H), ds.length = f.params.toList.length → (s.fn H ds).results = [.lit (.bool true)] ∧ (s.fn H ds).args = ds ∧ (s.fn H ds).vars = [])
    (hts : f.params.toList.all (fun t => Tryd.prog.readableRec t && decide (t < Tryd.prog.types.size)) = true) (hr : f.resultTypes = #[b]) (hb : Tryd.prog.underlying b = some .bool)
    (hvt : s.plain.varTypes Tryd.checked.prog = [])
    (walk : ∀ (W : World) (base : Nat) (args : Array Value), args.toList.length = f.params.toList.length → (∀ (j : Nat) t v, f.params.toList[j]? = some t → args.toList[j]? = some v → Value.okWide Tryd.prog W .any base t v ∧ Came W t v) →
      Calls Tryd.prog fid args W fun e W' => e = .returned (.bool true) ∧ Ext [] W W') :
    ReturnsInHanded {} Tryd.checked os fid .any (s.pre6 enc Tryd.checked.prog f dom false) (s.post enc Tryd.checked.prog f false true false false) := by
  refine returnsInHanded_of_change_sized (C := Tryd.checked) law_own started hno hfn hwit ?_
  intro W base args ds gs before hval hW _ hsz _
  have hW' := hW
  have hlt := fun x hx => DataW.Whole.lt hW x hx
  obtain ⟨p, q, hA, hV, rfl, hfz, hnd⟩ := hW
  have hgs : gs = [] ∧ q = [] := by
    rw [hv] at hV
    cases gs with
    | nil => exact ⟨rfl, hV⟩
    | cons g gs => exact hV.elim
  obtain ⟨rfl, rfl⟩ := hgs
  rw [hvt, List.append_nil, List.append_nil] at hsz
  obtain ⟨c1, c2⟩ := came_all hA (fun n hn => by simpa using List.all_eq_true.1 hsz n hn)
  refine (walk W base args c1 (fun j t v ht hv' => ⟨hval j t v (by simpa using ht) (by simpa using hv'), c2 j t v ht hv'⟩)).mono fun e W' ⟨he, hg⟩ => ?_
  subst he
  have hlen : ds.length = f.params.toList.length := by
    have : ∀ {ts : List TypeId} {vs : List Value} {ds : List (DataW H)} {ps : List MemPlace}, DataW.TrodAll enc Tryd.prog W 0 (fun _ => true) true ts vs ds ps → ds.length = ts.length := by
      intro ts
      induction ts with
      | nil => intro vs ds ps h; cases vs <;> cases ds <;> first | rfl | exact h.elim
      | cons t ts ih =>
        intro vs ds ps h
        cases vs with
        | nil => exact h.elim
        | cons v vs => cases ds with
          | nil => exact h.elim
          | cons d ds =>
            obtain ⟨p, q, _, h2, _⟩ := h
            simp [ih h2]
    exact this hA
  obtain ⟨s1, s2, s3⟩ := hs (ds ++ []) (by simpa using hlen)
  refine ⟨_, rfl, ds, [], p ++ [], [], p, [], hW', ?_, ?_, ?_, (Ext.below hg).frame _, fun h => by cases h⟩
  · rw [s1, hr]
    exact trodAll_mk1 (shut_bool hb _)
  · rw [s2, List.append_nil]
    exact trodAll_keeps law_laid (Ext.below hg) hts hA (fun x hx => hlt x (by simpa using hx))
  · rw [s3, hv]
    rfl

/-! ### What came in, as cells -/
variable {P : Program} {w : World} {sp : Nat → Bool} {held : Bool}

theorem mapM_get {α β : Type} (f : α → Option β) : ∀ {l : List α} {r : List β}, l.mapM f = some r → ∀ x ∈ l, ∃ y, f x = some y := by
  intro l
  induction l with
  | nil => intro r _ x hx; cases hx
  | cons a l ih =>
    intro r h x hx
    rw [List.mapM_cons] at h
    simp only [bind, Option.bind_eq_some_iff, pure, Option.some.injEq] at h
    obtain ⟨y, hy, ys, hys, _⟩ := h
    rcases List.mem_cons.1 hx with rfl | hx
    · exact ⟨y, hy⟩
    · exact ih hys x hx

theorem mapM_range {α : Type} (f : Nat → Option α) {n : Nat} {r : List α} (h : (List.range n).mapM f = some r) : r.length = n ∧ ∀ i, i < n → ∃ x, f i = some x ∧ r[i]? = some x := by
  have gen : ∀ {l : List Nat} {r : List α}, l.mapM f = some r → r.length = l.length ∧ ∀ i, i < l.length → ∃ x, f (l.getD i 0) = some x ∧ r[i]? = some x := by
    intro l
    induction l with
    | nil => intro r h; simp at h; subst h; simp
    | cons a l ih =>
      intro r h
      rw [List.mapM_cons] at h
      simp only [bind, Option.bind_eq_some_iff, pure, Option.some.injEq] at h
      obtain ⟨y, hy, ys, hys, rfl⟩ := h
      obtain ⟨h1, h2⟩ := ih hys
      refine ⟨by simp [h1], fun i hi => ?_⟩
      cases i with
      | zero => exact ⟨y, by simpa using hy, rfl⟩
      | succ i => simpa using h2 i (by simpa using hi)
  obtain ⟨h1, h2⟩ := gen h
  rw [List.length_range] at h1
  refine ⟨h1, fun i hi => ?_⟩
  obtain ⟨x, hx, hr⟩ := h2 i (by simpa using hi)
  exact ⟨x, by simpa [List.getD_eq_getElem?_getD, hi] using hx, hr⟩

/-- Cells that are read one behind the other lie in one block. -/
theorem cells_blk {b o n : Nat} {sp : Option Nat} {cs : List Value} (h : w.cells? 0 ⟨b, o, sp⟩ n = some cs) (hn : 0 < n) :
    sp = none ∧ ∃ all t fz, w.heap[b]? = some (.cells all t fz) ∧ o + n ≤ all.size ∧ cs = (all.toList.drop o).take n := by
  unfold World.cells? at h
  rw [if_pos (Nat.zero_le _)] at h
  obtain ⟨hl, hg⟩ := mapM_range _ h
  obtain ⟨x0, hx0, _⟩ := hg 0 hn
  have hspot : sp = none := by
    unfold World.cell? at hx0
    split at hx0
    · split at hx0
      · cases hx0
      · rename_i hs
        simpa [Addr.add] using hs
    · cases hx0
  subst hspot
  refine ⟨rfl, ?_⟩
  have hc : ∀ i, i < n → ∃ all t fz, w.heap[b]? = some (.cells all t fz) ∧ ∃ x, all[o + i]? = some x ∧ cs[i]? = some x := by
    intro i hi
    obtain ⟨x, hx, hr⟩ := hg i hi
    rw [add_addr] at hx
    unfold World.cell? at hx
    split at hx
    · rename_i all t fz hb
      rw [if_neg (by simp)] at hx
      exact ⟨all, t, fz, hb, x, hx, hr⟩
    · cases hx
  obtain ⟨all, t, fz, hb, _⟩ := hc 0 hn
  have hc' : ∀ i, i < n → ∃ x, all[o + i]? = some x ∧ cs[i]? = some x := by
    intro i hi
    obtain ⟨all', t', fz', hb', h'⟩ := hc i hi
    rw [hb] at hb'
    simp only [Option.some.injEq, Obj.cells.injEq] at hb'
    obtain ⟨rfl, rfl, rfl⟩ := hb'
    exact h'
  have hsz : o + n ≤ all.size := by
    obtain ⟨x, hx, _⟩ := hc' (n - 1) (by omega)
    have := (Array.getElem?_eq_some_iff.1 hx).1
    omega
  refine ⟨all, t, fz, hb, hsz, ?_⟩
  apply List.ext_getElem?
  intro i
  by_cases hi : i < n
  · obtain ⟨x, hx, hr⟩ := hc' i hi
    rw [hr, List.getElem?_take, if_pos hi, List.getElem?_drop]
    simpa using hx.symm
  · rw [List.getElem?_eq_none (by omega), List.getElem?_take, if_neg hi]

/-- A slice that came in: its cells, and each element's own reading. -/
theorem trod_sl {t e : TypeId} {v : Value} {x : DataW H × List MemPlace} {fuel s : Nat} (hu : P.underlying t = some (.slice e)) (hs : P.cellsOf e = s) (hs0 : 0 < s) (h : DataW.trod enc P w 0 sp held fuel t [v] = some x) (hfit : fitsD P t x.1) :
    ∃ ys m, RdSl w v s ys m ∧ m * P.bytesOf e ≤ reachBytes ∧ ∀ i, i < m → ∃ y fuel', DataW.trod enc P w 0 sp held fuel' e ((ys.drop (i * s)).take s) = some y ∧ fitsD P e y.1 := by
  rcases DataW.trod_slice hu h with ⟨hc, _⟩ | ⟨a, len, cap, elems, rest, n, _, hc, hx, _, hl, hm, hlen, hel, _, _⟩
  · simp only [List.cons.injEq, and_true] at hc
    subst hc
    exact ⟨[], 0, ⟨by simp, .inl ⟨rfl, _, _, rfl⟩⟩, by rw [Nat.zero_mul]; exact Nat.zero_le _, fun i hi => absurd hi (Nat.not_lt_zero _)⟩
  · simp only [List.cons.injEq, and_true] at hc
    subst hc
    rw [hs] at hel
    rw [hx] at hfit
    obtain ⟨hf1, hf2⟩ := fits_slice hu hfit
    rw [List.length_map, List.length_map, hlen, Nat.add_mul] at hf1
    by_cases h0 : len = 0
    · subst h0
      exact ⟨[], 0, ⟨by simp, .inl ⟨rfl, _, _, rfl⟩⟩, by rw [Nat.zero_mul]; exact Nat.zero_le _, fun i hi => absurd hi (Nat.not_lt_zero _)⟩
    · have hget : ∀ i, i < len → ∃ cs y, w.cells? 0 (a.add (i * s)) s = some cs ∧ DataW.trod enc P w 0 sp held n e cs = some y ∧ fitsD P e y.1 := by
        intro i hi
        have := hel i hi
        rw [List.getElem?_eq_getElem (by omega), Option.bind_eq_some_iff] at this
        obtain ⟨cs, h1, h2⟩ := this
        exact ⟨cs, _, h1, h2, hf2 _ (List.mem_map_of_mem (List.getElem_mem _))⟩
      obtain ⟨b, o, spt⟩ := a
      obtain ⟨c0, y0, h1, h2⟩ := hget 0 (by omega)
      rw [Nat.zero_mul] at h1
      obtain ⟨rfl, all, ta, fz, hb, _, _⟩ := cells_blk (by simpa [Addr.add] using h1) hs0
      have hat : ∀ i, i < len → o + i * s + s ≤ all.size ∧ ∃ y, DataW.trod enc P w 0 sp held n e ((all.toList.drop (o + i * s)).take s) = some y ∧ fitsD P e y.1 := by
        intro i hi
        obtain ⟨cs, y, h1, h2⟩ := hget i hi
        rw [add_addr] at h1
        obtain ⟨_, all', ta', fz', hb', hle, rfl⟩ := cells_blk h1 hs0
        rw [hb] at hb'
        simp only [Option.some.injEq, Obj.cells.injEq] at hb'
        obtain ⟨rfl, rfl, rfl⟩ := hb'
        exact ⟨hle, y, h2⟩
      have hlast := (hat (len - 1) (by omega)).1
      have hmul : (len - 1) * s + s = len * s := by
        have : (len - 1) * s + 1 * s = (len - 1 + 1) * s := (Nat.add_mul _ _ _).symm
        rw [Nat.one_mul, Nat.sub_add_cancel (by omega)] at this
        exact this
      refine ⟨(all.toList.drop o).take (len * s), len, ⟨?_, .inr ⟨b, o, cap, all.toList, rfl, ⟨ta, fz, by simpa using hb⟩, rfl, by rw [Array.length_toList]; omega⟩⟩, by omega, fun i hi => ?_⟩
      · rw [List.length_take, List.length_drop, Array.length_toList]; omega
      · obtain ⟨_, y, hy⟩ := hat i hi
        refine ⟨y, n, ?_⟩
        have hi2 : i * s + s ≤ len * s := by
          have := Nat.mul_le_mul_right s (show i + 1 ≤ len from hi)
          rw [Nat.add_mul, Nat.one_mul] at this; exact this
        rw [List.drop_take, List.take_take, List.drop_drop, Nat.min_eq_left (by omega)]
        exact hy

theorem reach_eq : reachBytes = 140737488351232 := rfl

/-- Cells that read as bytes. -/
theorem cells_bytes : ∀ {cs : List Value}, (∀ y ∈ cs, ∃ n : Int, y = .int .u8 n ∧ (Lit.int .u8 n).wf = true) → ∃ l : Bytes, cs = bc l := by
  intro cs
  induction cs with
  | nil => intro _; exact ⟨[], rfl⟩
  | cons y r ih =>
    intro h
    obtain ⟨l, rfl⟩ := ih (fun z hz => h z (List.mem_cons_of_mem _ hz))
    obtain ⟨n, rfl, hn⟩ := h y List.mem_cons_self
    simp [Lit.wf] at hn
    have k1 : IntKind.u8.min = 0 := by decide
    have k2 : IntKind.u8.max = 255 := by decide
    rw [k1, k2] at hn
    refine ⟨UInt8.ofNat n.toNat :: l, ?_⟩
    simp only [bc, List.map_cons, List.cons.injEq, and_true, bv]
    congr 1
    have : (UInt8.ofNat n.toNat).toNat = n.toNat := by
      rw [UInt8.toNat_ofNat']
      omega
    rw [this]; omega

theorem mem_part {α : Type} {l : List α} {y : α} (h : y ∈ l) : ∃ i, i < l.length ∧ (l.drop i).take 1 = [y] := by
  obtain ⟨i, hi, rfl⟩ := List.mem_iff_getElem.1 h
  exact ⟨i, hi, by rw [← List.getElem_cons_drop hi]; rfl⟩

/-- Bytes that came in. -/
theorem trod_bytes {t e : TypeId} {v : Value} {x : DataW H × List MemPlace} {fuel : Nat} (hu : P.underlying t = some (.slice e)) (he : P.underlying e = some (.int .u8)) (hs : P.cellsOf e = 1) (hb : P.bytesOf e = 1) (h : DataW.trod enc P w 0 sp held fuel t [v] = some x) (hfit : fitsD P t x.1) :
    ∃ l : Bytes, RdSl w v 1 (bc l) l.length ∧ l.length ≤ 140737488351232 := by
  obtain ⟨ys, m, hrd, hm, hel⟩ := trod_sl hu hs (by decide) h hfit
  rw [hb, Nat.mul_one, reach_eq] at hm
  have hl := hrd.1
  rw [Nat.mul_one] at hl
  obtain ⟨l, rfl⟩ := cells_bytes (cs := ys) (by
    intro y hy
    obtain ⟨i, hi, hp⟩ := mem_part hy
    obtain ⟨z, f', hz, _⟩ := hel i (by omega)
    rw [Nat.mul_one, hp] at hz
    obtain ⟨n, h1, _, h2⟩ := DataW.trod_int he hz
    simp only [List.cons.injEq, and_true] at h1
    exact ⟨n, h1, h2⟩)
  rw [bc_length] at hl
  subst hl
  exact ⟨l, hrd, hm⟩

/-- An array of bytes that came in. -/
theorem trod_arr {t e : TypeId} {cs : List Value} {x : DataW H × List MemPlace} {fuel n : Nat} (hu : P.underlying t = some (.array n e)) (he : P.underlying e = some (.int .u8)) (hs : P.cellsOf e = 1) (hn : P.cellsOf t = n) (h : DataW.trod enc P w 0 sp held fuel t cs = some x) :
    ∃ l : Bytes, cs = bc l ∧ l.length = n := by
  cases fuel with
  | zero => simp [DataW.trod] at h
  | succ fuel =>
    unfold DataW.trod at h
    rw [hu] at h
    simp only [hn, hs, Nat.mul_one] at h
    split at h
    · rename_i hl
      rw [Option.map_eq_some_iff] at h
      obtain ⟨r, hr, _⟩ := h
      obtain ⟨_, hg⟩ := mapM_range _ hr
      obtain ⟨l, rfl⟩ := cells_bytes (cs := cs) (by
        intro y hy
        obtain ⟨i, hi, hp⟩ := mem_part hy
        obtain ⟨z, hz, _⟩ := hg i (by omega)
        rw [hp] at hz
        obtain ⟨n, h1, _, h2⟩ := DataW.trod_int he hz
        simp only [List.cons.injEq, and_true] at h1
        exact ⟨n, h1, h2⟩)
      exact ⟨l, rfl, by rw [← hl, bc_length]⟩
    · cases h
end

theorem open_sl {W : World} {base : Nat} {t e : TypeId} {v : Value} (hu : Tryd.prog.underlying t = some (.slice e)) (h : Value.okWide Tryd.prog W .any base t v) : v.cells.toList = [v] := by
  obtain ⟨a, n, c, rfl⟩ := okWide_slice hu h
  rfl
theorem open_i64 {W : World} {base : Nat} {v : Value} (h : Value.okWide Tryd.prog W .any base 3 v ∧ Came W 3 v) : ∃ n, v = .int .i64 n ∧ i64ok n := by
  obtain ⟨h1, H, enc, fuel, x, h2, h3⟩ := h
  obtain ⟨n, rfl, _, _, hw⟩ := open_int (by kernel_rfl : Tryd.prog.underlying 3 = some (.int .i64)) h1 ⟨fuel, h2⟩
  exact ⟨n, rfl, wf_i64 hw⟩
theorem law_ret {W : World} (e : Ending) (W' : World) (h : retK (fun v W' => v = .bool true ∧ Ext [] W W') e W') : e = .returned (.bool true) ∧ Ext [] W W' := by
  cases e <;> first | exact h.elim | (obtain ⟨rfl, h⟩ := h; exact ⟨rfl, h⟩)
theorem args3 {args : Array Value} (h : args.toList.length = 3) : ∃ a b c, args = #[a, b, c] := by
  obtain ⟨l⟩ := args
  match l, h with
  | [a, b, c], _ => exact ⟨a, b, c, rfl⟩
theorem args2 {args : Array Value} (h : args.toList.length = 2) : ∃ a b, args = #[a, b] := by
  obtain ⟨l⟩ := args
  match l, h with
  | [a, b], _ => exact ⟨a, b, rfl⟩
theorem args1 {args : Array Value} (h : args.toList.length = 1) : ∃ a, args = #[a] := by
  obtain ⟨l⟩ := args
  match l, h with
  | [a], _ => exact ⟨a, rfl⟩
theorem args4 {args : Array Value} (h : args.toList.length = 4) : ∃ a b c d, args = #[a, b, c, d] := by
  obtain ⟨l⟩ := args
  match l, h with
  | [a, b, c, d], _ => exact ⟨a, b, c, d, rfl⟩

section
variable {H : Type} {enc : TypeId × Value → H} {P : Program} {w : World} {sp : Nat → Bool} {held : Bool}

theorem trod_cap {t e : TypeId} {v : Value} {x : DataW H × List MemPlace} {fuel : Nat} (hu : P.underlying t = some (.slice e)) (h : DataW.trod enc P w 0 sp held fuel t [v] = some x) : capOk v := by
  rcases DataW.trod_slice hu h with ⟨hc, _⟩ | ⟨a, len, cap, elems, rest, n, _, hc, _, _, hl, _⟩
  · simp only [List.cons.injEq, and_true] at hc
    subst hc; rfl
  · simp only [List.cons.injEq, and_true] at hc
    subst hc; exact hl
theorem rows_of {ys : List Value} (h : ∀ y ∈ ys, ∃ l : Bytes, (RdSl w y 1 (bc l) l.length ∧ capOk y) ∧ l.length ≤ 140737488351232) : ∃ ls : List Bytes, RowsL w ys ls ∧ ∀ l ∈ ls, l.length ≤ 140737488351232 := by
  induction ys with
  | nil => exact ⟨[], trivial, by simp⟩
  | cons y r ih =>
    obtain ⟨ls, h1, h2⟩ := ih (fun z hz => h z (List.mem_cons_of_mem _ hz))
    obtain ⟨l, h3, h4⟩ := h y List.mem_cons_self
    exact ⟨l :: ls, ⟨h3, h1⟩, by
      intro x hx
      rcases List.mem_cons.1 hx with rfl | hx
      · exact h4
      · exact h2 x hx⟩
/-- Rows of bytes that came in. -/
theorem trod_rows {t e u : TypeId} {v : Value} {x : DataW H × List MemPlace} {fuel : Nat} (hu : P.underlying t = some (.slice e)) (hs : P.cellsOf e = 1) (hb : P.bytesOf e = 24) (he : P.underlying e = some (.slice u)) (hub : P.underlying u = some (.int .u8)) (hus : P.cellsOf u = 1) (huby : P.bytesOf u = 1)
    (h : DataW.trod enc P w 0 sp held fuel t [v] = some x) (hfit : fitsD P t x.1) : ∃ hs ls, RowsR w v hs ls ∧ capOk v ∧ ls.length ≤ 2 ^ 44 ∧ ∀ l ∈ ls, l.length ≤ 140737488351232 := by
  obtain ⟨ys, m, hrd, hm, hel⟩ := trod_sl hu hs (by decide) h hfit
  have hl := hrd.1
  rw [Nat.mul_one] at hl
  obtain ⟨ls, h1, h2⟩ := rows_of (w := w) (ys := ys) (by
    intro y hy
    obtain ⟨i, hi, hp⟩ := mem_part hy
    obtain ⟨z, f', hz, hf⟩ := hel i (by omega)
    rw [Nat.mul_one, hp] at hz
    obtain ⟨l, h3, h4⟩ := trod_bytes he hub hus huby hz hf
    exact ⟨l, ⟨h3, trod_cap he hz⟩, h4⟩)
  refine ⟨ys, ls, ⟨by rw [hl]; exact hrd, h1⟩, trod_cap hu h, ?_, h2⟩
  rw [hb, reach_eq] at hm
  have := h1.length
  omega

theorem cut_rows (s : Nat) : ∀ (m : Nat) (ys : List Value), ys.length = m * s → (∀ i, i < m → ∃ l : Bytes, (ys.drop (i * s)).take s = bc l ∧ l.length = s) → ∃ L : List Bytes, L.length = m ∧ ys = L.flatMap bc ∧ ∀ x ∈ L, x.length = s := by
  intro m
  induction m with
  | zero => intro ys h _; exact ⟨[], rfl, List.length_eq_zero_iff.1 (by rw [h, Nat.zero_mul]), by simp⟩
  | succ m ih =>
    intro ys h hel
    obtain ⟨l, h1, h2⟩ := hel 0 (by omega)
    rw [Nat.zero_mul, List.drop_zero] at h1
    obtain ⟨L, h3, h4, h5⟩ := ih (ys.drop s) (by rw [List.length_drop, h, Nat.add_mul, Nat.one_mul, Nat.add_sub_cancel]) (fun i hi => by
      obtain ⟨l, h6, h7⟩ := hel (i + 1) (by omega)
      refine ⟨l, ?_, h7⟩
      rw [List.drop_drop, ← h6, show s + i * s = (i + 1) * s by rw [Nat.add_mul, Nat.one_mul, Nat.add_comm]])
    refine ⟨l :: L, by rw [List.length_cons, h3], ?_, ?_⟩
    · rw [List.flatMap_cons, ← h1, ← h4, List.take_append_drop]
    · intro x hx
      rcases List.mem_cons.1 hx with rfl | hx
      · exact h2
      · exact h5 x hx
theorem trod_arrs {t e u : TypeId} {v : Value} {x : DataW H × List MemPlace} {fuel n : Nat} (hu : P.underlying t = some (.slice e)) (he : P.underlying e = some (.array n u)) (hn : 0 < n) (hub : P.underlying u = some (.int .u8)) (hus : P.cellsOf u = 1) (hes : P.cellsOf e = n) (hb : P.bytesOf e = n)
    (h : DataW.trod enc P w 0 sp held fuel t [v] = some x) (hfit : fitsD P t x.1) : ∃ l : List Bytes, RdSl w v n (l.flatMap bc) l.length ∧ (∀ x ∈ l, x.length = n) ∧ capOk v ∧ l.length ≤ 140737488351232 := by
  obtain ⟨ys, m, hrd, hm, hel⟩ := trod_sl hu hes hn h hfit
  obtain ⟨L, h1, h2, h3⟩ := cut_rows n m ys hrd.1 (fun i hi => by
    obtain ⟨z, f', hz, _⟩ := hel i hi
    exact trod_arr he hub hus hes hz)
  subst h2
  refine ⟨L, by rw [h1]; exact hrd, h3, trod_cap hu h, ?_⟩
  rw [hb, reach_eq] at hm
  have := Nat.le_mul_of_pos_right m hn
  omega

end

theorem open_bytesC {W : World} {base : Nat} {v : Value} (h : Value.okWide Tryd.prog W .any base 22 v ∧ Came W 22 v) : ∃ l : Bytes, (RdSl W v 1 (bc l) l.length ∧ capOk v) ∧ l.length ≤ 140737488351232 := by
  obtain ⟨h1, H, enc, fuel, x, h2, h3⟩ := h
  rw [open_sl und_u8s h1] at h2
  obtain ⟨l, h4, h5⟩ := trod_bytes und_u8s (by kernel_rfl) (by kernel_rfl) (by kernel_rfl) h2 h3
  exact ⟨l, ⟨h4, trod_cap und_u8s h2⟩, h5⟩
theorem open_rows {W : World} {base : Nat} {v : Value} (h : Value.okWide Tryd.prog W .any base 45 v ∧ Came W 45 v) : ∃ hs ls, RowsR W v hs ls ∧ capOk v ∧ ls.length ≤ 2 ^ 44 ∧ ∀ l ∈ ls, l.length ≤ 140737488351232 := by
  obtain ⟨h1, H, enc, fuel, x, h2, h3⟩ := h
  rw [open_sl und_rows h1] at h2
  exact trod_rows und_rows (by kernel_rfl) (by kernel_rfl) und_u8s (by kernel_rfl) (by kernel_rfl) (by kernel_rfl) h2 h3


theorem open_digest {W : World} {base : Nat} {v : Value} (h : Value.okWide Tryd.prog W .any base 77 v ∧ Came W 77 v) : ∃ l : Bytes, v = .agg (bc l).toArray ∧ l.length = 32 := by
  obtain ⟨h1, H, enc, fuel, x, h2, h3⟩ := h
  have hu : Tryd.prog.underlying 77 = some (.array 32 5) := by kernel_rfl
  unfold Value.okWide at h1
  rw [hu] at h1
  obtain ⟨cs, rfl, _, _⟩ := h1
  obtain ⟨l, h4, h5⟩ := trod_arr hu (by kernel_rfl) (by kernel_rfl) (by kernel_rfl) h2
  refine ⟨l, ?_, h5⟩
  have : cs.toList = bc l := h4
  rw [← this]
theorem open_digs {W : World} {base : Nat} {v : Value} (h : Value.okWide Tryd.prog W .any base 75 v ∧ Came W 75 v) : ∃ l : List Bytes, RdSl W v 32 (l.flatMap bc) l.length ∧ (∀ x ∈ l, x.length = 32) ∧ capOk v ∧ l.length ≤ 140737488351232 := by
  obtain ⟨h1, H, enc, fuel, x, h2, h3⟩ := h
  rw [open_sl (by kernel_rfl : Tryd.prog.underlying 75 = some (.slice 77)) h1] at h2
  exact trod_arrs (by kernel_rfl) (by kernel_rfl : Tryd.prog.underlying 77 = some (.array 32 5)) (by decide) (by kernel_rfl) (by kernel_rfl) (by kernel_rfl) (by kernel_rfl) h2 h3
theorem open_u8 {W : World} {base : Nat} {v : Value} (h : Value.okWide Tryd.prog W .any base 5 v ∧ Came W 5 v) : ∃ n : UInt8, v = bv n := by
  obtain ⟨h1, H, enc, fuel, x, h2, h3⟩ := h
  obtain ⟨n, rfl, _, _, hw⟩ := open_int (by kernel_rfl : Tryd.prog.underlying 5 = some (.int .u8)) h1 ⟨fuel, h2⟩
  simp [Lit.wf] at hw
  have k1 : IntKind.u8.min = 0 := by decide
  have k2 : IntKind.u8.max = 255 := by decide
  rw [k1, k2] at hw
  refine ⟨UInt8.ofNat n.toNat, ?_⟩
  unfold bv
  congr 1
  rw [UInt8.toNat_ofNat']
  omega
theorem open_text {W : World} {base : Nat} {v : Value} (h : Value.okWide Tryd.prog W .any base 9 v ∧ Came W 9 v) : ∃ l : Bytes, v = .string ⟨l.toArray⟩ := by
  obtain ⟨h1, H, enc, fuel, x, h2, h3⟩ := h
  obtain ⟨s, rfl, _⟩ := Go.ChangeMaps.open_string (by kernel_rfl : Tryd.prog.underlying 9 = some .string) h1 ⟨fuel, h2⟩
  exact ⟨s.data.toList, rfl⟩
theorem args5 {args : Array Value} (h : args.toList.length = 5) : ∃ a b c d e, args = #[a, b, c, d, e] := by
  obtain ⟨l⟩ := args
  match l, h with
  | [a, b, c, d, e], _ => exact ⟨a, b, c, d, e, rfl⟩
end Go.Proofs.YtedebapgmfnflaaDoor

/- Rows compared; a beginning of rows; the area's calls that came in: walks. -/
namespace Go.Proofs.YtedebapgmfnflaaDoor
open Go
set_option maxRecDepth 100000

/-- What was there from the first. -/
theorem Sep.addBase {w0 w : World} {L R : List Res} {T : Res} (s : Sep [] w0 w L R) (h : T.holds w0) : Sep [] w0 w L (T :: R) :=
  s.addR (T.keep h s.ext (by simp)) fun U hU b hb hm => by
    rcases s.old U hU b hb with h1 | h1
    · cases h1
    · have := T.lt h b hm
      omega
theorem RowsL.takeL {w : World} : ∀ {hs : List Value} {ls : List Bytes}, RowsL w hs ls → ∀ k, RowsL w (hs.take k) (ls.take k)
  | [], [], _, k => by simp [RowsL]
  | _ :: _, _ :: _, h, 0 => trivial
  | _ :: _, _ :: _, h, k + 1 => ⟨h.1, RowsL.takeL h.2 k⟩

set_option maxHeartbeats 1000000 in
theorem same_c {w : World} {K : VPost} {v u : Value} {hs hs2 : List Value} {ls ls2 : List Bytes} (hv : RowsR w v hs ls) (hu : RowsR w u hs2 ls2) (hl : ls.length ≤ 2 ^ 30) (hb : ∀ l ∈ ls, l.length ≤ 2 ^ 30)
    (hK : ∀ w', Ext [] w w' → K (.bool (decide (ls = ls2))) w') : Calls Tryd.prog 46 #[v, u] w (retK K) := by
  refine c46_calls _ _ w K ?_
  unfold c46
  have hvl : ∀ (w : World) (K : VPost), lenW Tryd.prog (some true) #[45] 3 #[v] w K = K (.int .i64 ls.length) w := fun w K => by obtain ⟨a, c, rfl⟩ := hv.len; exact len_s
  have hul : ∀ (w : World) (K : VPost), lenW Tryd.prog (some true) #[45] 3 #[u] w K = K (.int .i64 ls2.length) w := fun w K => by obtain ⟨a, c, rfl⟩ := hu.len; exact len_s
  rw [hvl, hul]
  refine nneq (cond_d (fun hne => ?_) (fun hne => ?_))
  · have := hK w (Ext.refl _ _)
    rw [decide_eq_false (fun e => hne (by rw [e]))] at this
    exact this
  · have hle : ls.length = ls2.length := by omega
    refine bindX_i fun J0 h0 => bindX_i fun J1 h1 => bindX_i fun J2 h2 => ?_
    have s := (Sep.zero1 (U := rW v hs ls) hv).addR (T := rW u hs2 ls2) hu (by simp)
    refine loop_i (fun m fr wr => ∃ i : Nat, m = ls.length - i ∧ i ≤ ls.length ∧ ls.take i = ls2.take i ∧ fr 0 = v ∧ fr 1 = u ∧ fr 5 = .int .i64 i ∧ Sep [] w wr [] [rW u hs2 ls2, rW v hs ls]) ls.length ?_ ?_
    · exact ⟨0, rfl, by omega, rfl, rfl, rfl, rfl, s⟩
    · rintro m fr wr J ⟨i, rfl, hi, heq, f0, f1, f5, s⟩ hJ hX
      rw [f0, f5, hvl]
      refine nlss (cond_d (fun hlt => ?_) (fun hlt => ?_))
      · rw [f1]
        have s := s.drew
        generalize wr.drew = wr at *
        have r1 : RowsR wr v hs ls := s.rat 1 rfl
        have r2 : RowsR wr u hs2 ls2 := s.rat 0 rfl
        obtain ⟨b, o, r, hix, hld, hr, _, _⟩ := r1.elem hlt .i64
        refine hix _ ?_
        refine hld _ ?_
        obtain ⟨b2, o2, q, hix2, hld2, hq, _, _⟩ := r2.elem (i := i) (by omega) .i64
        refine hix2 _ ?_
        refine hld2 _ ?_
        have hbi := hb _ (List.getElem_mem hlt)
        refine fnW_of (by kernel_rfl) (sameBytes_c hr hq (by omega) fun w2 e2 => ?_)
        have s := s.ext0 e2
        refine not_ti ?_
        have hlt2 : i < ls2.length := by omega
        by_cases he : ls[i] = ls2[i]
        · rw [decide_eq_true he, Bool.not_true]
          refine cndF ?_
          refine nadd (y := 1) (by omega) ?_
          refine hJ (ls.length - (i + 1)) _ _ (by omega) ⟨i + 1, rfl, by omega, ?_, f0, f1, rfl, s⟩
          rw [List.take_succ_eq_append_getElem hlt, List.take_succ_eq_append_getElem hlt2, heq, he]
        · rw [decide_eq_false he, Bool.not_false]
          refine cndT ?_
          refine hX _ _ _ (by simp) (h2 _ _ _ (h1 _ _ _ (h0 _ _ _ ?_)))
          have := hK w2 s.ext
          rw [decide_eq_false (fun e => he (by subst e; rfl))] at this
          exact this
      · obtain rfl : i = ls.length := by omega
        refine hX _ _ _ (by simp) (h2 _ _ _ (h1 _ _ _ ?_))
        have := hK wr s.ext
        have he : ls = ls2 := by
          rw [List.take_length, hle, List.take_length] at heq
          exact heq
        rw [decide_eq_true he] at this
        exact this

theorem beginning_c {w : World} {K : VPost} {v u : Value} {hs hs2 : List Value} {ls ls2 : List Bytes} {k : Nat} (hv : RowsR w v hs ls) (hu : RowsR w u hs2 ls2) (hc : capOk u) (hl : ls.length ≤ 2 ^ 30) (hb : ∀ l ∈ ls, l.length ≤ 2 ^ 30) (hk : k ≤ ls.length) (hle : ls.length ≤ ls2.length) (he : ls = ls2.take ls.length)
    (hK : ∀ w', Ext [] w w' → K (.bool true) w') : Calls Tryd.prog 45 #[v, u, .int .i64 k] w (retK K) := by
  refine c45_calls _ _ _ w K ?_
  unfold c45
  have hvl : ∀ (w : World) (K : VPost), lenW Tryd.prog (some true) #[45] 3 #[v] w K = K (.int .i64 ls.length) w := fun w K => by obtain ⟨a, c, rfl⟩ := hv.len; exact len_s
  have hul : ∀ (w : World) (K : VPost), lenW Tryd.prog (some true) #[45] 3 #[u] w K = K (.int .i64 ls2.length) w := fun w K => by obtain ⟨a, c, rfl⟩ := hu.len; exact len_s
  rw [hvl, igeq, decide_eq_true (show (k : Int) ≤ ls.length by omega)]
  refine gs_t ?_
  refine gs_t ?_
  rw [hvl]
  refine gs_t ?_
  refine gs_t ?_
  rw [hul]
  refine gs_t ?_
  refine nleq ?_
  refine pick_ti ?_
  rw [decide_eq_true hle]
  refine gs_t ?_
  refine gs_t ?_
  refine gs_t ?_
  refine gs_t ?_
  rw [hvl]
  refine gs_t ?_
  have hl2 : hs2.length = ls2.length := hu.2.length
  have hu1 : RdSl w u 1 hs2 ls2.length := by have := hu.1; rwa [hl2] at this
  refine hu1.cut (l := 0) (h := ls.length) hc rfl rfl (by omega) hle fun u' hu' _ _ _ => ?_
  rw [Nat.zero_mul, List.drop_zero, Nat.mul_one, Nat.sub_zero] at hu'
  refine gs_t ?_
  have hut : (hs2.take ls.length).length = ls.length := by rw [List.length_take]; omega
  refine fnW_of (by kernel_rfl) (same_c hv (hs2 := hs2.take ls.length) (ls2 := ls2.take ls.length) ⟨by rw [hut]; exact hu', hu.2.takeL _⟩ hl hb fun w' e => ?_)
  refine pick_ti ?_
  rw [decide_eq_true he]
  exact hK w' e
end Go.Proofs.YtedebapgmfnflaaDoor

/- The area's calls that came in; are they many: walks. -/
namespace Go.Proofs.YtedebapgmfnflaaDoor
open Go Go.ChangeShapes Go.WideShapes
set_option maxRecDepth 100000

structure CallA where
  what : Int
  n : Int
  recB : Bytes
  rv : Value
  picks : Bytes
  pv : Value
def callACells (c : CallA) : List Value := [.int .i64 c.what, .int .i64 c.n, c.rv, c.pv]
structure CallA.good (w : World) (c : CallA) : Prop where
  what : i64ok c.what
  num : i64ok c.n
  rrd : RdSl w c.rv 1 (bc c.recB) c.recB.length
  rcap : capOk c.rv
  rlen : c.recB.length ≤ 140737488351232
  prd : RdSl w c.pv 1 (bc c.picks) c.picks.length
  plen : c.picks.length ≤ 140737488351232
structure IsCallsA (w : World) (v : Value) (l : List CallA) : Prop where
  rd : RdSl w v 4 (l.flatMap callACells) l.length
  good : ∀ c ∈ l, c.good w
  len : l.length ≤ 140737488351232
theorem IsCallsA.keep {w w' : World} {v : Value} {l : List CallA} (h : IsCallsA w v l) (e : Ext [] w w') : IsCallsA w' v l :=
  ⟨h.rd.keep e (by simp), fun c hc => let g := h.good c hc; ⟨g.what, g.num, g.rrd.keep e (by simp), g.rcap, g.rlen, g.prd.keep e (by simp), g.plen⟩, h.len⟩

/-- A call, by its cells. -/
theorem IsCallsA.elem {w : World} {v : Value} {l : List CallA} (h : IsCallsA w v l) {i : Nat} (hi : i < l.length) (k : IntKind) :
    ∃ b o cs, (∀ K : VPost, K (.pointer (some ⟨b, o, none⟩)) w → idxW (some (none, 4)) v (.int k i) w K) ∧ RBlk w b cs ∧ o + 4 ≤ cs.length ∧ (cs.drop o).take 4 = callACells l[i] := by
  obtain ⟨b, o, cs, h1, h2, h3, h4⟩ := h.rd.elem hi (by decide) k
  rw [flat_get callACells 4 l (fun c _ => rfl) i hi] at h4
  exact ⟨b, o, cs, h1, h2, h3, h4⟩

def strF (P : Program) (t : TypeId) : Option (List (TypeId × Nat)) :=
  match P.underlying t with
  | some (.struct fs) => some (fs.toList.map fun f => (f.type, f.offset))
  | _ => none
theorem trod_fields {H : Type} {enc : TypeId × Value → H} {P : Program} {w : World} {sp : Nat → Bool} {held : Bool} {t : TypeId} {l : List (TypeId × Nat)} {cs : List Value} {x : DataW H × List MemPlace} {fuel : Nat} (hs : strF P t = some l) (h : DataW.trod enc P w 0 sp held fuel t cs = some x) (hfit : fitsD P t x.1) :
    cs.length = P.cellsOf t ∧ ∀ (i : Nat) te off, l[i]? = some (te, off) → ∃ y n, DataW.trod enc P w 0 sp held n te ((cs.drop off).take (P.cellsOf te)) = some y ∧ fitsD P te y.1 := by
  unfold strF at hs
  split at hs
  · rename_i fs hu
    simp only [Option.some.injEq] at hs
    subst hs
    obtain ⟨xs, n, _, hx, hl, hxs, hf⟩ := DataW.trod_struct hu h
    rw [hx] at hfit
    refine ⟨hl, fun i te off hi => ?_⟩
    rw [List.getElem?_map, Option.map_eq_some_iff] at hi
    obtain ⟨f, hfi, he⟩ := hi
    simp only [Prod.mk.injEq] at he
    obtain ⟨rfl, rfl⟩ := he
    have hlt : i < fs.size := by
      have := (List.getElem?_eq_some_iff.1 hfi).1
      simpa using this
    have := hf i f (by simpa using hfi)
    rw [List.getElem?_eq_getElem (by omega)] at this
    exact ⟨_, n, this, fits_struct hu hfit (i := i) (by simp [hfi]) (by rw [List.getElem?_map, List.getElem?_eq_getElem (by omega)]; rfl)⟩
  · cases hs
theorem flat_cut {α : Type} (f : α → List Value) (s : Nat) (P : α → Prop) : ∀ (m : Nat) (ys : List Value), ys.length = m * s → (∀ i, i < m → ∃ c : α, P c ∧ (ys.drop (i * s)).take s = f c) → ∃ l : List α, l.length = m ∧ (∀ c ∈ l, P c) ∧ ys = l.flatMap f := by
  intro m
  induction m with
  | zero => intro ys hl _; exact ⟨[], rfl, by simp, List.length_eq_zero_iff.1 (by rw [hl, Nat.zero_mul])⟩
  | succ m ih =>
    intro ys hl hel
    obtain ⟨c, hc, he⟩ := hel 0 (by omega)
    obtain ⟨l, h1, h2, h3⟩ := ih (ys.drop s) (by rw [List.length_drop, hl, Nat.add_mul, Nat.one_mul, Nat.add_sub_cancel]) (fun i hi => by
      obtain ⟨c, hc, he⟩ := hel (i + 1) (by omega)
      refine ⟨c, hc, ?_⟩
      rw [List.drop_drop, show s + i * s = (i + 1) * s by rw [Nat.add_mul, Nat.one_mul, Nat.add_comm]]; exact he)
    refine ⟨c :: l, by simp [h1], fun d hd => ?_, ?_⟩
    · rcases List.mem_cons.1 hd with rfl | hd
      · exact hc
      · exact h2 d hd
    · rw [List.flatMap_cons, ← h3, ← he, Nat.zero_mul, List.drop_zero, List.take_append_drop]

theorem trod_callsA {H : Type} {enc : TypeId × Value → H} {w : World} {sp : Nat → Bool} {held : Bool} {v : Value} {x : DataW H × List MemPlace} {fuel : Nat} (h : DataW.trod enc Tryd.prog w 0 sp held fuel 59 [v] = some x) (hfit : fitsD Tryd.prog 59 x.1) :
    ∃ l, IsCallsA w v l := by
  obtain ⟨ys, m, hrd, hm, hel⟩ := trod_sl (by kernel_rfl : Tryd.prog.underlying 59 = some (.slice 62)) (by kernel_rfl : Tryd.prog.cellsOf 62 = 4) (by decide) h hfit
  have hby : Tryd.prog.bytesOf 62 = 64 := by kernel_rfl
  rw [hby, reach_eq] at hm
  have hint : Tryd.prog.underlying 3 = some (.int .i64) := by kernel_rfl
  have hel' : ∀ i, i < m → ∃ c : CallA, c.good w ∧ (ys.drop (i * 4)).take 4 = callACells c := by
    intro i hi
    obtain ⟨y, f, hy, hyf⟩ := hel i hi
    obtain ⟨hl, hf⟩ := trod_fields (by kernel_rfl : strF Tryd.prog 62 = some [(3, 0), (3, 1), (22, 2), (22, 3)]) hy hyf
    have hc1 : Tryd.prog.cellsOf 3 = 1 := by kernel_rfl
    have hcs : Tryd.prog.cellsOf 22 = 1 := by kernel_rfl
    have hcc : Tryd.prog.cellsOf 62 = 4 := by kernel_rfl
    rw [hcc] at hl
    generalize (ys.drop (i * 4)).take 4 = cs at *
    obtain ⟨y0, n0, h0, k0⟩ := hf 0 _ _ rfl
    obtain ⟨y1, n1, h1, k1⟩ := hf 1 _ _ rfl
    obtain ⟨y2, n2, h2, k2⟩ := hf 2 _ _ rfl
    obtain ⟨y3, n3, h3, k3⟩ := hf 3 _ _ rfl
    rw [hc1] at h0 h1
    rw [hcs] at h2 h3
    match cs, hl with
    | [a, b, c, d], _ =>
      obtain ⟨a0, e0, _, g0⟩ := DataW.trod_int hint h0
      obtain ⟨a1, e1, _, g1⟩ := DataW.trod_int hint h1
      have h2 : DataW.trod enc Tryd.prog w 0 sp held n2 22 [c] = some y2 := h2
      have h3 : DataW.trod enc Tryd.prog w 0 sp held n3 22 [d] = some y3 := h3
      obtain ⟨rc, r3, r4⟩ := trod_bytes und_u8s (by kernel_rfl) (by kernel_rfl) (by kernel_rfl) h2 k2
      obtain ⟨pk, g3, g4⟩ := trod_bytes und_u8s (by kernel_rfl) (by kernel_rfl) (by kernel_rfl) h3 k3
      refine ⟨⟨a0, a1, rc, c, pk, d⟩, ⟨wf_i64 g0, wf_i64 g1, r3, trod_cap und_u8s h2, r4, g3, g4⟩, ?_⟩
      have e0 : [a] = [Value.int .i64 a0] := e0
      have e1 : [b] = [Value.int .i64 a1] := e1
      simp only [List.cons.injEq, and_true] at e0 e1
      rw [e0, e1]
      rfl
  obtain ⟨l, h1, h2, h3⟩ := flat_cut callACells 4 (fun c => c.good w) m ys hrd.1 hel'
  subst h1
  subst h3
  exact ⟨l, hrd, h2, by omega⟩
theorem open_callsA {W : World} {base : Nat} {v : Value} (h : Value.okWide Tryd.prog W .any base 59 v ∧ Came W 59 v) : ∃ l, IsCallsA W v l := by
  obtain ⟨h1, H, enc, fuel, x, h2, h3⟩ := h
  rw [open_sl (by kernel_rfl : Tryd.prog.underlying 59 = some (.slice 62)) h1] at h2
  exact trod_callsA h2 h3

/-- Are they many? -/
theorem great5_c {w : World} {K : VPost} {v : Value} {l : List CallA} (h : IsCallsA w v l) (hT : ∀ w', Ext [] w w' → K (.bool true) w') (hF : l.length ≤ 40 → (∀ c ∈ l, c.recB.length + c.picks.length ≤ 3000) → ∀ w', Ext [] w w' → K (.bool false) w') :
    Calls Tryd.prog 40 #[v] w (retK K) := by
  refine c40_calls _ w K ?_
  unfold c40
  obtain ⟨a, c, hva⟩ := h.rd.len
  have hl1 : ∀ (w : World) (K : VPost), lenW Tryd.prog (some true) #[59] 3 #[v] w K = K (.int .i64 l.length) w := fun w K => by rw [hva, len_s]
  rw [hl1]
  refine ngtr (y := 40) (cond_d (fun hlt => hT w (Ext.refl _ _)) (fun hlt => ?_))
  refine bindX_i fun J0 h0 => bindX_i fun J1 h1 => bindX_i fun J2 h2 => ?_
  refine loop_i (fun m fr w1 => ∃ k s : Nat, m = l.length - k ∧ k ≤ l.length ∧ fr 0 = v ∧ fr 4 = .int .i64 k ∧ fr 3 = .int .i64 s ∧ s ≤ 3000 ∧ (∀ c ∈ l.take k, c.recB.length + c.picks.length ≤ s) ∧ Ext [] w w1) l.length ?_ ?_
  · exact ⟨0, 0, rfl, Nat.zero_le _, rfl, rfl, rfl, Nat.zero_le _, by simp, Ext.refl _ _⟩
  · rintro m fr w1 J ⟨k, s, rfl, hk, f0, f4, f3, hs, hp, e1⟩ hJ hX
    rw [f0, f4, f3, hl1]
    refine nlss (cond_d (fun hlt => ?_) (fun hlt => ?_))
    · have e2 := e1.new (Ext.drew [] w1)
      generalize w1.drew = w2 at *
      have h' := h.keep e2
      obtain ⟨b, o, cs, hix, hb, hle, hcs⟩ := h'.elem hlt .i64
      have hg := h'.good l[k] (List.getElem_mem hlt)
      have hrl := hg.rlen
      have hpl := hg.plen
      refine hix _ ?_
      refine off_i (load1 hb (by rw [at_get hcs (show 2 < 4 by decide)]; rfl) ?_)
      rw [hg.rrd.lenw]
      refine hix _ ?_
      refine off_i (load1 hb (by rw [at_get hcs (show 3 < 4 by decide)]; rfl) ?_)
      rw [hg.prd.lenw]
      refine nadd (by omega) ?_
      refine nadd (by omega) ?_
      refine ngtr (y := 3000) (cond_d (fun hc => ?_) (fun hc => ?_))
      · exact hX _ _ _ (by simp) (h2 _ _ _ (h1 _ _ _ (h0 _ _ _ (hT w2 e2))))
      · refine nadd (y := 1) (by omega) ?_
        refine hJ (l.length - (k + 1)) _ _ (by omega) ⟨k + 1, s + (l[k].recB.length + l[k].picks.length), rfl, hlt, f0, rfl, rfl, by omega, ?_, e2⟩
        intro c hc
        rw [List.take_succ_eq_append_getElem hlt, List.mem_append] at hc
        rcases hc with hc | hc
        · have := hp c hc; omega
        · simp at hc; subst hc; omega
    · have hkn : k = l.length := by omega
      subst hkn
      rw [List.take_length] at hp
      exact hX _ _ _ (by simp) (h2 _ _ _ (blk_x (seq_n h1 (hF (by omega) (fun c hc => Nat.le_trans (hp c hc) hs) w1 e1))))
end Go.Proofs.YtedebapgmfnflaaDoor

/- AreaLasts: its walk. -/
namespace Go.Proofs.YtedebapgmfnflaaDoor
open Go
set_option maxRecDepth 100000

theorem zero_callA : zeroO Tryd.prog 62 = some (.agg #[.int .i64 0, .int .i64 0, .slice none 0 0, .slice none 0 0]) := by kernel_rfl
theorem roomB_ok {size : Nat} {rs : List Bytes} (h : ∀ r ∈ rs, r.length ≤ 2000) (hf : posR rs rs.length ≤ size) : roomB size rs = 0 := by
  unfold roomB
  have ha : (rs.all fun r => decide (needN r.length ≠ 0)) = true := by
    rw [List.all_eq_true]
    intro r hr
    have := need_pos (h r hr)
    exact decide_eq_true (by omega)
  rw [if_pos ha, if_neg (by omega)]

section
variable {S : List Nat} {w0 w : World} {L R : List Res} {K : VPost} {F : List Nat} {D : DiskM} {p : Nat}
theorem Sep.dcrash (s : Sep S w0 w L R) (i : Nat) (hL : L[i]? = some (rDk p F D)) (picks : Bytes) {pv : Value} (hx : rR pv 1 (bc picks) picks.length ∈ R) (hlen : D.pend.length ≤ 1000000) (h : ∀ e F' w', Sep S w0 w' (L.set i (rDk p F' (D.crash picks))) R → K (.int .i64 e) w') :
    fnW Tryd.prog 43 #[ptrA p, pv] w K := by
  have hpb : 0 < picks.length → ∀ b ∈ slB pv, b ∈ rdB pv (bc picks) := by
    intro h0 b hb
    cases picks with
    | nil => simp at h0
    | cons x r => exact hb
  exact fnW_of (by kernel_rfl) (crash_c (s.at i hL) picks (s.rd _ hx) (fun h0 b hb => ⟨fun hm => s.disR _ (List.mem_of_getElem? hL) _ hx b hm (hpb h0 b hb), (rR pv 1 (bc picks) picks.length).lt (s.rd _ hx) b (hpb h0 b hb)⟩) hlen fun F' w' hd m => h _ F' w' (s.moved i hL hd m))
theorem Sep.litRv {r : Value} {a : Option Addr} {m c : Nat} (s : Sep S w0 w L R) (hr : r = .slice a m c) (h : ∀ v' w', Sep S w0 w' (rO v' 22 1 [r] 1 :: L) R → K v' w') : insW Tryd.prog (Instr.buildSlice 45 1 #[(0, r)]) w K := by
  subst hr
  exact s.litR h
theorem posR_take (rs : List Bytes) (m : Nat) (hm : m ≤ rs.length) : posR (rs.take m) (rs.take m).length = posR rs m := by
  unfold posR
  rw [List.take_length]
theorem Sep.rows0 (s : Sep S w0 w L R) (h : ∀ v' w', Sep S w0 w' (rO v' 22 1 [] 0 :: L) R → K v' w') : insW Tryd.prog (Instr.buildSlice 45 0 #[]) w K := by
  obtain ⟨ti, hti, htz, hts, htb⟩ := tyI_spec ty_row
  exact s.lit (vs := []) und_rows hti htz rfl (by simp) (by simp) fun t w1 s1 _ _ => h t w1 (by rw [hts] at s1; exact s1)
theorem Sep.toBack {T : Res} (s : Sep S w0 w (T :: L) R) : Sep S w0 w (L ++ [T]) R := s.perm (List.perm_append_comm (l₁ := [T]) (l₂ := L))

theorem HistX.facts {A : AreaH} {list extra : List Bytes} {sure i H F W base : Nat} (h : HistX D A list extra sure i H F W base) (hn : D.n ≤ 40) (hi : i ≤ 100) :
    1 ≤ A.gen ∧ A.gen ≤ 4294967295 ∧ A.next ≤ A.size ∧ A.first + A.size ≤ D.n ∧ (∀ r ∈ list, r.length ≤ 2000) ∧ A.size = D.n / 2 ∧ (A.first = 0 ∨ A.first = A.size) ∧ D.pend.length ≤ 100 * i ∧ 2 ≤ A.size ∧ H < 256 := by
  have h1 := h.area.g1
  have h2 := h.area.gH
  have h3 := h.area.H256
  have h4 := h.area.half
  have h5 := h.area.ends
  have h6 := h.fit
  have h7 := h.next
  have h8 := posR_app list extra (Nat.le_refl list.length)
  have h9 := posR_mono (list ++ extra) (show list.length ≤ (list ++ extra).length by rw [List.length_append]; omega)
  have h10 := h.area.two
  exact ⟨h1, by omega, by omega, by omega, fun r hr => h.area.short r (by simp [hr]), h4, h5, h.pend, h10, h3⟩

theorem layD_nA (D : DiskM) (q : Nat) (ls : List Bytes) : (layD D q ls).1.n = D.n := by
  have := layD_n D q ls ls.length (Nat.le_refl _)
  rwa [List.take_length] at this

/-- What AreaLasts knows behind so many calls. -/
structure LastInv (n p : Nat) (A : AreaH) (D : DiskM) (list : List Bytes) (sure i : Nat) : Prop where
  hist : Hist D A list sure (i + 1)
  disk : A.disk = p
  dn : D.n = n
  few : list.length ≤ i
end

set_option maxHeartbeats 8000000 in
theorem lastsLaw_walk {w : World} {K : VPost} {n : Int} {v : Value} {l : List CallA} (hv : IsCallsA w v l) (hK : ∀ w', Ext [] w w' → K (.bool true) w') :
    Calls Tryd.prog 9 #[.int .i64 n, v] w (retK K) := by
  refine c9_calls _ _ w K ?_
  unfold c9
  refine fnW_of (by kernel_rfl) (alive5_c fun w1 e1 => ?_)
  refine not_ti ?_
  refine cndF ?_
  refine fnW_of (by kernel_rfl) (great5_c (hv.keep e1) (fun w2 e2 => ?_) (fun h40 h3000 w2 e2 => ?_))
  · iterate 2 ((repeat with_reducible refine gs_tf ?_); refine pick_ti ?_)
    exact cndT (hK _ (e1.new e2))
  have s := (Sep.nil w).ext0 (e1.new e2)
  refine gs_f ?_
  refine gs_f ?_
  rw [ilss]
  refine pick_fi ?_
  by_cases hn4 : n < 4
  · rw [decide_eq_true hn4]
    iterate 1 ((repeat with_reducible refine gs_tf ?_); refine pick_ti ?_)
    exact cndT (hK _ s.ext)
  rw [decide_eq_false hn4]
  refine gs_f ?_
  refine gs_f ?_
  rw [igtr]
  refine pick_fi ?_
  refine cond_d (fun _ => hK _ s.ext) (fun hn40 => ?_)
  obtain ⟨n, rfl⟩ : ∃ k : Nat, n = k := ⟨n.toNat, by omega⟩
  refine fnW_of (by kernel_rfl) (new_c n (fun h => absurd ⟨by omega, by omega⟩ h) fun _ p F w2 hd e hf => ?_)
  rw [Int.toNat_natCast] at hd
  have hok := hd.okD
  have hcalm := Calm.fresh hok
  have hhigh := fresh_high hok
  have s := s.add (T := rDk p F (DiskM.fresh n)) hd e hf
  rw [extr0, extr1]
  refine nneq (x := 0) (y := 0) ?_
  refine gs_f ?_
  refine gs_f ?_
  rw [ptr_eql_nil ptr_disk]
  refine pick_fi ?_
  refine cndF ?_
  have s := (s.add (T := rO (.slice none 0 0) 22 1 [] 0) (.inl ⟨rfl, rfl, rfl⟩) (Ext.refl _ _) (by simp [rO, slB])).swap.noRows
  have hfor := firstB_or (DiskM.fresh n)
  have hp0 : posR ([] : List Bytes) ([] : List Bytes).length = 1 := rfl
  have hbd := beginD_all (D := DiskM.fresh n) (first := firstB (DiskM.fresh n)) (g := 1) (rs := []) (by show (-1 : Int) < 0; decide) (by show _ ≤ n; rw [hp0]; rcases hfor with h | h <;> rw [h] <;> (try show n / 2 + 1 ≤ n) <;> omega)
  have hbn : (beginD (DiskM.fresh n) (firstB (DiskM.fresh n)) 1 []).1.n = n := beginD_n _ _ 1 []
  have hz : roomB ((DiskM.fresh n).n / 2) [] = 0 := roomB_ok (by simp) (by show 1 ≤ n / 2; omega)
  have hist0 := fun v => hcalm.begun (i := 0) (first := firstB (DiskM.fresh n)) (rs := []) (p := p) (by decide) (by decide) (by show 4 ≤ n; omega) hfor (by simp) (by show 1 ≤ n / 2; omega) v (by rw [hhigh]; exact hbd)
  rw [hhigh] at hist0
  refine s.areaBegin (x := .slice none 0 0) (hs0 := []) (rs := []) 0 rfl (by simp) (by show 4 ≤ n; omega) (by show n ≤ 100000; omega) (by show 0 + n ≤ 100000; omega) (by decide) (by decide) (by rw [hhigh]; decide) (fun hne => absurd hz hne) (fun _ hb => ?_) (fun _ _ F1 a v1 hs1 w5 s => ?_)
  · rw [hhigh, hbd] at hb
    cases hb
  rw [hhigh] at s
  have hist0 := hist0 v1
  generalize firstB (DiskM.fresh n) = first at *
  have s : Sep [] w w5 (rA a ⟨p, first, n / 2, 1, 1, v1, false⟩ 120 :: rO v1 22 1 hs1 ([] : List Bytes).length :: rDk p F1 (beginD (DiskM.fresh n) first 1 []).1 :: rO (.slice none 0 0) 22 1 [] 0 :: []) (rL hs1 [] :: rL [] [] :: []) := s
  have hist0 : Hist (beginD (DiskM.fresh n) first 1 []).1 ⟨p, first, n / 2, 1, 1, v1, false⟩ [] 0 1 := hist0
  generalize (beginD (DiskM.fresh n) first 1 []).1 = D1 at *
  have s := s.drop 3
  rw [extr0, extr1]
  refine nneq (x := 0) (y := 0) ?_
  refine gs_f ?_
  refine gs_f ?_
  rw [ptr_eql_nil ptr_area]
  refine pick_fi ?_
  refine cndF ?_
  refine s.rows0 fun lv0 w6 s => ?_
  have s : Sep [] w w6 (rA a ⟨p, first, n / 2, 1, 1, v1, false⟩ 120 :: rO v1 22 1 hs1 ([] : List Bytes).length :: rDk p F1 D1 :: rO lv0 22 1 [] ([] : List Bytes).length :: []) (rL hs1 [] :: rL [] [] :: []) := s.toBack
  refine bindX_i fun J0 g0 => bindX_i fun J1 g1 => bindX_i fun J2 g2 => ?_
  obtain ⟨va, vc, hva⟩ := hv.rd.len
  have hvl : ∀ (w : World) (K : VPost), lenW Tryd.prog (some true) #[59] 3 #[v] w K = K (.int .i64 l.length) w := fun w K => by rw [hva, len_s]
  refine loop_i (fun m fr wr => ∃ (i a : Nat) (A : AreaH) (D : DiskM) (F : List Nat) (list : List Bytes) (sure : Nat) (hs hs2 : List Value) (lv : Value), m = l.length - i ∧ i ≤ l.length ∧ fr 1 = v ∧ fr 5 = ptrA p ∧ fr 7 = ptrA a ∧ fr 8 = lv ∧ fr 9 = .int .i64 sure ∧ fr 10 = .int .i64 i ∧ LastInv n p A D list sure i ∧
    Sep [] w wr (rA a A 120 :: rO A.recs 22 1 hs list.length :: rDk p F D :: rO lv 22 1 hs2 list.length :: []) (rL hs list :: rL hs2 list :: [])) l.length ?_ ?_
  · exact ⟨0, a, _, D1, F1, [], 0, hs1, [], lv0, rfl, by omega, rfl, rfl, rfl, rfl, rfl, rfl, ⟨hist0, rfl, hbn, Nat.le_refl _⟩, s⟩
  · rintro m fr wr J ⟨i, a, A, D, F, list, sure, hs, hs2, lv, rfl, hi, f1, f5, f7, f8, f9, f10, inv, s⟩ hJ hX
    rw [f1, hvl, f10]
    refine nlss (cond_d (fun hlt => ?_) (fun hlt => ?_))
    · refine bindX_i fun J3 g3 => bindX_i fun J4 g4 => ?_
      have hv' := hv.keep s.ext
      obtain ⟨b, o, cs, hix, hrb, hle, hcs⟩ := hv'.elem hlt .i64
      have hg := hv.good l[i] (List.getElem_mem hlt)
      have hgl := h3000 l[i] (List.getElem_mem hlt)
      refine hix _ ?_
      refine loadN hrb hle ?_
      rw [hcs]
      generalize l[i] = c at *
      refine s.alloc zero_callA rfl fun q w7 s _ => ?_
      refine s.storeAll (vs := callACells c) 0 rfl rfl rfl (by
        obtain ⟨xa, xc, hx⟩ := hg.rrd.len
        obtain ⟨ya, yc, hy⟩ := hg.prd.len
        intro y hy'
        simp only [callACells, List.mem_cons, List.not_mem_nil, or_false] at hy'
        rcases hy' with rfl | rfl | rfl | rfl
        · rfl
        · rfl
        · rw [hx]; rfl
        · rw [hy]; rfl) fun w8 s _ => ?_
      have s : Sep [] w w8 (rA a A 120 :: rO A.recs 22 1 hs list.length :: rDk p F D :: rO lv 22 1 hs2 list.length :: rB q (callACells c) 62 :: []) (rL hs list :: rL hs2 list :: []) := s.toBack
      obtain ⟨extra, H, F0, W, base, hx⟩ := inv.hist
      have hdisk := inv.disk
      have hdn := inv.dn
      have hfew := inv.few
      obtain ⟨x1, x2, x3, x4, x5, x6, x7, x8, x9, x10⟩ := hx.facts (by omega) (by omega)
      refine bindX_i fun J5 g5 => ?_
      -- behind each call
      have fin : ∀ (fr' : Fr) (wr' : World) (a' : Nat) (A' : AreaH) (D' : DiskM) (F' : List Nat) (list' : List Bytes) (sure' : Nat) (hs' hs2' : List Value) (lv' : Value), LastInv n p A' D' list' sure' (i + 1) →
          Sep [] w wr' (rA a' A' 120 :: rO A'.recs 22 1 hs' list'.length :: rDk p F' D' :: rO lv' 22 1 hs2' list'.length :: []) (rL hs' list' :: rL hs2' list' :: []) →
          fr' 1 = v → fr' 5 = ptrA p → fr' 7 = ptrA a' → fr' 8 = lv' → fr' 9 = .int .i64 sure' → fr' 10 = .int .i64 i → J5 .normal fr' wr' := by
        intro fr' wr' a' A' D' F' list' sure' hs' hs2' lv' inv' s k1 k5 k7 k8 k9 k10
        refine seq_n g5 ?_
        rw [k7, k8]
        obtain ⟨extra', H', F0', W', base', hx'⟩ := inv'.hist
        have hdn' := inv'.dn
        have hfew' := inv'.few
        obtain ⟨_, _, _, _, y5, _⟩ := hx'.facts (by omega) (by omega)
        refine s.areaRecords 0 rfl 1 rfl (by simp) (by omega) (fun r hr => Nat.le_trans (y5 r hr) (by decide)) fun vr hs3 w9 s => ?_
        have o1 : OwnAt w9 vr 22 1 hs3 list'.length := s.at 0 rfl
        have r1 : RowsL w9 hs3 list' := s.rd (rL hs3 list') (by simp)
        have o2 : OwnAt w9 lv' 22 1 hs2' list'.length := s.at 4 rfl
        have r2 : RowsL w9 hs2' list' := s.rd (rL hs2' list') (by simp)
        refine fnW_of (by kernel_rfl) (same_c (hs := hs3) (ls := list') (hs2 := hs2') (ls2 := list') ⟨by rw [r1.length]; exact o1.rd, r1⟩ ⟨by rw [r2.length]; exact o2.rd, r2⟩ (by omega) (fun r hr => Nat.le_trans (y5 r hr) (by decide)) fun w10 e10 => ?_)
        have s := (s.ext0 e10).drop 0
        rw [decide_eq_true rfl]
        refine not_ti ?_
        refine cndF ?_
        refine seq_n g3 ?_
        show binN _ _ _ _ (fr' 10) _ _ _
        rw [k10]
        refine nadd (y := 1) (by omega) ?_
        exact hJ (l.length - (i + 1)) _ _ (by omega) ⟨i + 1, a', A', D', F', list', sure', hs', hs2', lv', rfl, by omega, k1, k5, k7, k8, k9, rfl, inv', s.less (fun T hT => by simp [hT])⟩
      refine off_i ?_
      refine s.load1 4 rfl rfl ?_
      refine bindX_i fun J6 g6 => ?_
      rw [ieql]
      refine cond_d (fun h0 => ?_) (fun h0 => ?_)
      · refine off_i ?_
        refine s.load1 4 rfl rfl ?_
        have s := s.addBase (T := rR c.rv 1 (bc c.recB) c.recB.length) hg.rrd
        rw [f7, f8]
        rw [← hdisk] at s
        refine s.areaAdd (A := A) (r := c.recB) (rs := list) (hs := hs) (by simp) (by simp) x1 x2 x3 (by omega) (by omega) (by omega) (fun e he _ _ w9 s => ?_) (fun hnd hst hfi hb F2 w9 s => ?_) (fun hnd hst hfi hb F2 v2 r2 w9 s => ?_)
        · rw [hdisk] at s
          rw [ieql]
          refine cond_d (fun h => absurd h he) (fun _ => ?_)
          refine fin _ w9 a A D F list sure hs hs2 lv ⟨⟨extra, H, F0, W, base, hx.step⟩, hdisk, hdn, by omega⟩ ((s.drop 4).less (fun T hT => by simp [hT])) ?_ ?_ ?_ ?_ ?_ ?_
          · exact f1
          · exact f5
          · exact f7
          · exact f8
          · exact f9
          · exact f10
        · have s : Sep [] w w9 (rA a { A with stuck := true } 120 :: rO A.recs 22 1 hs list.length :: rDk p F2 (layD D (A.first + A.next) (packB A.gen A.next c.recB)).1 :: rO lv 22 1 hs2 list.length :: rB q (callACells c) 62 :: []) (rR c.rv 1 (bc c.recB) c.recB.length :: rL hs list :: rL hs2 list :: []) := by
            rw [← hdisk]; exact s
          rw [ieql]
          refine cond_d (fun h => absurd h (by decide)) (fun _ => ?_)
          refine fin _ w9 a { A with stuck := true } _ F2 list sure hs hs2 lv ⟨(hx.add hst hnd hfi).2 hb, hdisk, (layD_nA _ _ _).trans hdn, by omega⟩ ((s.drop 4).less (fun T hT => by simp [hT])) ?_ ?_ ?_ ?_ ?_ ?_
          · exact f1
          · exact f5
          · exact f7
          · exact f8
          · exact f9
          · exact f10
        · rw [ieql]
          refine cond_d (fun _ => ?_) (fun h => absurd rfl h)
          have hinv : LastInv n p { A with next := A.next + needN c.recB.length, recs := v2 } (layD D (A.first + A.next) (packB A.gen A.next c.recB)).1 (list ++ [c.recB]) sure (i + 1) := ⟨(hx.add hst hnd hfi).1 hb v2, hdisk, (layD_nA _ _ _).trans hdn, by rw [List.length_append, List.length_singleton]; omega⟩
          generalize (layD D (A.first + A.next) (packB A.gen A.next c.recB)).1 = D2 at *
          have s : Sep [] w w9 (rA a { A with next := A.next + needN c.recB.length, recs := v2 } 120 :: rO v2 22 1 (hs ++ [r2]) (list ++ [c.recB]).length :: rDk p F2 D2 :: rO lv 22 1 hs2 list.length :: rB q (callACells c) 62 :: []) (rL (hs ++ [r2]) (list ++ [c.recB]) :: rR c.rv 1 (bc c.recB) c.recB.length :: rL hs list :: rL hs2 list :: []) := by
            rw [← hdisk]; exact s
          refine off_i ?_
          refine s.load1 4 rfl rfl ?_
          have hrd : RdSl w9 c.rv 1 (bc c.recB) c.recB.length := s.rat 1 rfl
          refine fnW_of (by kernel_rfl) (copyBytes_c hrd (by omega) fun v4 w10 hv4 e4 hf4 => ?_)
          have s := s.add (T := rDb v4 c.recB) hv4.at e4 hf4
          obtain ⟨ra, rc, hra⟩ := hv4.at.rd.len
          subst hra
          refine s.litR fun vl w11 s => ?_
          refine s.apRow (v := lv) (hs := hs2) (n := list.length) 5 rfl (OwnAt.rd (s.at 0 rfl)) rfl (by omega) fun lv2 w12 s => ?_
          have s := s.drop 0
          have s := s.growR (hs := hs2) (ls := list) (by simp)
          have el : (list ++ [c.recB]).length = list.length + 1 := by simp
          have s : Sep [] w w12 (rA a { A with next := A.next + needN c.recB.length, recs := v2 } 120 :: rO v2 22 1 (hs ++ [r2]) (list ++ [c.recB]).length :: rDk p F2 D2 :: rO lv2 22 1 (hs2 ++ [.slice ra c.recB.length rc]) (list.length + 1) :: []) _ := s.drop 4
          rw [← el] at s
          refine fin _ w12 a _ D2 F2 (list ++ [c.recB]) sure (hs ++ [r2]) (hs2 ++ [.slice ra c.recB.length rc]) lv2 hinv (s.less (fun T hT => by
            simp only [List.mem_cons, List.not_mem_nil, or_false] at hT
            rcases hT with rfl | rfl <;> simp)) ?_ ?_ ?_ ?_ ?_ ?_
          · exact f1
          · exact f5
          · exact f7
          · exact rfl
          · exact f9
          · exact f10
      rw [ieql]
      refine cond_d (fun h1 => ?_) (fun h1 => ?_)
      · rw [f7, f8]
        rw [← hdisk] at s
        refine s.areaFlush (A := A) 2 rfl 0 rfl fun F2 w9 s => ?_
        rw [hdisk] at s
        have s : Sep [] w w9 (rA a A 120 :: rO A.recs 22 1 hs list.length :: rDk p F2 D.flush :: rO lv 22 1 hs2 list.length :: rB q (callACells c) 62 :: []) (rL hs list :: rL hs2 list :: []) := s
        refine nneq (x := 0) (y := 0) (cond_d (fun h => absurd rfl h) (fun _ => ?_))
        rw [(OwnAt.rd (s.at 3 rfl)).lenw]
        refine fin _ w9 a A D.flush F2 list list.length hs hs2 lv ⟨⟨extra, H, W, W, base, hx.flush.step⟩, hdisk, hdn, by omega⟩ (s.drop 4) ?_ ?_ ?_ ?_ ?_ ?_
        · exact f1
        · exact f5
        · exact f7
        · exact f8
        · exact rfl
        · exact f10
      rw [ieql]
      refine cond_d (fun h2 => ?_) (fun h2 => ?_)
      · have s := s.drew
        generalize w8.drew = w8 at *
        refine off_i ?_
        refine s.load1 (v := c.rv) 4 rfl rfl ?_
        have s := s.addBase (T := rR c.rv 1 (bc c.recB) c.recB.length) hg.rrd
        obtain ⟨xa, xc, hxv⟩ := hg.rrd.len
        refine bindV_i fun J7 hJ7 => ?_
        have hb : ∀ (x y : Value) (fr' : Fr) (w' : World) (hs3 : List Value), fr' 1 = v → fr' 5 = ptrA p → fr' 7 = ptrA a → fr' 8 = lv → fr' 9 = .int .i64 sure → fr' 10 = .int .i64 i →
            Sep [] w w' (rO x 22 1 hs3 list.length :: rO y 22 1 [c.rv] 1 :: rA a A 120 :: rO A.recs 22 1 hs list.length :: rDk p F D :: rO lv 22 1 hs2 list.length :: rB q (callACells c) 62 :: []) (rL hs3 list :: rR c.rv 1 (bc c.recB) c.recB.length :: rL hs list :: rL hs2 list :: []) → J7 x y fr' w' := by
          intro x y fr' w' hs3 k1 k5 k7 k8 k9 k10 s
          subst hJ7
          refine s.apRow (v := x) (hs := hs3) (n := list.length) 0 rfl (OwnAt.rd (s.at 1 rfl)) (by rw [hxv]; rfl) (by omega) fun va2 w9 s => ?_
          have s := s.growRd (hs := hs3) (ls := list) (v := c.rv) (l := c.recB) (U := rR c.rv 1 (bc c.recB) c.recB.length) (by simp) (s.rat 1 rfl) hg.rcap (by simp) (fun b hb => hb)
          have el : (list ++ [c.recB]).length = list.length + 1 := by simp
          have s : Sep [] w w9 (rDk p F D :: rO va2 22 1 (hs3 ++ [c.rv]) (list.length + 1) :: rA a A 120 :: rO A.recs 22 1 hs list.length :: rO lv 22 1 hs2 list.length :: rB q (callACells c) 62 :: []) (rL (hs3 ++ [c.rv]) (list ++ [c.recB]) :: rL hs3 list :: rR c.rv 1 (bc c.recB) c.recB.length :: rL hs list :: rL hs2 list :: []) := (s.drop 1).toFront 3 rfl
          rw [← el] at s
          rw [k5]
          have hseen := hx.seen (by omega)
          have hfb : firstB D = A.size - A.first := by
            unfold firstB
            rw [hseen]
            show (if A.first = 0 then D.n / 2 else 0) = _
            split <;> omega
          have hgen := hx.calm.gen x10
          have hps := posR_snoc list c.recB
          have hn45 : needN c.recB.length ≤ 45 := by unfold needN; split <;> omega
          have hnx := hx.next
          refine s.areaBegin (x := va2) (hs0 := hs3 ++ [c.rv]) (rs := list ++ [c.recB]) 0 rfl (by simp) (by omega) (by omega) (by omega) (by omega) (by omega) (by omega) (fun hne w10 s => ?_) (fun hz hbg F2 w10 s => ?_) (fun hz hbg F2 c2 v2 hs4 w10 s => ?_)
          · rw [extr0, extr1, ieql]
            refine cond_d (fun h => absurd h hne) (fun _ => ?_)
            have s : Sep [] w w10 (rA a A 120 :: rO A.recs 22 1 hs list.length :: rDk p F D :: rO lv 22 1 hs2 list.length :: rB q (callACells c) 62 :: []) _ := ((s.drop 1).toFront 2 rfl).toFront 2 rfl
            refine fin _ w10 a A D F list sure hs hs2 lv ⟨⟨extra, H, F0, W, base, hx.step⟩, hdisk, hdn, by omega⟩ ((s.drop 4).less (fun T hT => by
              simp only [List.mem_cons, List.not_mem_nil, or_false] at hT
              rcases hT with rfl | rfl <;> simp)) ?_ ?_ ?_ ?_ ?_ ?_
            · exact k1
            · exact k5
            · exact k7
            · exact k8
            · exact k9
            · exact k10
          · rw [extr0, extr1, ieql]
            refine cond_d (fun h => absurd h (by decide)) (fun _ => ?_)
            obtain ⟨z1, z2⟩ := roomB_zero hz
            have hrl : (rowsB (highB (secsOf D.seen 0 D.n) + 1) 1 (list ++ [c.recB])).length ≤ 90 := by
              have := areaOf_length (highB (secsOf D.seen 0 D.n) + 1) 0 (list ++ [c.recB])
              rw [areaOf, areaX, List.length_cons] at this
              omega
            have hdn2 := beginD_n D (firstB D) (highB (secsOf D.seen 0 D.n) + 1) (list ++ [c.recB])
            have hi3 : Hist (beginD D (firstB D) (highB (secsOf D.seen 0 D.n) + 1) (list ++ [c.recB])).1 A list sure (i + 1 + 1) := by
              rw [hfb] at hbg ⊢
              exact hx.failed (by omega) z2 (by omega) hbg hrl
            generalize (beginD D (firstB D) (highB (secsOf D.seen 0 D.n) + 1) (list ++ [c.recB])).1 = D2 at *
            have s : Sep [] w w10 (rA a A 120 :: rO A.recs 22 1 hs list.length :: rDk p F2 D2 :: rO lv 22 1 hs2 list.length :: rB q (callACells c) 62 :: []) _ := ((s.drop 1).toFront 2 rfl).toFront 2 rfl
            refine fin _ w10 a A D2 F2 list sure hs hs2 lv ⟨hi3, hdisk, by omega, by omega⟩ ((s.drop 4).less (fun T hT => by
              simp only [List.mem_cons, List.not_mem_nil, or_false] at hT
              rcases hT with rfl | rfl <;> simp)) ?_ ?_ ?_ ?_ ?_ ?_
            · exact k1
            · exact k5
            · exact k7
            · exact k8
            · exact k9
            · exact k10
          · rw [extr0, extr1, ieql]
            refine cond_d (fun _ => ?_) (fun h => absurd rfl h)
            obtain ⟨z1, z2⟩ := roomB_zero hz
            have hdn2 := beginD_n D (firstB D) (highB (secsOf D.seen 0 D.n) + 1) (list ++ [c.recB])
            have hi3 := hx.calm.begun (p := p) (i := i + 1) hx.Hi (by omega) (by omega) (firstB_or D) (fun r hr => by
              rcases Nat.lt_or_ge 2000 r.length with h1 | h1
              · exact absurd (need_zero.2 h1) (z1 r hr)
              · exact h1) z2 v2 hbg
            generalize (beginD D (firstB D) (highB (secsOf D.seen 0 D.n) + 1) (list ++ [c.recB])).1 = D2 at *
            have s : Sep [] w w10 (rA c2 ⟨p, firstB D, D.n / 2, highB (secsOf D.seen 0 D.n) + 1, posR (list ++ [c.recB]) (list ++ [c.recB]).length, v2, false⟩ 120 :: rO v2 22 1 hs4 (list ++ [c.recB]).length :: rDk p F2 D2 :: rO va2 22 1 (hs3 ++ [c.rv]) (list ++ [c.recB]).length :: []) (rL hs4 (list ++ [c.recB]) :: rL (hs3 ++ [c.rv]) (list ++ [c.recB]) :: _) := (((s.drop 4).drop 4).drop 4).drop 4
            rw [(OwnAt.rd (s.at 3 rfl)).lenw]
            refine fin _ w10 c2 _ D2 F2 (list ++ [c.recB]) (list ++ [c.recB]).length hs4 (hs3 ++ [c.rv]) va2 ⟨hi3, rfl, by omega, by omega⟩ (s.less (fun T hT => by
              simp only [List.mem_cons, List.not_mem_nil, or_false] at hT
              rcases hT with rfl | rfl <;> simp)) ?_ ?_ ?_ ?_ ?_ ?_
            · exact k1
            · exact k5
            · exact rfl
            · exact rfl
            · exact rfl
            · exact k10
        rw [f7]
        refine ⟨?_, ?_⟩
        · refine s.areaRecords 0 rfl 1 rfl (by simp) (by omega) (fun r hr => Nat.le_trans (x5 r hr) (by decide)) fun vx hs3 w9 s => ?_
          refine ⟨s.load1 5 rfl rfl ⟨rfl, rfl⟩, ?_⟩
          refine s.litRv hxv fun vl w10 s => ?_
          refine hb vx vl _ w10 hs3 ?_ ?_ ?_ ?_ ?_ ?_ s.swap
          · exact f1
          · exact f5
          · exact f7
          · exact f8
          · exact f9
          · exact f10
        · refine s.litRv hxv fun vl w9 s => ?_
          refine s.areaRecords 1 rfl 2 rfl (by simp) (by omega) (fun r hr => Nat.le_trans (x5 r hr) (by decide)) fun vx hs3 w10 s => ?_
          refine ⟨s.load1 6 rfl rfl ⟨rfl, rfl⟩, ?_⟩
          refine hb vx vl _ w10 hs3 ?_ ?_ ?_ ?_ ?_ ?_ s
          · exact f1
          · exact f5
          · exact f7
          · exact f8
          · exact f9
          · exact f10
      rw [ieql]
      refine cond_d (fun h3 => ?_) (fun h3 => ?_)
      · refine off_i ?_
        refine s.load1 4 rfl rfl ?_
        rw [f5]
        refine s.dlimit 2 rfl c.n hg.num.2 fun F2 w9 s => ?_
        refine fin _ w9 a A (D.limit c.n) F2 list sure hs hs2 lv ⟨⟨extra, H, F0, W, base, (hx.limit c.n hg.num.2).step⟩, hdisk, hdn, by omega⟩ (s.drop 4) ?_ ?_ ?_ ?_ ?_ ?_
        · exact f1
        · exact f5
        · exact f7
        · exact f8
        · exact f9
        · exact f10
      rw [ieql]
      refine cond_d (fun h4 => ?_) (fun h4 => ?_)
      · refine off_i ?_
        refine s.load1 (v := c.pv) 4 rfl rfl ?_
        have s := s.addBase (T := rR c.pv 1 (bc c.picks) c.picks.length) hg.prd
        rw [f5, f8, f9]
        refine s.dcrash 2 rfl c.picks (by simp) (by omega) fun e2 F2 w9 s => ?_
        have s : Sep [] w w9 (rA a A 120 :: rO A.recs 22 1 hs list.length :: rDk p F2 (D.crash c.picks) :: rO lv 22 1 hs2 list.length :: rB q (callACells c) 62 :: []) (rR c.pv 1 (bc c.picks) c.picks.length :: rL hs list :: rL hs2 list :: []) := s
        obtain ⟨m, m1, m2, hcur⟩ := hx.crash (by omega) c.picks
        have hcalm2 := hx.calm.crash x10 c.picks
        have hcn : (D.crash c.picks).n = D.n := rfl
        have hcl : (D.crash c.picks).left = -1 := rfl
        have hcp : (D.crash c.picks).pend.length = 0 := rfl
        have hnx := hx.next
        have hpm := posR_mono list m2
        have hpt := posR_take list m m2
        generalize D.crash c.picks = D2 at *
        rw [← hcn] at hcur
        refine s.areaOpen 2 rfl (by omega) (by omega) (fun hn => by rw [hcur] at hn; cases hn) (fun B hB o2 v2 hs3 w10 s => ?_)
        rw [hcur] at hB
        obtain rfl := Option.some.inj hB
        have s : Sep [] w w10 (rA o2 ⟨p, A.first, A.size, A.gen, posR list m, v2, true⟩ 120 :: rO v2 22 1 hs3 (list.take m).length :: rA a A 120 :: rO A.recs 22 1 hs list.length :: rDk p F2 D2 :: rO lv 22 1 hs2 list.length :: rB q (callACells c) 62 :: []) (rL hs3 (list.take m) :: rR c.pv 1 (bc c.picks) c.picks.length :: rL hs list :: rL hs2 list :: []) := s
        rw [extr0, extr1]
        refine nneq (x := 0) (y := 0) ?_
        refine gs_f ?_
        refine gs_f ?_
        rw [ptr_eql_nil ptr_area]
        refine pick_fi ?_
        refine cndF ?_
        have hml : (list.take m).length = m := by rw [List.length_take]; omega
        have heach : ∀ r ∈ list.take m, r.length ≤ 2000 := fun r hr => x5 r (List.mem_of_mem_take hr)
        refine s.areaRecords 0 rfl 1 rfl (by simp) (by omega) (fun r hr => Nat.le_trans (heach r hr) (by decide)) fun vl hs4 w11 s => ?_
        have o1 : OwnAt w11 vl 22 1 hs4 (list.take m).length := s.at 0 rfl
        have r1 : RowsL w11 hs4 (list.take m) := s.rd (rL hs4 (list.take m)) (by simp)
        have o2' : OwnAt w11 lv 22 1 hs2 list.length := s.at 6 rfl
        have r2 : RowsL w11 hs2 list := s.rd (rL hs2 list) (by simp)
        refine fnW_of (by kernel_rfl) (beginning_c (hs := hs4) (ls := list.take m) (hs2 := hs2) (ls2 := list) ⟨by rw [r1.length]; exact o1.rd, r1⟩ ⟨by rw [r2.length]; exact o2'.rd, r2⟩ o2'.cap (by omega) (fun r hr => Nat.le_trans (heach r hr) (by decide)) (by omega) (by omega) (by rw [hml]) fun w12 e12 => ?_)
        have s := s.ext0 e12
        refine not_ti ?_
        refine cndF ?_
        have s : Sep [] w w12 (rDk p F2 D2 :: rO vl 22 1 hs4 (list.take m).length :: rO lv 22 1 hs2 list.length :: rB q (callACells c) 62 :: []) (rL hs4 (list.take m) :: rL hs3 (list.take m) :: rR c.pv 1 (bc c.picks) c.picks.length :: rL hs list :: rL hs2 list :: []) := ((((s.drop 1).drop 1).drop 1).drop 1).toFront 1 rfl
        have hgen := hcalm2.gen x10
        have hfor2 := firstB_or D2
        have hz2 : roomB (D2.n / 2) (list.take m) = 0 := roomB_ok heach (by omega)
        have hbd2 := beginD_all (D := D2) (first := firstB D2) (g := highB (secsOf D2.seen 0 D2.n) + 1) (rs := list.take m) (by omega) (by omega)
        refine s.areaBegin (x := vl) (hs0 := hs4) (rs := list.take m) 0 rfl (by simp) (by omega) (by omega) (by omega) (by omega) (by omega) (by omega) (fun hne => absurd hz2 hne) (fun _ hbg => by rw [hbd2] at hbg; cases hbg) (fun _ hbg F3 c2 v3 hs5 w13 s => ?_)
        rw [extr0, extr1]
        refine nneq (x := 0) (y := 0) (cond_d (fun h => absurd rfl h) (fun _ => ?_))
        have hdn2 := beginD_n D2 (firstB D2) (highB (secsOf D2.seen 0 D2.n) + 1) (list.take m)
        have hi3 := hcalm2.begun (p := p) (i := i + 1) hx.Hi (by omega) (by omega) hfor2 heach (by omega) v3 hbg
        generalize (beginD D2 (firstB D2) (highB (secsOf D2.seen 0 D2.n) + 1) (list.take m)).1 = D3 at *
        have s : Sep [] w w13 (rA c2 ⟨p, firstB D2, D2.n / 2, highB (secsOf D2.seen 0 D2.n) + 1, posR (list.take m) (list.take m).length, v3, false⟩ 120 :: rO v3 22 1 hs5 (list.take m).length :: rDk p F3 D3 :: rO vl 22 1 hs4 (list.take m).length :: []) (rL hs5 (list.take m) :: rL hs4 (list.take m) :: _) := (s.drop 4).drop 4
        rw [(OwnAt.rd (s.at 3 rfl)).lenw]
        refine fin _ w13 c2 _ D3 F3 (list.take m) (list.take m).length hs5 hs4 vl ⟨hi3, rfl, by omega, by omega⟩ (s.less (fun T hT => by
          simp only [List.mem_cons, List.not_mem_nil, or_false] at hT
          rcases hT with rfl | rfl <;> simp)) ?_ ?_ ?_ ?_ ?_ ?_
        · exact f1
        · exact f5
        · exact rfl
        · exact rfl
        · exact rfl
        · exact f10
      refine fin _ w8 a A D F list sure hs hs2 lv ⟨⟨extra, H, F0, W, base, hx.step⟩, hdisk, hdn, by omega⟩ (s.drop 4) ?_ ?_ ?_ ?_ ?_ ?_
      · exact f1
      · exact f5
      · exact f7
      · exact f8
      · exact f9
      · exact f10
    · exact hX _ _ _ (by simp) (g2 _ _ _ (blk_x (seq_n g1 (hK wr s.ext))))
end Go.Proofs.YtedebapgmfnflaaDoor

/- The frame of a law whose row lists tables of the library's: the walk needs them not. And bytes, sectors that came in. -/
namespace Go.Proofs.YtedebapgmfnflaaDoor
open Go Go.ChangeShapes Go.WideShapes Go.ChangeAt Go.RowKit
set_option maxRecDepth 100000

theorem law_lifted_laid {H : Type} {enc : TypeId × Value → H} {laid : List (String × DataW Unit)} {os : Os} (started : os.Started) {fid : FuncId} {f : Func} {s : ChangeSpec} {dom : List PathCond} {b : TypeId} (hno : Tryd.checked.prog.inits.idxOf? fid = none) (hfn : Tryd.checked.prog.funcs[fid]? = some f)
    (hwit : ∃ (w : World) (tape : Tape) (i : Input), w.os = os ∧ (w.forCall tape i).Shaped Tryd.checked.prog ∧ i.vars = [] ∧ Input.okWide Tryd.checked.prog (w.forCall tape i) .any w.heap.size fid i ∧
      ((s.pre enc Tryd.checked.prog f dom false (w.forCall tape i).memory i.args ∧ laidMetH Tryd.prog laid (w.forCall tape i).memory) ∧ sizedMet enc Tryd.checked.prog f (OpenSpec.ofChange s) false (w.forCall tape i).memory i.args) ∧ ({} : Assume).holds Tryd.checked.prog (lone (Frame.enter Tryd.checked.prog fid i.args .normal) [] (w.forCall tape i)))
    (hv : s.vars = []) (hs : ∀ ds : List (DataW H), ds.length = f.params.toList.length → (s.fn H ds).results = [.lit (.bool true)] ∧ (s.fn H ds).args = ds ∧ (s.fn H ds).vars = [])
    (hts : f.params.toList.all (fun t => Tryd.prog.readableRec t && decide (t < Tryd.prog.types.size)) = true) (hr : f.resultTypes = #[b]) (hb : Tryd.prog.underlying b = some .bool)
    (hvt : s.plain.varTypes Tryd.checked.prog = [])
    (walk : ∀ (W : World) (base : Nat) (args : Array Value), args.toList.length = f.params.toList.length → (∀ (j : Nat) t v, f.params.toList[j]? = some t → args.toList[j]? = some v → Value.okWide Tryd.prog W .any base t v ∧ Came W t v) →
      Calls Tryd.prog fid args W fun e W' => e = .returned (.bool true) ∧ Ext [] W W') :
    ReturnsInHanded {} Tryd.checked os fid .any (fun w args => (s.pre enc Tryd.checked.prog f dom false w args ∧ laidMetH Tryd.prog laid w) ∧ sizedMet enc Tryd.checked.prog f (OpenSpec.ofChange s) false w args) (s.post enc Tryd.checked.prog f false true false false) := by
  refine returnsInHanded_of_change_and (C := Tryd.checked) (X := fun w _ => laidMetH Tryd.prog laid w) (fun _ _ _ hh h => h.of_heap hh) law_own started hno hfn hwit ?_
  intro W base args ds gs before hval hW _ hsz _ _
  have hW' := hW
  have hlt := fun x hx => DataW.Whole.lt hW x hx
  obtain ⟨p, q, hA, hV, rfl, hfz, hnd⟩ := hW
  have hgs : gs = [] ∧ q = [] := by
    rw [hv] at hV
    cases gs with
    | nil => exact ⟨rfl, hV⟩
    | cons g gs => exact hV.elim
  obtain ⟨rfl, rfl⟩ := hgs
  rw [hvt, List.append_nil, List.append_nil] at hsz
  obtain ⟨c1, c2⟩ := came_all hA (fun n hn => by simpa using List.all_eq_true.1 hsz n hn)
  refine (walk W base args c1 (fun j t v ht hv' => ⟨hval j t v (by simpa using ht) (by simpa using hv'), c2 j t v ht hv'⟩)).mono fun e W' ⟨he, hg⟩ => ?_
  subst he
  have hlen : ds.length = f.params.toList.length := by
    have : ∀ {ts : List TypeId} {vs : List Value} {ds : List (DataW H)} {ps : List MemPlace}, DataW.TrodAll enc Tryd.prog W 0 (fun _ => true) true ts vs ds ps → ds.length = ts.length := by
      intro ts
      induction ts with
      | nil => intro vs ds ps h; cases vs <;> cases ds <;> first | rfl | exact h.elim
      | cons t ts ih =>
        intro vs ds ps h
        cases vs with
        | nil => exact h.elim
        | cons v vs => cases ds with
          | nil => exact h.elim
          | cons d ds =>
            obtain ⟨p, q, _, h2, _⟩ := h
            simp [ih h2]
    exact this hA
  obtain ⟨s1, s2, s3⟩ := hs (ds ++ []) (by simpa using hlen)
  refine ⟨_, rfl, ds, [], p ++ [], [], p, [], hW', ?_, ?_, ?_, (Ext.below hg).frame _, fun h => by cases h⟩
  · rw [s1, hr]
    exact trodAll_mk1 (shut_bool hb _)
  · rw [s2, List.append_nil]
    exact trodAll_keeps law_laid (Ext.below hg) hts hA (fun x hx => hlt x (by simpa using hx))
  · rw [s3, hv]
    rfl


abbrev theLaid : List (String × DataW Unit) := Rows.sealChangedRow.laid
theorem door_os (os : Os) : (World.laidAll Tryd.prog os theLaid).os = os := World.laidAll_os _ _ _
theorem door_shape (os : Os) : (World.laidAll Tryd.prog os theLaid).Shaped Tryd.prog := World.shaped_of_ZipB (by kernel_rfl) (by kernel_rfl)
theorem door_met (os : Os) (args : Array Value) : laidMetH Tryd.prog theLaid ((World.laidAll Tryd.prog os theLaid).forCall (fun _ _ => 0) ⟨#[], args, []⟩).memory := by
  rw [MakeChecks.laidMetH_plain _ _ _ (by kernel_rfl)]
  exact laidMet_laidAll _ (by kernel_rfl) (by kernel_rfl)

theorem open_block {W : World} {base : Nat} {v : Value} (h : Value.okWide Tryd.prog W .any base 37 v ∧ Came W 37 v) : ∃ l : Bytes, v = .agg (bc l).toArray ∧ l.length = 64 := by
  obtain ⟨h1, H, enc, fuel, x, h2, h3⟩ := h
  have hu : Tryd.prog.underlying 37 = some (.array 64 5) := by kernel_rfl
  unfold Value.okWide at h1
  rw [hu] at h1
  obtain ⟨cs, rfl, _, _⟩ := h1
  obtain ⟨l, h4, h5⟩ := trod_arr hu (by kernel_rfl) (by kernel_rfl) (by kernel_rfl) h2
  refine ⟨l, ?_, h5⟩
  have : cs.toList = bc l := h4
  rw [← this]
theorem open_blocks {W : World} {base : Nat} {v : Value} (h : Value.okWide Tryd.prog W .any base 23 v ∧ Came W 23 v) : ∃ l : List Bytes, RdSl W v 64 (l.flatMap bc) l.length ∧ (∀ x ∈ l, x.length = 64) ∧ capOk v ∧ l.length ≤ 140737488351232 := by
  obtain ⟨h1, H, enc, fuel, x, h2, h3⟩ := h
  rw [open_sl (by kernel_rfl : Tryd.prog.underlying 23 = some (.slice 37)) h1] at h2
  exact trod_arrs (by kernel_rfl) (by kernel_rfl : Tryd.prog.underlying 37 = some (.array 64 5)) (by decide) (by kernel_rfl) (by kernel_rfl) (by kernel_rfl) (by kernel_rfl) h2 h3
theorem open_bool {W : World} {base : Nat} {v : Value} (h : Value.okWide Tryd.prog W .any base 4 v ∧ Came W 4 v) : ∃ b, v = .bool b := by
  obtain ⟨b, rfl⟩ := okWide_bool (by kernel_rfl : Tryd.prog.underlying 4 = some .bool) h.1
  exact ⟨b, rfl⟩
theorem args6 {args : Array Value} (h : args.toList.length = 6) : ∃ a b c d e f, args = #[a, b, c, d, e, f] := by
  obtain ⟨l⟩ := args
  match l, h with
  | [a, b, c, d, e, f], _ => exact ⟨a, b, c, d, e, f, rfl⟩
theorem args7 {args : Array Value} (h : args.toList.length = 7) : ∃ a b c d e f g, args = #[a, b, c, d, e, f, g] := by
  obtain ⟨l⟩ := args
  match l, h with
  | [a, b, c, d, e, f, g], _ => exact ⟨a, b, c, d, e, f, g, rfl⟩
end Go.Proofs.YtedebapgmfnflaaDoor
