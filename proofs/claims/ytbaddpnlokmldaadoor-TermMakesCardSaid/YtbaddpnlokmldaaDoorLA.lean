/- The frame of a law: from a walk that ends in 'true' and changes nothing old to the row's step; and what came in, read as cells. -/
import Derived.Test.YtbaddpnlokmldaaDoorSC
import Derived.ProofKit
import Derived.Carry
import Derived.SizedLaws
import Derived.ChangeMaps5
namespace Go.Proofs.YtbaddpnlokmldaaDoor
open Go Go.ChangeShapes Go.WideShapes Go.ChangeAt Go.RowKit
set_option maxRecDepth 100000

theorem law_own : ownKnob Tryd.prog.godebug = none := by kernel_rfl
theorem law_laid : laidOutB Tryd.prog = true := by kernel_rfl

section
variable {H : Type} {enc : TypeId × Value → H}

theorem trodAll_keeps {P : Program} (hl : laidOutB P = true) {W W' : World} (hb : Below W.heap.size W W') : ∀ {ts : List TypeId} {vs : List Value} {ds : List (DataW H)} {ps : List MemPlace}, ts.all (fun t => P.readableRec t && decide (t < P.types.size)) = true →
    DataW.TrodAll enc P W 0 (fun _ => true) true ts vs ds ps → (∀ x ∈ ps, x.block < W.heap.size) → DataW.TrodAll enc P W' 0 (fun b => decide (b < W.heap.size)) true ts vs ds ps := by
  intro ts
  induction ts with
  | nil =>
    intro vs ds ps _ h _
    cases vs <;> cases ds <;> first | exact h | exact h.elim
  | cons t ts ih =>
    intro vs ds ps hts h hlt
    cases vs with
    | nil => exact h.elim
    | cons v vs =>
      cases ds with
      | nil => exact h.elim
      | cons d ds =>
        obtain ⟨p, q, h1, h2, rfl⟩ := h
        simp only [List.all_cons, Bool.and_eq_true, decide_eq_true_eq] at hts
        exact ⟨p, q, Below.trod hl hts.1.1 hts.1.2 h1 hb (fun x hx => hlt x (List.mem_append_left _ hx)), ih hts.2 h2 (fun x hx => hlt x (List.mem_append_right _ hx)), rfl⟩

/-- All that a datum takes lies within the reach. -/
def fitsD (P : Program) (t : TypeId) (d : DataW H) : Prop := ∀ n ∈ d.weights P t, n ≤ reachBytes

theorem weightsAll_mem {P : Program} {e : TypeId} : ∀ {l : List (DataW H)} {d : DataW H} {n : Nat}, d ∈ l → n ∈ d.weights P e → n ∈ DataW.weightsAll P e l := by
  intro l
  induction l with
  | nil => intro d n h; cases h
  | cons a r ih =>
    intro d n h hn
    simp only [DataW.weightsAll, List.mem_append]
    rcases List.mem_cons.1 h with rfl | h
    · exact .inl hn
    · exact .inr (ih h hn)
theorem weightsEach_mem {P : Program} : ∀ {ts : List TypeId} {l : List (DataW H)} {i : Nat} {t : TypeId} {d : DataW H} {n : Nat}, ts[i]? = some t → l[i]? = some d → n ∈ d.weights P t → n ∈ DataW.weightsEach P ts l := by
  intro ts
  induction ts with
  | nil => intro l i t d n h; simp at h
  | cons t0 ts ih =>
    intro l i t d n h1 h2 hn
    cases l with
    | nil => simp at h2
    | cons a r =>
      simp only [DataW.weightsEach, List.mem_append]
      cases i with
      | zero => simp at h1 h2; subst h1; subst h2; exact .inl hn
      | succ i => exact .inr (ih (by simpa using h1) (by simpa using h2) hn)
theorem fits_slice {P : Program} {t e : TypeId} {el spr : List (DataW H)} (hu : P.underlying t = some (.slice e)) (h : fitsD P t (.slice el spr)) : (el.length + spr.length) * P.bytesOf e ≤ reachBytes ∧ ∀ d ∈ el, fitsD P e d := by
  unfold fitsD at h
  simp only [DataW.weights, hu] at h
  exact ⟨h _ List.mem_cons_self, fun d hd n hn => h n (List.mem_cons_of_mem _ (List.mem_append_left _ (weightsAll_mem hd hn)))⟩
theorem fits_struct {P : Program} {t : TypeId} {fs : Array Field} {parts : List (DataW H)} (hu : P.underlying t = some (.struct fs)) (h : fitsD P t (.agg parts)) {i : Nat} {te : TypeId} {d : DataW H} (h1 : (fs.toList.map (·.type))[i]? = some te) (h2 : parts[i]? = some d) : fitsD P te d := by
  unfold fitsD at h
  simp only [DataW.weights, hu] at h
  exact fun n hn => h n (weightsEach_mem h1 h2 hn)
theorem fits_array {P : Program} {t e : TypeId} {n : Nat} {parts : List (DataW H)} (hu : P.underlying t = some (.array n e)) (h : fitsD P t (.agg parts)) {d : DataW H} (hd : d ∈ parts) : fitsD P e d := by
  unfold fitsD at h
  simp only [DataW.weights, hu] at h
  exact fun n hn => h n (weightsAll_mem hd hn)

/-- A value that came in. -/
def Came (W : World) (t : TypeId) (v : Value) : Prop := ∃ (H : Type) (enc : TypeId × Value → H) (fuel : Nat) (x : DataW H × List MemPlace), DataW.trod enc Tryd.prog W 0 (fun _ => true) true fuel t v.cells.toList = some x ∧ fitsD Tryd.prog t x.1

theorem came_all {W : World} : ∀ {ts : List TypeId} {vs : List Value} {ds : List (DataW H)} {ps : List MemPlace}, DataW.TrodAll enc Tryd.prog W 0 (fun _ => true) true ts vs ds ps → (∀ n ∈ DataW.weightsEach Tryd.prog ts ds, n ≤ reachBytes) →
    vs.length = ts.length ∧ ∀ (j : Nat) t v, ts[j]? = some t → vs[j]? = some v → Came W t v := by
  intro ts
  induction ts with
  | nil => intro vs ds ps h _; cases vs <;> cases ds <;> first | exact ⟨rfl, by simp⟩ | exact h.elim
  | cons t ts ih =>
    intro vs ds ps h hw
    cases vs with
    | nil => exact h.elim
    | cons v vs => cases ds with
      | nil => exact h.elim
      | cons d ds =>
        obtain ⟨p, q, ⟨fuel, h1⟩, h2, _⟩ := h
        simp only [DataW.weightsEach, List.mem_append] at hw
        obtain ⟨i1, i2⟩ := ih h2 (fun n hn => hw n (.inr hn))
        refine ⟨by simp [i1], fun j t' v' ht hv => ?_⟩
        cases j with
        | zero =>
          simp at ht hv
          subst ht; subst hv
          exact ⟨H, enc, fuel, (d, p), h1, fun n hn => hw n (.inl hn)⟩
        | succ j => exact i2 j t' v' (by simpa using ht) (by simpa using hv)

theorem law_lifted {os : Os} (started : os.Started) {fid : FuncId} {f : Func} {s : ChangeSpec} {dom : List PathCond} {b : TypeId} (hno : Tryd.checked.prog.inits.idxOf? fid = none) (hfn : Tryd.checked.prog.funcs[fid]? = some f)
    (hwit : ∃ (w : World) (tape : Tape) (i : Input), w.os = os ∧ (w.forCall tape i).Shaped Tryd.checked.prog ∧ i.vars = [] ∧ Input.okWide Tryd.checked.prog (w.forCall tape i) .any w.heap.size fid i ∧
      s.pre6 enc Tryd.checked.prog f dom false (w.forCall tape i).memory i.args ∧ ({} : Assume).holds Tryd.checked.prog (lone (Frame.enter Tryd.checked.prog fid i.args .normal) [] (w.forCall tape i)))
    (hv : s.vars = []) (hs : ∀ ds : List (DataW H), ds.length = f.params.toList.length → (s.fn H ds).results = [.lit (.bool true)] ∧ (s.fn H ds).args = ds ∧ (s.fn H ds).vars = [])
    (hts : f.params.toList.all (fun t => Tryd.prog.readableRec t && decide (t < Tryd.prog.types.size)) = true) (hr : f.resultTypes = #[b]) (hb : Tryd.prog.underlying b = some .bool)
    (hvt : s.plain.varTypes Tryd.checked.prog = [])
    (walk : ∀ (W : World) (base : Nat) (args : Array Value), args.toList.length = f.params.toList.length → (∀ (j : Nat) t v, f.params.toList[j]? = some t → args.toList[j]? = some v → Value.okWide Tryd.prog W .any base t v ∧ Came W t v) →
      Calls Tryd.prog fid args W fun e W' => e = .returned (.bool true) ∧ Ext [] W W') :
    ReturnsInHanded {} Tryd.checked os fid .any (s.pre6 enc Tryd.checked.prog f dom false) (s.post enc Tryd.checked.prog f false true false false) := by
  refine returnsInHanded_of_change_sized (C := Tryd.checked) law_own started hno hfn hwit ?_
  intro W base args ds gs before hval hW _ hsz _
  have hW' := hW
  have hlt := fun x hx => DataW.Whole.lt hW x hx
  obtain ⟨p, q, hA, hV, rfl, hfz, hnd⟩ := hW
  have hgs : gs = [] ∧ q = [] := by
    rw [hv] at hV
    cases gs with
    | nil => exact ⟨rfl, hV⟩
    | cons g gs => exact hV.elim
  obtain ⟨rfl, rfl⟩ := hgs
  rw [hvt, List.append_nil, List.append_nil] at hsz
  obtain ⟨c1, c2⟩ := came_all hA (fun n hn => by simpa using List.all_eq_true.1 hsz n hn)
  refine (walk W base args c1 (fun j t v ht hv' => ⟨hval j t v (by simpa using ht) (by simpa using hv'), c2 j t v ht hv'⟩)).mono fun e W' ⟨he, hg⟩ => ?_
  subst he
  have hlen : ds.length = f.params.toList.length := by
    have : ∀ {ts : List TypeId} {vs : List Value} {ds : List (DataW H)} {ps : List MemPlace}, DataW.TrodAll enc Tryd.prog W 0 (fun _ => true) true ts vs ds ps → ds.length = ts.length := by
      intro ts
      induction ts with
      | nil => intro vs ds ps h; cases vs <;> cases ds <;> first | rfl | exact h.elim
      | cons t ts ih =>
        intro vs ds ps h
        cases vs with
        | nil => exact h.elim
        | cons v vs => cases ds with
          | nil => exact h.elim
          | cons d ds =>
            obtain ⟨p, q, _, h2, _⟩ := h
            simp [ih h2]
    exact this hA
  obtain ⟨s1, s2, s3⟩ := hs (ds ++ []) (by simpa using hlen)
  refine ⟨_, rfl, ds, [], p ++ [], [], p, [], hW', ?_, ?_, ?_, (Ext.below hg).frame _, fun h => by cases h⟩
  · rw [s1, hr]
    exact trodAll_mk1 (shut_bool hb _)
  · rw [s2, List.append_nil]
    exact trodAll_keeps law_laid (Ext.below hg) hts hA (fun x hx => hlt x (by simpa using hx))
  · rw [s3, hv]
    rfl

/-! ### What came in, as cells -/
variable {P : Program} {w : World} {sp : Nat → Bool} {held : Bool}

theorem mapM_get {α β : Type} (f : α → Option β) : ∀ {l : List α} {r : List β}, l.mapM f = some r → ∀ x ∈ l, ∃ y, f x = some y := by
  intro l
  induction l with
  | nil => intro r _ x hx; cases hx
  | cons a l ih =>
    intro r h x hx
    rw [List.mapM_cons] at h
    simp only [bind, Option.bind_eq_some_iff, pure, Option.some.injEq] at h
    obtain ⟨y, hy, ys, hys, _⟩ := h
    rcases List.mem_cons.1 hx with rfl | hx
    · exact ⟨y, hy⟩
    · exact ih hys x hx

theorem mapM_range {α : Type} (f : Nat → Option α) {n : Nat} {r : List α} (h : (List.range n).mapM f = some r) : r.length = n ∧ ∀ i, i < n → ∃ x, f i = some x ∧ r[i]? = some x := by
  have gen : ∀ {l : List Nat} {r : List α}, l.mapM f = some r → r.length = l.length ∧ ∀ i, i < l.length → ∃ x, f (l.getD i 0) = some x ∧ r[i]? = some x := by
    intro l
    induction l with
    | nil => intro r h; simp at h; subst h; simp
    | cons a l ih =>
      intro r h
      rw [List.mapM_cons] at h
      simp only [bind, Option.bind_eq_some_iff, pure, Option.some.injEq] at h
      obtain ⟨y, hy, ys, hys, rfl⟩ := h
      obtain ⟨h1, h2⟩ := ih hys
      refine ⟨by simp [h1], fun i hi => ?_⟩
      cases i with
      | zero => exact ⟨y, by simpa using hy, rfl⟩
      | succ i => simpa using h2 i (by simpa using hi)
  obtain ⟨h1, h2⟩ := gen h
  rw [List.length_range] at h1
  refine ⟨h1, fun i hi => ?_⟩
  obtain ⟨x, hx, hr⟩ := h2 i (by simpa using hi)
  exact ⟨x, by simpa [List.getD_eq_getElem?_getD, hi] using hx, hr⟩

/-- Cells that are read one behind the other lie in one block. -/
theorem cells_blk {b o n : Nat} {sp : Option Nat} {cs : List Value} (h : w.cells? 0 ⟨b, o, sp⟩ n = some cs) (hn : 0 < n) :
    sp = none ∧ ∃ all t fz, w.heap[b]? = some (.cells all t fz) ∧ o + n ≤ all.size ∧ cs = (all.toList.drop o).take n := by
  unfold World.cells? at h
  rw [if_pos (Nat.zero_le _)] at h
  obtain ⟨hl, hg⟩ := mapM_range _ h
  obtain ⟨x0, hx0, _⟩ := hg 0 hn
  have hspot : sp = none := by
    unfold World.cell? at hx0
    split at hx0
    · split at hx0
      · cases hx0
      · rename_i hs
        simpa [Addr.add] using hs
    · cases hx0
  subst hspot
  refine ⟨rfl, ?_⟩
  have hc : ∀ i, i < n → ∃ all t fz, w.heap[b]? = some (.cells all t fz) ∧ ∃ x, all[o + i]? = some x ∧ cs[i]? = some x := by
    intro i hi
    obtain ⟨x, hx, hr⟩ := hg i hi
    rw [add_addr] at hx
    unfold World.cell? at hx
    split at hx
    · rename_i all t fz hb
      rw [if_neg (by simp)] at hx
      exact ⟨all, t, fz, hb, x, hx, hr⟩
    · cases hx
  obtain ⟨all, t, fz, hb, _⟩ := hc 0 hn
  have hc' : ∀ i, i < n → ∃ x, all[o + i]? = some x ∧ cs[i]? = some x := by
    intro i hi
    obtain ⟨all', t', fz', hb', h'⟩ := hc i hi
    rw [hb] at hb'
    simp only [Option.some.injEq, Obj.cells.injEq] at hb'
    obtain ⟨rfl, rfl, rfl⟩ := hb'
    exact h'
  have hsz : o + n ≤ all.size := by
    obtain ⟨x, hx, _⟩ := hc' (n - 1) (by omega)
    have := (Array.getElem?_eq_some_iff.1 hx).1
    omega
  refine ⟨all, t, fz, hb, hsz, ?_⟩
  apply List.ext_getElem?
  intro i
  by_cases hi : i < n
  · obtain ⟨x, hx, hr⟩ := hc' i hi
    rw [hr, List.getElem?_take, if_pos hi, List.getElem?_drop]
    simpa using hx.symm
  · rw [List.getElem?_eq_none (by omega), List.getElem?_take, if_neg hi]

/-- A slice that came in: its cells, and each element's own reading. -/
theorem trod_sl {t e : TypeId} {v : Value} {x : DataW H × List MemPlace} {fuel s : Nat} (hu : P.underlying t = some (.slice e)) (hs : P.cellsOf e = s) (hs0 : 0 < s) (h : DataW.trod enc P w 0 sp held fuel t [v] = some x) (hfit : fitsD P t x.1) :
    ∃ ys m, RdSl w v s ys m ∧ m * P.bytesOf e ≤ reachBytes ∧ ∀ i, i < m → ∃ y fuel', DataW.trod enc P w 0 sp held fuel' e ((ys.drop (i * s)).take s) = some y ∧ fitsD P e y.1 := by
  rcases DataW.trod_slice hu h with ⟨hc, _⟩ | ⟨a, len, cap, elems, rest, n, _, hc, hx, _, hl, hm, hlen, hel, _, _⟩
  · simp only [List.cons.injEq, and_true] at hc
    subst hc
    exact ⟨[], 0, ⟨by simp, .inl ⟨rfl, _, _, rfl⟩⟩, by rw [Nat.zero_mul]; exact Nat.zero_le _, fun i hi => absurd hi (Nat.not_lt_zero _)⟩
  · simp only [List.cons.injEq, and_true] at hc
    subst hc
    rw [hs] at hel
    rw [hx] at hfit
    obtain ⟨hf1, hf2⟩ := fits_slice hu hfit
    rw [List.length_map, List.length_map, hlen, Nat.add_mul] at hf1
    by_cases h0 : len = 0
    · subst h0
      exact ⟨[], 0, ⟨by simp, .inl ⟨rfl, _, _, rfl⟩⟩, by rw [Nat.zero_mul]; exact Nat.zero_le _, fun i hi => absurd hi (Nat.not_lt_zero _)⟩
    · have hget : ∀ i, i < len → ∃ cs y, w.cells? 0 (a.add (i * s)) s = some cs ∧ DataW.trod enc P w 0 sp held n e cs = some y ∧ fitsD P e y.1 := by
        intro i hi
        have := hel i hi
        rw [List.getElem?_eq_getElem (by omega), Option.bind_eq_some_iff] at this
        obtain ⟨cs, h1, h2⟩ := this
        exact ⟨cs, _, h1, h2, hf2 _ (List.mem_map_of_mem (List.getElem_mem _))⟩
      obtain ⟨b, o, spt⟩ := a
      obtain ⟨c0, y0, h1, h2⟩ := hget 0 (by omega)
      rw [Nat.zero_mul] at h1
      obtain ⟨rfl, all, ta, fz, hb, _, _⟩ := cells_blk (by simpa [Addr.add] using h1) hs0
      have hat : ∀ i, i < len → o + i * s + s ≤ all.size ∧ ∃ y, DataW.trod enc P w 0 sp held n e ((all.toList.drop (o + i * s)).take s) = some y ∧ fitsD P e y.1 := by
        intro i hi
        obtain ⟨cs, y, h1, h2⟩ := hget i hi
        rw [add_addr] at h1
        obtain ⟨_, all', ta', fz', hb', hle, rfl⟩ := cells_blk h1 hs0
        rw [hb] at hb'
        simp only [Option.some.injEq, Obj.cells.injEq] at hb'
        obtain ⟨rfl, rfl, rfl⟩ := hb'
        exact ⟨hle, y, h2⟩
      have hlast := (hat (len - 1) (by omega)).1
      have hmul : (len - 1) * s + s = len * s := by
        have : (len - 1) * s + 1 * s = (len - 1 + 1) * s := (Nat.add_mul _ _ _).symm
        rw [Nat.one_mul, Nat.sub_add_cancel (by omega)] at this
        exact this
      refine ⟨(all.toList.drop o).take (len * s), len, ⟨?_, .inr ⟨b, o, cap, all.toList, rfl, ⟨ta, fz, by simpa using hb⟩, rfl, by rw [Array.length_toList]; omega⟩⟩, by omega, fun i hi => ?_⟩
      · rw [List.length_take, List.length_drop, Array.length_toList]; omega
      · obtain ⟨_, y, hy⟩ := hat i hi
        refine ⟨y, n, ?_⟩
        have hi2 : i * s + s ≤ len * s := by
          have := Nat.mul_le_mul_right s (show i + 1 ≤ len from hi)
          rw [Nat.add_mul, Nat.one_mul] at this; exact this
        rw [List.drop_take, List.take_take, List.drop_drop, Nat.min_eq_left (by omega)]
        exact hy

theorem reach_eq : reachBytes = 140737488351232 := rfl

/-- Cells that read as bytes. -/
theorem cells_bytes : ∀ {cs : List Value}, (∀ y ∈ cs, ∃ n : Int, y = .int .u8 n ∧ (Lit.int .u8 n).wf = true) → ∃ l : Bytes, cs = bc l := by
  intro cs
  induction cs with
  | nil => intro _; exact ⟨[], rfl⟩
  | cons y r ih =>
    intro h
    obtain ⟨l, rfl⟩ := ih (fun z hz => h z (List.mem_cons_of_mem _ hz))
    obtain ⟨n, rfl, hn⟩ := h y List.mem_cons_self
    simp [Lit.wf] at hn
    have k1 : IntKind.u8.min = 0 := by decide
    have k2 : IntKind.u8.max = 255 := by decide
    rw [k1, k2] at hn
    refine ⟨UInt8.ofNat n.toNat :: l, ?_⟩
    simp only [bc, List.map_cons, List.cons.injEq, and_true, bv]
    congr 1
    have : (UInt8.ofNat n.toNat).toNat = n.toNat := by
      rw [UInt8.toNat_ofNat']
      omega
    rw [this]; omega

theorem mem_part {α : Type} {l : List α} {y : α} (h : y ∈ l) : ∃ i, i < l.length ∧ (l.drop i).take 1 = [y] := by
  obtain ⟨i, hi, rfl⟩ := List.mem_iff_getElem.1 h
  exact ⟨i, hi, by rw [← List.getElem_cons_drop hi]; rfl⟩

/-- Bytes that came in. -/
theorem trod_bytes {t e : TypeId} {v : Value} {x : DataW H × List MemPlace} {fuel : Nat} (hu : P.underlying t = some (.slice e)) (he : P.underlying e = some (.int .u8)) (hs : P.cellsOf e = 1) (hb : P.bytesOf e = 1) (h : DataW.trod enc P w 0 sp held fuel t [v] = some x) (hfit : fitsD P t x.1) :
    ∃ l : Bytes, RdSl w v 1 (bc l) l.length ∧ l.length ≤ 140737488351232 := by
  obtain ⟨ys, m, hrd, hm, hel⟩ := trod_sl hu hs (by decide) h hfit
  rw [hb, Nat.mul_one, reach_eq] at hm
  have hl := hrd.1
  rw [Nat.mul_one] at hl
  obtain ⟨l, rfl⟩ := cells_bytes (cs := ys) (by
    intro y hy
    obtain ⟨i, hi, hp⟩ := mem_part hy
    obtain ⟨z, f', hz, _⟩ := hel i (by omega)
    rw [Nat.mul_one, hp] at hz
    obtain ⟨n, h1, _, h2⟩ := DataW.trod_int he hz
    simp only [List.cons.injEq, and_true] at h1
    exact ⟨n, h1, h2⟩)
  rw [bc_length] at hl
  subst hl
  exact ⟨l, hrd, hm⟩

/-- An array of bytes that came in. -/
theorem trod_arr {t e : TypeId} {cs : List Value} {x : DataW H × List MemPlace} {fuel n : Nat} (hu : P.underlying t = some (.array n e)) (he : P.underlying e = some (.int .u8)) (hs : P.cellsOf e = 1) (hn : P.cellsOf t = n) (h : DataW.trod enc P w 0 sp held fuel t cs = some x) :
    ∃ l : Bytes, cs = bc l ∧ l.length = n := by
  cases fuel with
  | zero => simp [DataW.trod] at h
  | succ fuel =>
    unfold DataW.trod at h
    rw [hu] at h
    simp only [hn, hs, Nat.mul_one] at h
    split at h
    · rename_i hl
      rw [Option.map_eq_some_iff] at h
      obtain ⟨r, hr, _⟩ := h
      obtain ⟨_, hg⟩ := mapM_range _ hr
      obtain ⟨l, rfl⟩ := cells_bytes (cs := cs) (by
        intro y hy
        obtain ⟨i, hi, hp⟩ := mem_part hy
        obtain ⟨z, hz, _⟩ := hg i (by omega)
        rw [hp] at hz
        obtain ⟨n, h1, _, h2⟩ := DataW.trod_int he hz
        simp only [List.cons.injEq, and_true] at h1
        exact ⟨n, h1, h2⟩)
      exact ⟨l, rfl, by rw [← hl, bc_length]⟩
    · cases h
end

theorem open_sl {W : World} {base : Nat} {t e : TypeId} {v : Value} (hu : Tryd.prog.underlying t = some (.slice e)) (h : Value.okWide Tryd.prog W .any base t v) : v.cells.toList = [v] := by
  obtain ⟨a, n, c, rfl⟩ := okWide_slice hu h
  rfl
theorem open_i64 {W : World} {base : Nat} {v : Value} (h : Value.okWide Tryd.prog W .any base 3 v ∧ Came W 3 v) : ∃ n, v = .int .i64 n ∧ i64ok n := by
  obtain ⟨h1, H, enc, fuel, x, h2, h3⟩ := h
  obtain ⟨n, rfl, _, _, hw⟩ := open_int (by kernel_rfl : Tryd.prog.underlying 3 = some (.int .i64)) h1 ⟨fuel, h2⟩
  exact ⟨n, rfl, wf_i64 hw⟩
theorem law_ret {W : World} (e : Ending) (W' : World) (h : retK (fun v W' => v = .bool true ∧ Ext [] W W') e W') : e = .returned (.bool true) ∧ Ext [] W W' := by
  cases e <;> first | exact h.elim | (obtain ⟨rfl, h⟩ := h; exact ⟨rfl, h⟩)
theorem args3 {args : Array Value} (h : args.toList.length = 3) : ∃ a b c, args = #[a, b, c] := by
  obtain ⟨l⟩ := args
  match l, h with
  | [a, b, c], _ => exact ⟨a, b, c, rfl⟩
theorem args2 {args : Array Value} (h : args.toList.length = 2) : ∃ a b, args = #[a, b] := by
  obtain ⟨l⟩ := args
  match l, h with
  | [a, b], _ => exact ⟨a, b, rfl⟩
theorem args1 {args : Array Value} (h : args.toList.length = 1) : ∃ a, args = #[a] := by
  obtain ⟨l⟩ := args
  match l, h with
  | [a], _ => exact ⟨a, rfl⟩
theorem args4 {args : Array Value} (h : args.toList.length = 4) : ∃ a b c d, args = #[a, b, c, d] := by
  obtain ⟨l⟩ := args
  match l, h with
  | [a, b, c, d], _ => exact ⟨a, b, c, d, rfl⟩

section
variable {H : Type} {enc : TypeId × Value → H} {P : Program} {w : World} {sp : Nat → Bool} {held : Bool}

theorem trod_cap {t e : TypeId} {v : Value} {x : DataW H × List MemPlace} {fuel : Nat} (hu : P.underlying t = some (.slice e)) (h : DataW.trod enc P w 0 sp held fuel t [v] = some x) : capOk v := by
  rcases DataW.trod_slice hu h with ⟨hc, _⟩ | ⟨a, len, cap, elems, rest, n, _, hc, _, _, hl, _⟩
  · simp only [List.cons.injEq, and_true] at hc
    subst hc; rfl
  · simp only [List.cons.injEq, and_true] at hc
    subst hc; exact hl
theorem rows_of {ys : List Value} (h : ∀ y ∈ ys, ∃ l : Bytes, (RdSl w y 1 (bc l) l.length ∧ capOk y) ∧ l.length ≤ 140737488351232) : ∃ ls : List Bytes, RowsL w ys ls ∧ ∀ l ∈ ls, l.length ≤ 140737488351232 := by
  induction ys with
  | nil => exact ⟨[], trivial, by simp⟩
  | cons y r ih =>
    obtain ⟨ls, h1, h2⟩ := ih (fun z hz => h z (List.mem_cons_of_mem _ hz))
    obtain ⟨l, h3, h4⟩ := h y List.mem_cons_self
    exact ⟨l :: ls, ⟨h3, h1⟩, by
      intro x hx
      rcases List.mem_cons.1 hx with rfl | hx
      · exact h4
      · exact h2 x hx⟩
/-- Rows of bytes that came in. -/
theorem trod_rows {t e u : TypeId} {v : Value} {x : DataW H × List MemPlace} {fuel : Nat} (hu : P.underlying t = some (.slice e)) (hs : P.cellsOf e = 1) (hb : P.bytesOf e = 24) (he : P.underlying e = some (.slice u)) (hub : P.underlying u = some (.int .u8)) (hus : P.cellsOf u = 1) (huby : P.bytesOf u = 1)
    (h : DataW.trod enc P w 0 sp held fuel t [v] = some x) (hfit : fitsD P t x.1) : ∃ hs ls, RowsR w v hs ls ∧ capOk v ∧ ls.length ≤ 2 ^ 44 ∧ ∀ l ∈ ls, l.length ≤ 140737488351232 := by
  obtain ⟨ys, m, hrd, hm, hel⟩ := trod_sl hu hs (by decide) h hfit
  have hl := hrd.1
  rw [Nat.mul_one] at hl
  obtain ⟨ls, h1, h2⟩ := rows_of (w := w) (ys := ys) (by
    intro y hy
    obtain ⟨i, hi, hp⟩ := mem_part hy
    obtain ⟨z, f', hz, hf⟩ := hel i (by omega)
    rw [Nat.mul_one, hp] at hz
    obtain ⟨l, h3, h4⟩ := trod_bytes he hub hus huby hz hf
    exact ⟨l, ⟨h3, trod_cap he hz⟩, h4⟩)
  refine ⟨ys, ls, ⟨by rw [hl]; exact hrd, h1⟩, trod_cap hu h, ?_, h2⟩
  rw [hb, reach_eq] at hm
  have := h1.length
  omega

theorem cut_rows (s : Nat) : ∀ (m : Nat) (ys : List Value), ys.length = m * s → (∀ i, i < m → ∃ l : Bytes, (ys.drop (i * s)).take s = bc l ∧ l.length = s) → ∃ L : List Bytes, L.length = m ∧ ys = L.flatMap bc ∧ ∀ x ∈ L, x.length = s := by
  intro m
  induction m with
  | zero => intro ys h _; exact ⟨[], rfl, List.length_eq_zero_iff.1 (by rw [h, Nat.zero_mul]), by simp⟩
  | succ m ih =>
    intro ys h hel
    obtain ⟨l, h1, h2⟩ := hel 0 (by omega)
    rw [Nat.zero_mul, List.drop_zero] at h1
    obtain ⟨L, h3, h4, h5⟩ := ih (ys.drop s) (by rw [List.length_drop, h, Nat.add_mul, Nat.one_mul, Nat.add_sub_cancel]) (fun i hi => by
      obtain ⟨l, h6, h7⟩ := hel (i + 1) (by omega)
      refine ⟨l, ?_, h7⟩
      rw [List.drop_drop, ← h6, show s + i * s = (i + 1) * s by rw [Nat.add_mul, Nat.one_mul, Nat.add_comm]])
    refine ⟨l :: L, by rw [List.length_cons, h3], ?_, ?_⟩
    · rw [List.flatMap_cons, ← h1, ← h4, List.take_append_drop]
    · intro x hx
      rcases List.mem_cons.1 hx with rfl | hx
      · exact h2
      · exact h5 x hx
theorem trod_arrs {t e u : TypeId} {v : Value} {x : DataW H × List MemPlace} {fuel n : Nat} (hu : P.underlying t = some (.slice e)) (he : P.underlying e = some (.array n u)) (hn : 0 < n) (hub : P.underlying u = some (.int .u8)) (hus : P.cellsOf u = 1) (hes : P.cellsOf e = n) (hb : P.bytesOf e = n)
    (h : DataW.trod enc P w 0 sp held fuel t [v] = some x) (hfit : fitsD P t x.1) : ∃ l : List Bytes, RdSl w v n (l.flatMap bc) l.length ∧ (∀ x ∈ l, x.length = n) ∧ capOk v ∧ l.length ≤ 140737488351232 := by
  obtain ⟨ys, m, hrd, hm, hel⟩ := trod_sl hu hes hn h hfit
  obtain ⟨L, h1, h2, h3⟩ := cut_rows n m ys hrd.1 (fun i hi => by
    obtain ⟨z, f', hz, _⟩ := hel i hi
    exact trod_arr he hub hus hes hz)
  subst h2
  refine ⟨L, by rw [h1]; exact hrd, h3, trod_cap hu h, ?_⟩
  rw [hb, reach_eq] at hm
  have := Nat.le_mul_of_pos_right m hn
  omega

end

theorem open_u8 {W : World} {base : Nat} {v : Value} (h : Value.okWide Tryd.prog W .any base 5 v ∧ Came W 5 v) : ∃ n : UInt8, v = bv n := by
  obtain ⟨h1, H, enc, fuel, x, h2, h3⟩ := h
  obtain ⟨n, rfl, _, _, hw⟩ := open_int (by kernel_rfl : Tryd.prog.underlying 5 = some (.int .u8)) h1 ⟨fuel, h2⟩
  simp [Lit.wf] at hw
  have k1 : IntKind.u8.min = 0 := by decide
  have k2 : IntKind.u8.max = 255 := by decide
  rw [k1, k2] at hw
  refine ⟨UInt8.ofNat n.toNat, ?_⟩
  unfold bv
  congr 1
  rw [UInt8.toNat_ofNat']
  omega
theorem open_text {W : World} {base : Nat} {v : Value} (h : Value.okWide Tryd.prog W .any base 9 v ∧ Came W 9 v) : ∃ l : Bytes, v = .string ⟨l.toArray⟩ := by
  obtain ⟨h1, H, enc, fuel, x, h2, h3⟩ := h
  obtain ⟨s, rfl, _⟩ := Go.ChangeMaps.open_string (by kernel_rfl : Tryd.prog.underlying 9 = some .string) h1 ⟨fuel, h2⟩
  exact ⟨s.data.toList, rfl⟩
theorem args5 {args : Array Value} (h : args.toList.length = 5) : ∃ a b c d e, args = #[a, b, c, d, e] := by
  obtain ⟨l⟩ := args
  match l, h with
  | [a, b, c, d, e], _ => exact ⟨a, b, c, d, e, rfl⟩
end Go.Proofs.YtbaddpnlokmldaaDoor
