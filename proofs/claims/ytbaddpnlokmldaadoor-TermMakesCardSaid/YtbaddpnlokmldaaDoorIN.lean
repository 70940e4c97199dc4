/- Terms that came in. -/
import Derived.Test.YtbaddpnlokmldaaDoorIM
import Derived.Test.YtbaddpnlokmldaaDoorLB
import Derived.OpenShut
namespace Go.Proofs.YtbaddpnlokmldaaDoor
open Go Go.ChangeShapes Go.WideShapes
set_option maxRecDepth 100000

section
variable {H : Type} {enc : TypeId × Value → H} {P : Program} {w : World} {sp : Nat → Bool} {held : Bool}
theorem trod_slF {t e : TypeId} {v : Value} {x : DataW H × List MemPlace} {fuel s : Nat} (hu : P.underlying t = some (.slice e)) (hs : P.cellsOf e = s) (hs0 : 0 < s) (h : DataW.trod enc P w 0 sp held fuel t [v] = some x) (hfit : fitsD P t x.1) :
    ∃ ys m, RdSl w v s ys m ∧ m * P.bytesOf e ≤ reachBytes ∧ ∀ i, i < m → ∃ y fuel', fuel' < fuel ∧ DataW.trod enc P w 0 sp held fuel' e ((ys.drop (i * s)).take s) = some y ∧ fitsD P e y.1 := by
  rcases DataW.trod_slice hu h with ⟨hc, _⟩ | ⟨a, len, cap, elems, rest, n, hfu, hc, hx, _, hl, hm, hlen, hel, _, _⟩
  · simp only [List.cons.injEq, and_true] at hc
    subst hc
    exact ⟨[], 0, ⟨by simp, .inl ⟨rfl, _, _, rfl⟩⟩, by rw [Nat.zero_mul]; exact Nat.zero_le _, fun i hi => absurd hi (Nat.not_lt_zero _)⟩
  · simp only [List.cons.injEq, and_true] at hc
    subst hc
    rw [hs] at hel
    rw [hx] at hfit
    obtain ⟨hf1, hf2⟩ := fits_slice hu hfit
    rw [List.length_map, List.length_map, hlen, Nat.add_mul] at hf1
    by_cases h0 : len = 0
    · subst h0
      exact ⟨[], 0, ⟨by simp, .inl ⟨rfl, _, _, rfl⟩⟩, by rw [Nat.zero_mul]; exact Nat.zero_le _, fun i hi => absurd hi (Nat.not_lt_zero _)⟩
    · have hget : ∀ i, i < len → ∃ cs y, w.cells? 0 (a.add (i * s)) s = some cs ∧ DataW.trod enc P w 0 sp held n e cs = some y ∧ fitsD P e y.1 := by
        intro i hi
        have := hel i hi
        rw [List.getElem?_eq_getElem (by omega), Option.bind_eq_some_iff] at this
        obtain ⟨cs, h1, h2⟩ := this
        exact ⟨cs, _, h1, h2, hf2 _ (List.mem_map_of_mem (List.getElem_mem _))⟩
      obtain ⟨b, o, spt⟩ := a
      obtain ⟨c0, y0, h1, h2⟩ := hget 0 (by omega)
      rw [Nat.zero_mul] at h1
      obtain ⟨rfl, all, ta, fz, hb, _, _⟩ := cells_blk (by simpa [Addr.add] using h1) hs0
      have hat : ∀ i, i < len → o + i * s + s ≤ all.size ∧ ∃ y, DataW.trod enc P w 0 sp held n e ((all.toList.drop (o + i * s)).take s) = some y ∧ fitsD P e y.1 := by
        intro i hi
        obtain ⟨cs, y, h1, h2⟩ := hget i hi
        rw [add_addr] at h1
        obtain ⟨_, all', ta', fz', hb', hle, rfl⟩ := cells_blk h1 hs0
        rw [hb] at hb'
        simp only [Option.some.injEq, Obj.cells.injEq] at hb'
        obtain ⟨rfl, rfl, rfl⟩ := hb'
        exact ⟨hle, y, h2⟩
      have hlast := (hat (len - 1) (by omega)).1
      have hmul : (len - 1) * s + s = len * s := by
        have : (len - 1) * s + 1 * s = (len - 1 + 1) * s := (Nat.add_mul _ _ _).symm
        rw [Nat.one_mul, Nat.sub_add_cancel (by omega)] at this
        exact this
      refine ⟨(all.toList.drop o).take (len * s), len, ⟨?_, .inr ⟨b, o, cap, all.toList, rfl, ⟨ta, fz, by simpa using hb⟩, rfl, by rw [Array.length_toList]; omega⟩⟩, by omega, fun i hi => ?_⟩
      · rw [List.length_take, List.length_drop, Array.length_toList]; omega
      · obtain ⟨_, y, hy⟩ := hat i hi
        refine ⟨y, n, by omega, ?_⟩
        have hi2 : i * s + s ≤ len * s := by
          have := Nat.mul_le_mul_right s (show i + 1 ≤ len from hi)
          rw [Nat.add_mul, Nat.one_mul] at this; exact this
        rw [List.drop_take, List.take_take, List.drop_drop, Nat.min_eq_left (by omega)]
        exact hy
end
theorem trod_fieldsF {H : Type} {enc : TypeId × Value → H} {P : Program} {w : World} {sp : Nat → Bool} {held : Bool} {t : TypeId} {l : List (TypeId × Nat)} {cs : List Value} {x : DataW H × List MemPlace} {fuel : Nat} (hs : strF P t = some l) (h : DataW.trod enc P w 0 sp held fuel t cs = some x) (hfit : fitsD P t x.1) :
    cs.length = P.cellsOf t ∧ ∀ (i : Nat) te off, l[i]? = some (te, off) → ∃ y n, n < fuel ∧ DataW.trod enc P w 0 sp held n te ((cs.drop off).take (P.cellsOf te)) = some y ∧ fitsD P te y.1 := by
  unfold strF at hs
  split at hs
  · rename_i fs hu
    simp only [Option.some.injEq] at hs
    subst hs
    obtain ⟨xs, n, hfu, hx, hl, hxs, hf⟩ := DataW.trod_struct hu h
    rw [hx] at hfit
    refine ⟨hl, fun i te off hi => ?_⟩
    rw [List.getElem?_map, Option.map_eq_some_iff] at hi
    obtain ⟨f, hfi, he⟩ := hi
    simp only [Prod.mk.injEq] at he
    obtain ⟨rfl, rfl⟩ := he
    have hlt : i < fs.size := by
      have := (List.getElem?_eq_some_iff.1 hfi).1
      simpa using this
    have := hf i f (by simpa using hfi)
    rw [List.getElem?_eq_getElem (by omega)] at this
    exact ⟨_, n, by omega, this, fits_struct hu hfit (i := i) (by simp [hfi]) (by rw [List.getElem?_map, List.getElem?_eq_getElem (by omega)]; rfl)⟩
  · cases hs

section
variable {H : Type} {enc : TypeId × Value → H} {w : World} {sp : Nat → Bool} {held : Bool}
theorem trod_text {v : List Value} {x : DataW H × List MemPlace} {fuel : Nat} (h : DataW.trod enc Tryd.prog w 0 sp held fuel 9 v = some x) (hfit : fitsD Tryd.prog 9 x.1) : ∃ l : Bytes, v = [sv l] ∧ l.length < 2 ^ 60 := by
  obtain ⟨s, rfl, hx, _⟩ := DataW.trod_string (by kernel_rfl : Tryd.prog.underlying 9 = some .string) h
  refine ⟨s.data.toList, rfl, ?_⟩
  rw [hx] at hfit
  have := hfit s.data.toList.length (by unfold DataW.weights; simp)
  rw [reach_eq] at this
  omega
theorem trod_int1 {v : List Value} {x : DataW H × List MemPlace} {fuel : Nat} (h : DataW.trod enc Tryd.prog w 0 sp held fuel 3 v = some x) : ∃ n : Int, v = [iv n] ∧ i64ok n := by
  obtain ⟨a0, e0, _, g0⟩ := DataW.trod_int (by kernel_rfl : Tryd.prog.underlying 3 = some (.int .i64)) h
  exact ⟨a0, e0, wf_i64 g0⟩
theorem trod_level {cs : List Value} {x : DataW H × List MemPlace} {fuel : Nat} (h : DataW.trod enc Tryd.prog w 0 sp held fuel 48 cs = some x) (hfit : fitsD Tryd.prog 48 x.1) : ∃ l : Lv, l.ok ∧ cs = l.cells := by
  obtain ⟨hl, hf⟩ := trod_fieldsF flds_lvl h hfit
  have hc5 : Tryd.prog.cellsOf 48 = 5 := by kernel_rfl
  have hc4 : Tryd.prog.cellsOf 46 = 4 := by kernel_rfl
  have hc1 : Tryd.prog.cellsOf 3 = 1 := by kernel_rfl
  rw [hc5] at hl
  obtain ⟨y0, n0, _, h0, k0⟩ := hf 0 _ _ rfl
  obtain ⟨y1, n1, _, h1, k1⟩ := hf 1 _ _ rfl
  rw [hc1] at h0
  rw [hc4] at h1
  obtain ⟨xs, m, _, _, hl4, hxs, hel⟩ := DataW.trod_array (by kernel_rfl : Tryd.prog.underlying 46 = some (.array 4 3)) h1
  rw [hc1] at hel
  have get : ∀ i, i < 4 → ∃ n : Int, ((((cs.drop 1).take 4).drop (i * 1)).take 1) = [iv n] ∧ i64ok n := by
    intro i hi
    have := hel i hi
    rw [List.getElem?_eq_getElem (by omega)] at this
    exact trod_int1 this
  match cs, hl with
  | [a, b, c, d, e], _ =>
    obtain ⟨n, e0, g0⟩ := trod_int1 h0
    obtain ⟨p0, e1, g1⟩ := get 0 (by decide)
    obtain ⟨p1, e2, g2⟩ := get 1 (by decide)
    obtain ⟨p2, e3, g3⟩ := get 2 (by decide)
    obtain ⟨p3, e4, g4⟩ := get 3 (by decide)
    have e0 : [a] = [iv n] := e0
    have e1 : [b] = [iv p0] := e1
    have e2 : [c] = [iv p1] := e2
    have e3 : [d] = [iv p2] := e3
    have e4 : [e] = [iv p3] := e4
    simp only [List.cons.injEq, and_true] at e0 e1 e2 e3 e4
    exact ⟨⟨n, p0, p1, p2, p3⟩, ⟨g0, g1, g2, g3, g4⟩, by rw [e0, e1, e2, e3, e4]; rfl⟩
theorem trod_term : ∀ (fuel : Nat) (cs : List Value) (x : DataW H × List MemPlace), DataW.trod enc Tryd.prog w 0 sp held fuel 27 cs = some x → fitsD Tryd.prog 27 x.1 → ∃ t : TV, t.ok w ∧ cs = t.cells := by
  intro fuel
  induction fuel using Nat.strongRecOn with
  | _ fuel ih =>
    intro cs x h hfit
    obtain ⟨hl, hf⟩ := trod_fieldsF (by kernel_rfl : strF Tryd.prog 27 = some [(3, 0), (3, 1), (9, 2), (24, 3), (25, 4)]) h hfit
    have hc5 : Tryd.prog.cellsOf 27 = 5 := by kernel_rfl
    have hcl : Tryd.prog.cellsOf 48 = 5 := by kernel_rfl
    have hc1 : Tryd.prog.cellsOf 3 = 1 := by kernel_rfl
    have hcs : Tryd.prog.cellsOf 9 = 1 := by kernel_rfl
    have hcL : Tryd.prog.cellsOf 24 = 1 := by kernel_rfl
    have hcT : Tryd.prog.cellsOf 25 = 1 := by kernel_rfl
    rw [hc5] at hl
    obtain ⟨y0, n0, _, h0, k0⟩ := hf 0 _ _ rfl
    obtain ⟨y1, n1, _, h1, k1⟩ := hf 1 _ _ rfl
    obtain ⟨y2, n2, _, h2, k2⟩ := hf 2 _ _ rfl
    obtain ⟨y3, n3, f3, h3, k3⟩ := hf 3 _ _ rfl
    obtain ⟨y4, n4, f4, h4, k4⟩ := hf 4 _ _ rfl
    rw [hc1] at h0 h1
    rw [hcs] at h2
    rw [hcL] at h3
    rw [hcT] at h4
    match cs, hl with
    | [a, b, c, d, e], _ =>
      obtain ⟨k, e0, g0⟩ := trod_int1 h0
      obtain ⟨n, e1, g1⟩ := trod_int1 h1
      obtain ⟨nm, e2, g2⟩ := trod_text h2 k2
      have h3 : DataW.trod enc Tryd.prog w 0 sp held n3 24 [d] = some y3 := h3
      have h4 : DataW.trod enc Tryd.prog w 0 sp held n4 25 [e] = some y4 := h4
      obtain ⟨ys, m, hrd, hm, hel⟩ := trod_slF und_levels hcl (by decide) h3 k3
      obtain ⟨zs, q, hrz, hq, hez⟩ := trod_slF und_terms hc5 (by decide) h4 k4
      have hbl : Tryd.prog.bytesOf 48 = 40 := by kernel_rfl
      have hbt : Tryd.prog.bytesOf 27 = 80 := by kernel_rfl
      rw [hbl, reach_eq] at hm
      rw [hbt, reach_eq] at hq
      obtain ⟨ls, l1, l2, l3⟩ := flat_cut Lv.cells 5 Lv.ok m ys hrd.1 (fun i hi => by
        obtain ⟨y, f, _, hy, hyf⟩ := hel i hi
        exact trod_level hy hyf)
      obtain ⟨ts, t1, t2, t3⟩ := flat_cut TV.cells 5 (fun t => t.ok w) q zs hrz.1 (fun i hi => by
        obtain ⟨y, f, hff, hy, hyf⟩ := hez i hi
        exact ih f (by omega) _ _ hy hyf)
      subst l1 l3 t1 t3
      have e0 : [a] = [iv k] := e0
      have e1 : [b] = [iv n] := e1
      have e2 : [c] = [sv nm] := e2
      simp only [List.cons.injEq, and_true] at e0 e1 e2
      exact ⟨.mk k n nm ls d e ts, tok_iff.2 ⟨g0, g1, g2, l2, by show ls.length < 2 ^ 50; omega, by show ts.length < 2 ^ 50; omega, hrd, trod_cap und_levels h3, hrz, trod_cap und_terms h4, t2⟩, by rw [e0, e1, e2]; rfl⟩
end
theorem open_term {W : World} {base : Nat} {v : Value} (h : Value.okWide Tryd.prog W .any base 27 v ∧ Came W 27 v) : ∃ t : TV, v = t.v ∧ t.ok W := by
  obtain ⟨h1, H, enc, fuel, x, h2, h3⟩ := h
  have hu := (by kernel_rfl : strF Tryd.prog 27 = some [(3, 0), (3, 1), (9, 2), (24, 3), (25, 4)])
  unfold strF at hu
  split at hu
  · rename_i fs hfs
    unfold Value.okWide at h1
    rw [hfs] at h1
    obtain ⟨cs, rfl, _, _⟩ := h1
    obtain ⟨t, ht, hc⟩ := trod_term fuel _ _ h2 h3
    have hc : cs.toList = t.cells := hc
    exact ⟨t, by show Value.agg cs = Value.agg t.cells.toArray; rw [← hc], ht⟩
  · cases hu
theorem open_terms {W : World} {base : Nat} {v : Value} (h : Value.okWide Tryd.prog W .any base 25 v ∧ Came W 25 v) : ∃ ts : List TV, RdSl W v 5 (tcs ts) ts.length ∧ capOk v ∧ (∀ t ∈ ts, t.ok W) ∧ ts.length < 2 ^ 50 := by
  obtain ⟨h1, H, enc, fuel, x, h2, h3⟩ := h
  rw [open_sl und_terms h1] at h2
  have hc5 : Tryd.prog.cellsOf 27 = 5 := by kernel_rfl
  obtain ⟨zs, q, hrz, hq, hez⟩ := trod_slF und_terms hc5 (by decide) h2 h3
  have hbt : Tryd.prog.bytesOf 27 = 80 := by kernel_rfl
  rw [hbt, reach_eq] at hq
  obtain ⟨ts, t1, t2, t3⟩ := flat_cut TV.cells 5 (fun t => t.ok W) q zs hrz.1 (fun i hi => by
    obtain ⟨y, f, hff, hy, hyf⟩ := hez i hi
    exact trod_term f _ _ hy hyf)
  subst t1 t3
  exact ⟨ts, hrz, trod_cap und_terms h2, t2, by omega⟩
theorem open_textN {W : World} {base : Nat} {v : Value} (h : Value.okWide Tryd.prog W .any base 9 v ∧ Came W 9 v) : ∃ l : Bytes, v = sv l ∧ l.length < 2 ^ 60 := by
  obtain ⟨h1, H, enc, fuel, x, h2, h3⟩ := h
  obtain ⟨s, rfl, _⟩ := Go.ChangeMaps.open_string (by kernel_rfl : Tryd.prog.underlying 9 = some .string) h1 ⟨fuel, h2⟩
  obtain ⟨l, hl, hn⟩ := trod_text h2 h3
  have hl : [Value.string s] = [sv l] := hl
  simp only [List.cons.injEq, and_true] at hl
  exact ⟨l, hl, hn⟩
end Go.Proofs.YtbaddpnlokmldaaDoor
