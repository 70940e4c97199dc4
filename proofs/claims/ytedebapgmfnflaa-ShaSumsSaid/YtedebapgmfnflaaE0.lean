/- What a statement's body needs: arrays built, own memory, a disk in own memory. -/
import Derived.Test.YtedebapgmfnflaaD6
import Derived.Test.YtedebapgmfnflaaCF
namespace Go.Proofs.Ytedebapgmfnflaa
open Go
set_option maxRecDepth 100000

def fillA (s : Nat) : List Value → List (Nat × Value) → Option (List Value)
  | cs, [] => some cs
  | cs, (i, v) :: r => if v.cells.size = s ∧ i * s + s ≤ cs.length then fillA s (lspl cs (i * s) v.cells.toList) r else none

theorem fill_A {s : Nat} : ∀ {parts : List (Nat × Value)} {cs out : List Value}, fillA s cs parts = some out → Instr.fill (fun i => some (i * s, s)) cs.toArray parts = some out.toArray := by
  intro parts
  induction parts with
  | nil => intro cs out h; simp only [fillA, Option.some.injEq] at h; subst h; rfl
  | cons p r ih =>
    intro cs out h
    obtain ⟨i, v⟩ := p
    unfold fillA at h
    split at h
    · rename_i hc
      obtain ⟨h1, h2⟩ := hc
      subst h1
      rw [fill_cons rfl h2]
      exact ih h
    · cases h

theorem buildA_i {P : Program} {w : World} {K : VPost} {t e : TypeId} {n : Nat} {ti ei : TypeInfo} {z : Value} {parts : List (Nat × Value)} {out : List Value} (hu : P.underlying t = some (.array n e)) (hi : P.info? t = some ti) (hz : ti.zero = some z) (he : P.info? e = some ei)
    (hf : fillA ei.size z.cells.toList parts = some out) (h : K (.agg out.toArray) w) : insW P (Instr.build t parts.toArray) w K := by
  refine insW_ok ?_ h
  unfold Instr.build
  have hzr : (zeroValue t).run P w = .ok z w := by
    unfold zeroValue; simp only [Sem.run_bind, run_info hi, Result.andThen_ok, hz, Sem.run_pure]
  simp only [Sem.run_bind, hzr, Result.andThen_ok, run_und hu, run_size he]
  have := fill_A hf
  rw [Array.toArray_toList] at this
  simp only [this, Sem.run_pure]

theorem buildB_i {w : World} {K : VPost} {parts : List (Nat × Value)} {l : Bytes} (hf : fillA 1 (List.replicate 64 (Value.int .u8 0)) parts = some (bc l)) (h : K (.agg (bc l).toArray) w) : insW Try.prog (Instr.build 33 parts.toArray) w K := by
  obtain ⟨ti, hi, hz, hsz, hby⟩ := tyI_spec ty_block
  obtain ⟨ui, hui, huz, husz, huby⟩ := tyI_spec ty_u8
  refine buildA_i (by kernel_rfl : Try.prog.underlying 33 = some (.array 64 5)) hi hz hui ?_ h
  rw [husz]
  simpa [Value.cells] using hf

/-- Memory of the call's own, above a bound. -/
structure Own (w0 : World) (F : List Nat) (w : World) : Prop where
  lo : ∀ b ∈ F, w0.heap.size ≤ b
  ext : Ext [] w0 w
theorem Own.nil (w : World) : Own w [] w := ⟨by simp, Ext.refl _ _⟩
theorem Own.of {w0 w w' : World} {F G : List Nat} (h : Own w0 F w) (e : Ext [] w w') (hG : ∀ b ∈ G, w.heap.size ≤ b) : Own w0 (F ++ G) w' :=
  ⟨fun b hb => by
    rcases List.mem_append.1 hb with hb | hb
    · exact h.lo b hb
    · exact Nat.le_trans h.ext.size (hG b hb), h.ext.new e⟩
theorem Own.mv {w0 w w' : World} {F F' : List Nat} (h : Own w0 F w) (m : Mv F w F' w') : Own w0 F' w' :=
  ⟨fun b hb => by
    rcases m.own b hb with h1 | h1
    · exact h.lo b h1
    · exact Nat.le_trans h.ext.size h1, h.ext.step m.ext (fun x hx hlt => by have := h.lo x hx; omega)⟩
theorem Own.new {w0 w w' : World} {F : List Nat} (h : Own w0 F w) (e : Ext [] w w') : Own w0 F w' := ⟨h.lo, h.ext.new e⟩
theorem Own.one {w0 w w' : World} {F : List Nat} {S : List Nat} (h : Own w0 F w) (e : Ext S w w') (hb : ∀ b ∈ S, w0.heap.size ≤ b) : Own w0 F w' :=
  ⟨h.lo, h.ext.step e (fun x hx hlt => by have := hb x hx; omega)⟩
theorem Mv.out {F F' : List Nat} {w w' : World} {b : Nat} (h : Mv F w F' w') (hb : b ∉ F) (hlt : b < w.heap.size) : b ∉ F' := fun hm => by
  rcases h.own b hm with h1 | h1
  · exact hb h1
  · omega

def blA : Bytes := [1, 2, 3] ++ List.replicate 61 0
def blB : Bytes := [7, 7, 7, 7] ++ List.replicate 60 0
def blC : Bytes := [7, 7, 3] ++ List.replicate 61 0

theorem zero_block : zeroO Try.prog 33 = some (.agg (Array.replicate 64 (.int .u8 0))) := by kernel_rfl

theorem alive_c {w : World} {K : VPost} (hK : ∀ w', Ext [] w w' → K (.bool true) w') : Calls Try.prog 19 #[] w (retK K) := by
  refine c19_calls w K ?_
  unfold c19
  have hpu : Try.prog.underlying 25 = some (.pointer 102) := by kernel_rfl
  refine fnW_of (by kernel_rfl) (new_c 2 (fun h => absurd (by decide) h) fun _ p F1 w1 d1 e1 hF1 => ?_)
  have o1 := (Own.nil w).of e1 hF1
  rw [List.nil_append] at o1
  simp only [extr0, extr1, bin_neq, bne_self_eq_false, gstep_f, ptr_eql_nil hpu, pickW_f, condW_f]
  refine buildB_i (l := blA) (by kernel_rfl) (allocW_i zero_block fun b3 w2 hb3 e2 k3 s2 => ?_)
  refine storeAll k3 (by kernel_rfl) (by simp [Value.cells]) (bc_one _) fun w3 e3 k3 s3 => loadAll k3.r (by kernel_rfl) ?_
  have d3 := (d1.keep e2 (by simp)).keep e3 (by intro b hb; have := d1.lt b hb; simp; omega)
  have o3 := (o1.new e2).one e3 (by have := e1.size; simp; omega)
  have n3 : b3 ∉ F1 := fun hm => by have := d1.lt b3 hm; omega
  refine fnW_of (by kernel_rfl) (write_c d3 0 blA (by kernel_rfl) (by decide) fun F4 w4 d4 m4 => ?_)
  have o4 := o3.mv m4
  have n4 := m4.out n3 k3.lt
  have k4 := k3.keep m4.ext n3
  refine fnW_of (by kernel_rfl) (flush_c d4 fun F5 w5 d5 m5 => ?_)
  have o5 := o4.mv m5
  have n5 := m5.out n4 k4.lt
  have k5 := k4.keep m5.ext n4
  refine buildB_i (l := blB) (by kernel_rfl) ?_
  refine fnW_of (by kernel_rfl) (write_c d5 0 blB (by kernel_rfl) (by decide) fun F6 w6 d6 m6 => ?_)
  have o6 := o5.mv m6
  have n6 := m6.out n5 k5.lt
  have k6 := k5.keep m6.ext n5
  refine loadAll k6.r (by kernel_rfl) ?_
  refine fnW_of (by kernel_rfl) (write_c d6 1 blA (by kernel_rfl) (by decide) fun F7 w7 d7 m7 => ?_)
  have o7 := o6.mv m7
  have n7 := m7.out n6 k6.lt
  have k7 := k6.keep m7.ext n6
  refine fnW_of (by kernel_rfl) (pending_c d7 ?_)
  obtain ⟨ui, hui, huz, husz, huby⟩ := tyI_spec ty_u8
  refine buildSlice_i (vs := [bv 130, bv 0]) und_u8s hui huz rfl (by intro v hv; simp at hv; rcases hv with rfl | rfl <;> (rw [husz]; rfl)) (by rw [husz]; simp) fun bp w8 hbp e8 kp sp => ?_
  have o8 := o7.new e8
  have d8 := d7.keep e8 (by simp)
  have k8 := k7.keep e8 (by simp)
  have hdis : ∀ b ∈ slB (.slice (some ⟨bp, 0, none⟩) 2 2), b ∉ F7 ∧ b < w8.heap.size := by
    intro b hb
    have hb : b = bp := by simpa [slB] using hb
    rw [hb]; exact ⟨fun hm => by have := d7.lt bp hm; omega, by omega⟩
  refine fnW_of (by kernel_rfl) (crash_c d8 [130, 0] (pv := .slice (some ⟨bp, 0, none⟩) 2 2) ⟨rfl, .inr ⟨bp, 0, 2, _, rfl, kp.r, rfl, by simp [flatV, bv, Value.cells]⟩⟩ (fun _ => hdis) (by decide) fun F9 w9 d9 m9 => ?_)
  have o9 := o8.mv m9
  have n9 := m9.out n7 k8.lt
  have k9 := k8.keep m9.ext n7
  refine fnW_of (by kernel_rfl) (read_c d9 0 fun w10 e10 => ?_)
  simp only [extr0, extr1]
  have l10 : (bc (((((((DiskM.fresh 2).write 0 blA).1.flush.write 0 blB).1.write 1 blA).1.crash [130, 0]).read 0).1)).length = 64 := by kernel_rfl
  refine allocW_i zero_block fun b9 w11 hb9 e11 kb9 s11 => storeAll kb9 l10 (by simp [Value.cells]) (bc_one _) fun w12 e12 kb9 s12 => ?_
  have e12' := (((Ext.refl [] w9).new e10).new e11).step e12 (by intro x hx hlt; simp at hx; have := e10.size; omega)
  have o12 := o9.new e12'
  have d12 := d9.keep e12' (by simp)
  have k12 := k9.keep e12' (by simp)
  refine fnW_of (by kernel_rfl) (read_c d12 1 fun w13 e13 => ?_)
  simp only [extr0, extr1]
  have l13 : (bc (((((((DiskM.fresh 2).write 0 blA).1.flush.write 0 blB).1.write 1 blA).1.crash [130, 0]).read 1).1)).length = 64 := by kernel_rfl
  have kb9 := kb9.keep e13 (by simp)
  refine allocW_i zero_block fun b11 w14 hb11 e14 kb11 s14 => storeAll kb11 l13 (by simp [Value.cells]) (bc_one _) fun w15 e15 kb11 s15 => ?_
  have e15' := (((Ext.refl [] w12).new e13).new e14).step e15 (by intro x hx hlt; simp at hx; have := e13.size; omega)
  have o15 := o12.new e15'
  have d15 := d12.keep e15' (by simp)
  have k15 := k12.keep e15' (by simp)
  have kb9 := (kb9.keep e14 (by simp)).keep e15 (by simp; have := kb9.lt; omega)
  refine fnW_of (by kernel_rfl) (read_c d15 2 fun w16 e16 => ?_)
  simp only [extr0, extr1]
  have l16 : (bc (((((((DiskM.fresh 2).write 0 blA).1.flush.write 0 blB).1.write 1 blA).1.crash [130, 0]).read 2).1)).length = 64 := by kernel_rfl
  refine allocW_i zero_block fun b13 w17 hb13 e17 kb13 s17 => storeAll kb13 l16 (by simp [Value.cells]) (bc_one _) fun w18 e18 kb13 s18 => ?_
  have e18' := (((Ext.refl [] w15).new e16).new e17).step e18 (by intro x hx hlt; simp at hx; have := e16.size; omega)
  have o18 := o15.new e18'
  have d18 := d15.keep e18' (by simp)
  have k18 := k15.keep e18' (by simp)
  have kb9 := kb9.keep e18' (by simp)
  have kb11 := kb11.keep e18' (by simp)
  have q9 : b9 ∉ F9 := fun hm => by have := d9.lt b9 hm; have := e10.size; omega
  have q11 : b11 ∉ F9 := fun hm => by have := d12.lt b11 hm; have := e13.size; omega
  refine fnW_of (by kernel_rfl) (limit_c d18 0 (by decide) fun F19 w19 d19 m19 => ?_)
  have o19 := o18.mv m19
  have n19 := m19.out n9 k18.lt
  have k19 := k18.keep m19.ext n9
  have r9 := m19.out q9 kb9.lt
  have r11 := m19.out q11 kb11.lt
  have kb9 := kb9.keep m19.ext q9
  have kb11 := kb11.keep m19.ext q11
  refine loadAll k19.r (by kernel_rfl) ?_
  refine fnW_of (by kernel_rfl) (write_c d19 0 blA (by kernel_rfl) (by decide) fun F20 w20 d20 m20 => ?_)
  have o20 := o19.mv m20
  have k20 := k19.keep m20.ext n19
  have kb9 := kb9.keep m20.ext r9
  have kb11 := kb11.keep m20.ext r11
  refine fnW_of (by kernel_rfl) (twin_c d20 fun q G w21 t21 e21 hG => ?_)
  have o21 := o20.new e21
  have k21 := k20.keep e21 (by simp)
  have kb9 := kb9.keep e21 (by simp)
  have kb11 := kb11.keep e21 (by simp)
  have d21 := d20.keep e21 (by simp)
  simp only [ptr_eql_nil hpu, condW_f]
  have v4 : ((DiskM.fresh (Int.toNat 2)).write 0 blA).2 = 0 := by decide +kernel
  have v6 : ((((DiskM.fresh (Int.toNat 2)).write 0 blA).1.flush).write 0 blB).2 = 0 := by decide +kernel
  have v7 : (((((DiskM.fresh (Int.toNat 2)).write 0 blA).1.flush).write 0 blB).1.write 1 blA).2 = 0 := by decide +kernel
  have vp : (((((((DiskM.fresh (Int.toNat 2)).write 0 blA).1.flush).write 0 blB).1.write 1 blA).1.pend.length : Nat) : Int) = 2 := by decide +kernel
  have vd : ((donec [130, 0] 0 (((((DiskM.fresh (Int.toNat 2)).write 0 blA).1.flush).write 0 blB).1.write 1 blA).1.pend : Nat) : Int) = 1 := by decide +kernel
  generalize hD : (((((DiskM.fresh (Int.toNat 2)).write 0 blA).1.flush).write 0 blB).1.write 1 blA).1.crash [130, 0] = DD at *
  have x0 : DD.read 0 = (blC, 0) := by subst hD; decide +kernel
  have x1 : DD.read 1 = (List.replicate 64 0, 0) := by subst hD; decide +kernel
  have x2 : (DD.read 2).2 = 11 := by subst hD; decide +kernel
  have x3 : ((DD.limit 0).write 0 blA).2 = 15 := by subst hD; decide +kernel
  have x4 : ((((DD.limit 0).write 0 blA).1.seen.length : Nat) : Int) = 128 := by subst hD; decide +kernel
  have x5 : (((DD.limit 0).write 0 blA).1.twin.write 0 blA).2 = 0 := by subst hD; decide +kernel
  have x6 : ((((DD.limit 0).write 0 blA).1.n : Nat) : Int) = 2 := by subst hD; decide +kernel
  simp only [v4, v6, v7, vp, vd, x0, x1, x2, x3, bin_eql, beq_self_eq_true, gstep_t, pickW_t]
  rw [x0] at kb9
  rw [x1] at kb11
  refine loadAll kb9.r (by kernel_rfl) ?_
  simp only [gstep_t]
  refine buildB_i (l := blC) (by kernel_rfl) (block_eql (by kernel_rfl) (by kernel_rfl) ?_)
  simp only [decide_true, pickW_t, gstep_t]
  refine loadAll kb11.r (by kernel_rfl) ?_
  simp only [gstep_t]
  refine buildB_i (parts := []) (l := List.replicate 64 0) (by kernel_rfl) (block_eql (by kernel_rfl) (by kernel_rfl) ?_)
  simp only [decide_true, pickW_t, gstep_t]
  refine fnW_of (by kernel_rfl) (image_c d21 fun vi w22 hvi e22 hbi => ?_)
  have o22 := o21.new e22
  have k22 := k21.keep e22 (by simp)
  have d22 := d21.keep e22 (by simp)
  have t22 := t21.keep e22 (by simp)
  obtain ⟨va, vc, hvv⟩ := hvi.shape
  subst hvv
  simp only [gstep_t, len_s, x4, bin_eql, beq_self_eq_true, pickW_t]
  refine loadAll k22.r (by kernel_rfl) ?_
  refine fnW_of (by kernel_rfl) (write_c t22 0 blA (by kernel_rfl) (by show 0 ≤ 1000000; decide) fun G2 w23 t23 m23 => ?_)
  have o23 : Own w G2 w23 := by
    refine Own.mv (F := G) ⟨?_, o22.ext⟩ m23
    intro b hb
    have := hG b hb
    have := o20.ext.size
    omega
  have d23 := d22.keep m23.ext (by intro b hb hm; have := hG b hm; have := d20.lt b hb; omega)
  simp only [x5, bin_eql, beq_self_eq_true, pickW_t, gstep_t]
  refine fnW_of (by kernel_rfl) (size_c d23 ?_)
  simp only [x6, gstep_t, bin_eql, beq_self_eq_true, pickW_t]
  exact hK w23 o23.ext
end Go.Proofs.Ytedebapgmfnflaa
