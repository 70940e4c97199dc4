/- Digests in slices, in hand; slices.Clone of digests. -/
import Derived.Test.YtedebapgmfnflaaM1
namespace Go.Proofs.Ytedebapgmfnflaa
open Go
set_option maxRecDepth 100000

theorem Sep.digAt {S : List Nat} {w0 w : World} {L R : List Res} {v : Value} {ds : List Bytes} {n k : Nat} (s : Sep S w0 w L R) (i : Nat) (hL : L[i]? = some (rO v 62 32 (fl ds) n)) (hn : ds.length = n) (hd : ∀ d ∈ ds, d.length = 32) (hk : k < ds.length) (kk : IntKind) :
    ∃ b o, (∀ K : VPost, K (.pointer (some ⟨b, o, none⟩)) w → idxW (some (none, 32)) v (.int kk k) w K) ∧ (∀ (K : VPost), K (.agg (bc ds[k]).toArray) w → loadW (some (true, 32)) (.pointer (some ⟨b, o, none⟩)) w K) ∧
    (∀ (g : Bool) (y : Bytes) (K : World → Prop), y.length = 32 → (∀ w', Sep S w0 w' (L.set i (rO v 62 32 (fl (ds.set k y)) n)) R → K w') → storeW (some (g, 32)) (.pointer (some ⟨b, o, none⟩)) (.agg (bc y).toArray) w K) := by
  have ho : OwnAt w v 62 32 (fl ds) n := s.at i hL
  obtain ⟨b, o, hb, h1, h2, h3⟩ := ho.atN (by omega : k < n) kk
  refine ⟨b, o, h1, fun K hK => h2 K (by rw [fl_get hd hk]; exact hK), fun g y K hy hK => h3 g (bc y) K (by rw [bc_length]; exact hy) (bc_one y) fun w' e hw => hK w' ?_⟩
  rw [fl_set hd hk hy] at hw
  exact s.upd (T := rO v _ 32 (fl ds) n) i hL (T' := rO v _ 32 (fl (ds.set k y)) n) hw (by show Ext (slB v) w w'; rw [hb]; exact e) (fun x hx => .inl hx)

theorem und_digs : Try.prog.underlying 75 = some (.slice 62) := by kernel_rfl
theorem ty_dig : tyI Try.prog 62 = some (.agg (Array.replicate 32 (.int .u8 0)), 32, 32) := by kernel_rfl
theorem fl_one (ds : List Bytes) : ∀ x ∈ fl ds, x.oneCell' = true := by
  intro x hx
  obtain ⟨d, _, hx⟩ := List.mem_flatMap.1 hx
  exact bc_one d x hx

theorem digsClone_c {w : World} {K : VPost} {x : Value} {ds : List Bytes} (hx : RdSl w x 32 (fl ds) ds.length) (hn : ds.length ≤ 2 ^ 20)
    (hK : ∀ v w', OwnAt w' v 62 32 (fl ds) ds.length → Ext [] w w' → (∀ b ∈ slB v, w.heap.size ≤ b) → K v w') : Calls Try.prog 90 #[x] w (retK K) := by
  refine c90_calls _ w K ?_
  unfold c90
  obtain ⟨xa, xc, rfl⟩ := hx.len
  rw [slice_eql_nil und_digs]
  cases xa with
  | none =>
    show condW (.bool true) _ _
    rw [condW_t]
    have hl : ds = [] := by
      obtain ⟨hl, ⟨h0, _⟩ | ⟨b, o, c, cs, h0, _⟩⟩ := hx
      · rw [h0] at hl
        exact List.eq_nil_of_length_eq_zero (by simp at hl; omega)
      · cases h0
    subst hl
    exact hK _ w (.inl ⟨rfl, rfl, rfl⟩) (Ext.refl _ _) (by simp [slB])
  | some a =>
    show condW (.bool false) _ _
    rw [condW_f]
    obtain ⟨ti, hti, htz, hts, htb⟩ := tyI_spec ty_dig
    refine (Sep.zero1 (U := rR _ 32 (fl ds) ds.length) hx).lit (vs := []) und_digs hti htz rfl (by simp) (by simp) fun t w1 s _ _ => ?_
    refine s.appendO (v := t) (n := 0) (m := ds.length) (ys := fl ds) (xs := []) 0 rfl und_digs und_digs hti htz (by rw [hts]; rfl) (by rw [htb]; decide) (by rw [hts]; exact s.rat 0 rfl) (fl_one _) (by rw [htb]; omega) fun v' w2 s => ?_
    rw [hts, List.nil_append, Nat.zero_add] at s
    exact hK v' w2 (s.at 0 rfl) s.ext (s.fresh 0 rfl)
end Go.Proofs.Ytedebapgmfnflaa
