/- Levels and terms: their cells, what is read of them, their places. Plain. -/
import Derived.Test.YtbaddpnlokmldaaDoorNC
import Derived.DeepKeys
namespace Go.Proofs.YtbaddpnlokmldaaDoor
open Go
set_option maxRecDepth 100000

/-- A level. -/
structure Lv where
  base : Int
  p0 : Int
  p1 : Int
  p2 : Int
  p3 : Int
deriving DecidableEq
abbrev iv (n : Int) : Value := .int .i64 n
def Lv.cells (l : Lv) : List Value := [iv l.base, iv l.p0, iv l.p1, iv l.p2, iv l.p3]
structure Lv.ok (l : Lv) : Prop where
  b : i64ok l.base
  k0 : i64ok l.p0
  k1 : i64ok l.p1
  k2 : i64ok l.p2
  k3 : i64ok l.p3
abbrev lcs (ls : List Lv) : List Value := ls.flatMap Lv.cells

/-- A term, with the places of its parts. -/
inductive TV where
  | mk (k n : Int) (s : Bytes) (ls : List Lv) (lv av : Value) (args : List TV)
/-- A term. -/
inductive TM where
  | mk (k n : Int) (s : Bytes) (ls : List Lv) (args : List TM)
namespace TV
def cells : TV → List Value
  | mk k n s _ lv av _ => [iv k, iv n, sv s, lv, av]
def v (t : TV) : Value := .agg t.cells.toArray
def k : TV → Int | mk k _ _ _ _ _ _ => k
def n : TV → Int | mk _ n _ _ _ _ _ => n
def s : TV → Bytes | mk _ _ s _ _ _ _ => s
def ls : TV → List Lv | mk _ _ _ ls _ _ _ => ls
def lv : TV → Value | mk _ _ _ _ lv _ _ => lv
def av : TV → Value | mk _ _ _ _ _ av _ => av
def args : TV → List TV | mk _ _ _ _ _ _ args => args
theorem cells_eq (t : TV) : t.cells = [iv t.k, iv t.n, sv t.s, t.lv, t.av] := by cases t; rfl
theorem cells_len (t : TV) : t.cells.length = 5 := by cases t; rfl
theorem ind {P : TV → Prop} (h : ∀ k n s ls lv av args, (∀ a ∈ args, P a) → P (mk k n s ls lv av args)) : ∀ t, P t :=
  TV.rec (motive_1 := P) (motive_2 := fun l => ∀ a ∈ l, P a) (fun k n s ls lv av args ih => h k n s ls lv av args ih) (by simp) (fun a r h1 h2 b hb => by
    rcases List.mem_cons.1 hb with rfl | hb
    · exact h1
    · exact h2 b hb)
end TV
abbrev tcs (ts : List TV) : List Value := ts.flatMap TV.cells
mutual
def TV.e : TV → TM
  | .mk k n s ls _ _ args => .mk k n s ls (TV.es args)
def TV.es : List TV → List TM
  | [] => []
  | a :: r => a.e :: TV.es r
end
theorem es_map : ∀ ts : List TV, TV.es ts = ts.map TV.e
  | [] => rfl
  | a :: r => by rw [TV.es, es_map r]; rfl
theorem TV.e_eq (t : TV) : t.e = .mk t.k t.n t.s t.ls (t.args.map TV.e) := by
  cases t with
  | mk k n s ls lv av args => rw [TV.e, es_map]; rfl
mutual
def TV.ok (w : World) : TV → Prop
  | .mk k n s ls lv av args => (i64ok k ∧ i64ok n ∧ s.length < 2 ^ 60 ∧ (∀ l ∈ ls, l.ok) ∧ ls.length < 2 ^ 50 ∧ args.length < 2 ^ 50) ∧ (RdSl w lv 5 (lcs ls) ls.length ∧ capOk lv) ∧ (RdSl w av 5 (tcs args) args.length ∧ capOk av) ∧ TV.oks w args
def TV.oks (w : World) : List TV → Prop
  | [] => True
  | a :: r => a.ok w ∧ TV.oks w r
end
theorem oks_iff {w : World} : ∀ {ts : List TV}, TV.oks w ts ↔ ∀ t ∈ ts, t.ok w
  | [] => by simp [TV.oks]
  | a :: r => by simp [TV.oks, oks_iff (ts := r)]
/-- What is known of a term that is read. -/
structure TOk (w : World) (t : TV) : Prop where
  k : i64ok t.k
  n : i64ok t.n
  s : t.s.length < 2 ^ 60
  l : ∀ l ∈ t.ls, l.ok
  ll : t.ls.length < 2 ^ 50
  al : t.args.length < 2 ^ 50
  lr : RdSl w t.lv 5 (lcs t.ls) t.ls.length
  lc : capOk t.lv
  ar : RdSl w t.av 5 (tcs t.args) t.args.length
  ac : capOk t.av
  a : ∀ a ∈ t.args, a.ok w
theorem tok_iff {w : World} {t : TV} : t.ok w ↔ TOk w t := by
  cases t with
  | mk k n s ls lv av args =>
    rw [TV.ok, oks_iff]
    exact ⟨fun ⟨⟨h1, h2, h3, h4, h5, h6⟩, ⟨h7, h8⟩, ⟨h9, h10⟩, h11⟩ => ⟨h1, h2, h3, h4, h5, h6, h7, h8, h9, h10, h11⟩, fun h => ⟨⟨h.k, h.n, h.s, h.l, h.ll, h.al⟩, ⟨h.lr, h.lc⟩, ⟨h.ar, h.ac⟩, h.a⟩⟩
mutual
def TV.foot : TV → List Nat
  | .mk _ _ _ ls lv av args => rdB lv (lcs ls) ++ (rdB av (tcs args) ++ TV.foots args)
def TV.foots : List TV → List Nat
  | [] => []
  | a :: r => a.foot ++ TV.foots r
end
theorem foots_mem {b : Nat} : ∀ {ts : List TV}, b ∈ TV.foots ts ↔ ∃ t ∈ ts, b ∈ t.foot
  | [] => by simp [TV.foots]
  | a :: r => by simp [TV.foots, foots_mem (ts := r)]
theorem TV.foot_eq (t : TV) : t.foot = rdB t.lv (lcs t.ls) ++ (rdB t.av (tcs t.args) ++ TV.foots t.args) := by
  cases t; rw [TV.foot]; rfl
theorem TV.keepS {S : List Nat} {w w' : World} (e : Ext S w w') : ∀ t : TV, t.ok w → (∀ b ∈ t.foot, b ∉ S) → t.ok w' :=
  TV.ind fun k n s ls lv av args ih h hd => by
    have h := tok_iff.1 h
    rw [TV.foot_eq] at hd
    simp only [List.mem_append] at hd
    refine tok_iff.2 ⟨h.k, h.n, h.s, h.l, h.ll, h.al, (rR lv 5 (lcs ls) ls.length).keep h.lr e fun b hb => hd b (.inl hb), h.lc, (rR av 5 (tcs args) args.length).keep h.ar e fun b hb => hd b (.inr (.inl hb)), h.ac, fun a ha => ih a ha (h.a a ha) fun b hb => hd b ?_⟩
    exact .inr (.inr (foots_mem.2 ⟨a, ha, hb⟩))
theorem TV.keep {w w' : World} (e : Ext [] w w') {t : TV} (h : t.ok w) : t.ok w' := TV.keepS e t h (by simp)
theorem TV.lt {w : World} : ∀ t : TV, t.ok w → ∀ b ∈ t.foot, b < w.heap.size :=
  TV.ind fun k n s ls lv av args ih h b hb => by
    have h := tok_iff.1 h
    rw [TV.foot_eq] at hb
    simp only [List.mem_append] at hb
    rcases hb with hb | hb | hb
    · exact (rR lv 5 (lcs ls) ls.length).lt h.lr b hb
    · exact (rR av 5 (tcs args) args.length).lt h.ar b hb
    · obtain ⟨a, ha, hb⟩ := foots_mem.1 hb
      exact ih a ha (h.a a ha) b hb
/-- A term that is read. -/
def rT (t : TV) : Res := ⟨t.foot, fun w => t.ok w, fun {_} h => TV.lt t h, fun {_ _ _} h e hd => TV.keepS e t h hd⟩
def rTs (ts : List TV) : Res := ⟨TV.foots ts, fun w => ∀ t ∈ ts, t.ok w, fun {_} h b hb => by
  obtain ⟨a, ha, hb⟩ := foots_mem.1 hb
  exact TV.lt a (h a ha) b hb, fun {_ _ _} h e hd a ha => TV.keepS e a (h a ha) fun b hb => hd b (foots_mem.2 ⟨a, ha, hb⟩)⟩

/-! A term's own cells, and its Args. -/
theorem tcs_get {ts : List TV} {i : Nat} (hi : i < ts.length) : ((tcs ts).drop (i * 5)).take 5 = ts[i].cells := flat_get TV.cells 5 ts (fun t _ => t.cells_len) i hi
theorem lcs_get {ls : List Lv} {i : Nat} (hi : i < ls.length) : ((lcs ls).drop (i * 5)).take 5 = ls[i].cells := flat_get Lv.cells 5 ls (fun _ _ => rfl) i hi
/-- One of a slice's terms. -/
theorem RdSl.term {w : World} {x : Value} {ts : List TV} (h : RdSl w x 5 (tcs ts) ts.length) {i : Nat} (hi : i < ts.length) (kk : IntKind) :
    ∃ b o, (∀ K : VPost, K (.pointer (some ⟨b, o, none⟩)) w → idxW (some (none, 5)) x (.int kk i) w K) ∧ (∀ K : VPost, K ts[i].v w → loadW (some (true, 5)) (.pointer (some ⟨b, o, none⟩)) w K) := by
  obtain ⟨b, o, cs, q1, q2, q3, q4⟩ := h.elem hi (by decide) kk
  rw [tcs_get hi] at q4
  exact ⟨b, o, q1, fun K hK => loadN q2 q3 (by rw [q4]; exact hK)⟩
theorem RdSl.level {w : World} {x : Value} {ls : List Lv} (h : RdSl w x 5 (lcs ls) ls.length) {i : Nat} (hi : i < ls.length) (kk : IntKind) :
    ∃ b o, (∀ K : VPost, K (.pointer (some ⟨b, o, none⟩)) w → idxW (some (none, 5)) x (.int kk i) w K) ∧ (∀ K : VPost, K (.agg ls[i].cells.toArray) w → loadW (some (true, 5)) (.pointer (some ⟨b, o, none⟩)) w K) := by
  obtain ⟨b, o, cs, q1, q2, q3, q4⟩ := h.elem hi (by decide) kk
  rw [lcs_get hi] at q4
  exact ⟨b, o, q1, fun K hK => loadN q2 q3 (by rw [q4]; exact hK)⟩

/-! Levels, compared. -/
theorem lit_wf {n : Int} (h : i64ok n) : (Lit.int .i64 n).wf = true := by
  have h1 := h.1
  have h2 := h.2
  have h3 : IntKind.min .i64 = -9223372036854775808 := rfl
  simp [Lit.wf]
  rw [h3]
  exact ⟨h1, h2⟩
theorem lits_int (d : Nat) {n : Int} (h : i64ok n) : Tryd.prog.keyLits (d + 1) 3 [iv n] = some [.int .i64 n] := by
  unfold Program.keyLits iv
  rw [und_int]
  simp [lit_wf h]
theorem lits_arr {a b c e : Int} (ha : i64ok a) (hb : i64ok b) (hc : i64ok c) (he : i64ok e) : Tryd.prog.keyLits 2 46 [iv a, iv b, iv c, iv e] = some [.int .i64 a, .int .i64 b, .int .i64 c, .int .i64 e] := by
  unfold Program.keyLits
  rw [(by kernel_rfl : Tryd.prog.underlying 46 = some (.array 4 3))]
  have h4 : Tryd.prog.cellsOf 46 = 4 := by kernel_rfl
  have h1 : Tryd.prog.cellsOf 3 = 1 := by kernel_rfl
  simp [h4, h1, List.range, List.range.loop, lits_int 0 ha, lits_int 0 hb, lits_int 0 hc, lits_int 0 he]
theorem flds_lvl : strF Tryd.prog 48 = some [(3, 0), (46, 1)] := by kernel_rfl
theorem lits_lvl {l : Lv} (h : l.ok) : Tryd.prog.keyLits 3 48 l.cells = some [.int .i64 l.base, .int .i64 l.p0, .int .i64 l.p1, .int .i64 l.p2, .int .i64 l.p3] := by
  have hs := flds_lvl
  unfold strF at hs
  split at hs
  · rename_i fs hu
    simp only [Option.some.injEq] at hs
    unfold Program.keyLits
    rw [hu]
    have h5 : Tryd.prog.cellsOf 48 = 5 := by kernel_rfl
    have h4 : Tryd.prog.cellsOf 46 = 4 := by kernel_rfl
    have h1 : Tryd.prog.cellsOf 3 = 1 := by kernel_rfl
    have hn : (fs.all (·.name != "_")) = true := by
      have h2 : (match Tryd.prog.underlying 48 with | some (.struct fs) => fs.all (·.name != "_") | _ => false) = true := by kernel_rfl
      rw [hu] at h2
      exact h2
    have hm : (fs.toList.mapM fun f => Tryd.prog.keyLits 2 f.type ((l.cells.drop f.offset).take (Tryd.prog.cellsOf f.type))) = (fs.toList.map fun f => (f.type, f.offset)).mapM fun p => Tryd.prog.keyLits 2 p.1 ((l.cells.drop p.2).take (Tryd.prog.cellsOf p.1)) := by
      rw [List.mapM_map]
      rfl
    simp only [hn, and_true]
    rw [hm, hs, if_pos (by rw [h5]; rfl)]
    simp [h4, h1, Lv.cells, lits_int 1 h.b, lits_arr h.k0 h.k1 h.k2 h.k3]
  · cases hs
theorem lvl_lits_inj {a b : Lv} (h : [Lit.int .i64 a.base, .int .i64 a.p0, .int .i64 a.p1, .int .i64 a.p2, .int .i64 a.p3] = [Lit.int .i64 b.base, .int .i64 b.p0, .int .i64 b.p1, .int .i64 b.p2, .int .i64 b.p3]) : a = b := by
  cases a; cases b
  simp at h
  simp [h]
theorem lvl_run {a b : Lv} (ha : a.ok) (hb : b.ok) (w : World) : (Op.equal 48 (.agg a.cells.toArray) (.agg b.cells.toArray)).run Tryd.prog w = .ok (decide (a = b)) w := by
  obtain ⟨r, hr, hi⟩ := run_equalIn_deep (P := Tryd.prog) (10000 - 3) 3 48 (by kernel_rfl) w 3 3 (.agg a.cells.toArray) (.agg b.cells.toArray) _ _ (by kernel_rfl) (by kernel_rfl) (lits_lvl ha) (lits_lvl hb)
  have e : r = decide (a = b) := by
    by_cases h : a = b
    · rw [decide_eq_true h]; exact hi.2 (by rw [h])
    · rw [decide_eq_false h]
      cases r with
      | false => rfl
      | true => exact absurd (lvl_lits_inj (hi.1 rfl)) h
  rw [← e]
  exact hr
theorem lvl_neq {w : World} {K : VPost} {c : Bool} {a b : Lv} (ha : a.ok) (hb : b.ok) (h : K (.bool (!decide (a = b))) w) : binW Tryd.prog .neq 48 c (.agg a.cells.toArray) (.agg b.cells.toArray) w K :=
  (bin_nequal (guard_agg (by kernel_rfl)) rfl (lvl_run ha hb w)).mpr h
theorem str_neq {P : Program} {w : World} {K : VPost} {t : TypeId} {c : Bool} {a b : Bytes} (h : K (.bool (!decide (a = b))) w) : binW P .neq t c (sv a) (sv b) w K := by
  have e : (Op.stringOp .neq ⟨a.toArray⟩ ⟨b.toArray⟩).run P w = .ok (.bool (!decide (a = b))) w := by
    simp only [Op.stringOp, bl_list, Sem.run_pure]
    congr 2
    by_cases h : a = b <;> simp [h]
  show binW P .neq t c (.string ⟨a.toArray⟩) (.string ⟨b.toArray⟩) w K
  unfold binW insW binE
  rw [Sem.run_bind]
  have hg : (guardE .neq t c (.string ⟨a.toArray⟩) (.string ⟨b.toArray⟩)).run P w = .ok () w := by cases c <;> rfl
  rw [hg, Result.andThen_ok]
  show okW K ((Op.stringOp .neq ⟨a.toArray⟩ ⟨b.toArray⟩).run P w)
  rw [e]
  exact h
end Go.Proofs.YtbaddpnlokmldaaDoor
