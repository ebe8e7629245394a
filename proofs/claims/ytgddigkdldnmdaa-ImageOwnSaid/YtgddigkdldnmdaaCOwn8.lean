import Derived.Test.YtgddigkdldnmdaaCOwn7
namespace Go.Proofs.Ytgddigkdldnmdaa
open Go Go.Vg Go.Img
set_option linter.unusedSimpArgs false
set_option maxHeartbeats 4000000
theorem stood68 : Try.prog.stoodInHeld 68 = false := by kernel_rfl
theorem eqg68 : Try.prog.eqGuardType Try.prog.depth 68 = false := by kernel_rfl
theorem stood70 : Try.prog.stoodInHeld 70 = false := by kernel_rfl
theorem eqg70 : Try.prog.eqGuardType Try.prog.depth 70 = false := by kernel_rfl
theorem eqg51 : Try.prog.eqGuardType Try.prog.depth 51 = false := by kernel_rfl
theorem stood39 : Try.prog.stoodInHeld 39 = false := by kernel_rfl
theorem eqg39 : Try.prog.eqGuardType Try.prog.depth 39 = false := by kernel_rfl
theorem en43 : ∀ args w, (callFunc 43 args).run Try.prog w = .ok (.enter 43 args) w := fun args w => callFunc_run Try.func43 (by kernel_rfl) rfl args w
theorem en47 : ∀ args w, (callFunc 47 args).run Try.prog w = .ok (.enter 47 args) w := fun args w => callFunc_run Try.func47 (by kernel_rfl) rfl args w
theorem fd39_2 : FdAt Try.prog 39 2 2 1 false := FdAt.mk' _ _ Try.underlying39 rfl rfl (fun _ => by kernel_rfl) (fun _ => by kernel_rfl)
theorem fd39_4 : FdAt Try.prog 39 4 4 1 false := FdAt.mk' _ _ Try.underlying39 rfl rfl (fun _ => by kernel_rfl) (fun _ => by kernel_rfl)
theorem en48 : ∀ args w, (callFunc 48 args).run Try.prog w = .ok (.enter 48 args) w := fun args w => callFunc_run Try.func48 (by kernel_rfl) rfl args w
theorem fd39_0 : FdAt Try.prog 39 0 0 1 false := FdAt.mk' _ _ Try.underlying39 rfl rfl (fun _ => by kernel_rfl) (fun _ => by kernel_rfl)

theorem sl_snoc {α : Type} {l l2 : List α} {k : Nat} (h : l.take k = l2.take k) (h1 : k < l.length) (h2 : k < l2.length) (hx : l[k] = l2[k]) : l.take (k + 1) = l2.take (k + 1) := by
 rw [List.take_succ_eq_append_getElem h1, List.take_succ_eq_append_getElem h2, h, hx]
theorem sl_snocM {α β : Type} {g : α → β} {l l2 : List α} {k : Nat} (h : (l.take k).map g = (l2.take k).map g) (h1 : k < l.length) (h2 : k < l2.length) (hx : g l[k] = g l2[k]) : (l.take (k + 1)).map g = (l2.take (k + 1)).map g := by
 rw [List.take_succ_eq_append_getElem h1, List.take_succ_eq_append_getElem h2, List.map_append, List.map_append, h, List.map_singleton, List.map_singleton, hx]
theorem sl_eq {α : Type} {l l2 : List α} {k : Nat} (h : l.take k = l2.take k) (h1 : l.length ≤ k) (h2 : l2.length ≤ k) : l = l2 := by rw [List.take_of_length_le h1, List.take_of_length_le h2] at h; exact h
theorem sl_allM {α β : Type} {g : α → β} {l l2 : List α} {k : Nat} (h : (l.take k).map g = (l2.take k).map g) (h1 : l.length ≤ k) (h2 : l2.length ≤ k) : l.map g = l2.map g := by rw [List.take_of_length_le h1, List.take_of_length_le h2] at h; exact h
theorem sl_ne {α : Type} {l l2 : List α} {k : Nat} (h1 : k < l.length) (h2 : k < l2.length) (h : ¬ l[k] = l2[k]) : ¬ l = l2 := by rintro rfl; exact h rfl
theorem eq_pair (x y : Int × Int) : (decide (x.1 = y.1) && (decide (x.2 = y.2) && true)) = decide (x = y) := by
 rw [Bool.eq_iff_iff]; simp only [Bool.and_eq_true, decide_eq_true_eq, and_true, Prod.ext_iff]
theorem eq_cap (x y : CapV) : (decide (x.tag = y.tag) && (decide (x.base = y.base) && (decide (x.top = y.top) && (decide (x.pos = y.pos) && (decide (x.perms = y.perms) && (decide (x.ty = y.ty) && true)))))) = decide (x = y) := by
 rw [Bool.eq_iff_iff]; cases x; cases y; simp
theorem eq_link (x y : LinkV) : (decide (x.fr = y.fr) && (decide (x.to = y.to) && (decide (x.ad = y.ad) && true))) = decide (x = y) := by
 rw [Bool.eq_iff_iff]; cases x; cases y; simp
theorem eq_share (x y : ShareV) : (decide (x.rd = y.rd) && (decide (x.wr = y.wr) && true)) = decide (x = y) := by
 rw [Bool.eq_iff_iff]; cases x; cases y; simp
theorem comp_canon (c c2 : CompV) : c.canon = c2.canon ↔ c.code = c2.code ∧ c.data = c2.data := by cases c; cases c2; simp [CompV.canon]
theorem same_compT {c c2 : CompV} (h : ((!decide ((⟨c.code.toArray⟩ : ByteArray).toList = (⟨c2.code.toArray⟩ : ByteArray).toList)) || decide (c.data ≠ c2.data)) = true) : ¬ c.canon = c2.canon := by
 intro e
 obtain ⟨e1, e2⟩ := (comp_canon c c2).1 e
 rw [e1, e2] at h; simp at h
theorem same_compF {c c2 : CompV} (h : ((!decide ((⟨c.code.toArray⟩ : ByteArray).toList = (⟨c2.code.toArray⟩ : ByteArray).toList)) || decide (c.data ≠ c2.data)) = false) : c.canon = c2.canon := by
 rw [toList_eq, toList_eq] at h
 simp at h
 exact (comp_canon c c2).2 h
def SE (m m2 : ImageV) : Bool := (((((!decide (m.strict = m2.strict)) || decide (m.heap ≠ m2.heap)) || decide (m.full ≠ m2.full)) || decide (((m.comps.length : Nat) : Int) ≠ ((m2.comps.length : Nat) : Int))) || decide (((m.links.length : Nat) : Int) ≠ ((m2.links.length : Nat) : Int))) || decide (((m.shares.length : Nat) : Int) ≠ ((m2.shares.length : Nat) : Int))
structure SameE (m m2 : ImageV) : Prop where
 st : m.strict = m2.strict
 hp : m.heap = m2.heap
 fu : m.full = m2.full
 l1 : m.comps.length = m2.comps.length
 l2 : m.links.length = m2.links.length
 l3 : m.shares.length = m2.shares.length
theorem SE_iff (m m2 : ImageV) : SE m m2 = false ↔ SameE m m2 := by
 unfold SE
 simp only [Bool.or_eq_false_iff, Bool.not_eq_false', decide_eq_true_eq, decide_eq_false_iff_not, ne_eq, Decidable.not_not]
 constructor
 ·rintro ⟨⟨⟨⟨⟨h1, h2⟩, h3⟩, h4⟩, h5⟩, h6⟩
  exact ⟨h1, h2, h3, by omega, by omega, by omega⟩
 ·rintro ⟨h1, h2, h3, h4, h5, h6⟩
  exact ⟨⟨⟨⟨⟨h1, h2⟩, h3⟩, by omega⟩, by omega⟩, by omega⟩
theorem same_E {m m2 : ImageV} (h : SE m m2 = false) : SameE m m2 := (SE_iff m m2).1 h
theorem canon_E {m m2 : ImageV} (h : m.canon = m2.canon) : SameE m m2 ∧ m.comps.map CompV.canon = m2.comps.map CompV.canon ∧ m.links = m2.links ∧ m.shares = m2.shares := by
 simp only [ImageV.canon, ImageV.mk.injEq, true_and] at h
 obtain ⟨h1, h2, h3, h4, h5, h6⟩ := h
 exact ⟨⟨h1, h2, h3, by have := congrArg List.length h4; simpa using this, by rw [h5], by rw [h6]⟩, h4, h5, h6⟩
theorem same_0 {m m2 : ImageV} (h : SE m m2 = true) : ¬ m.canon = m2.canon := by
 intro e
 rw [(SE_iff m m2).2 (canon_E e).1] at h; cases h
theorem same_yes {m m2 : ImageV} (hE : SameE m m2) (h1 : m.comps.map CompV.canon = m2.comps.map CompV.canon) (h2 : m.links = m2.links) (h3 : m.shares = m2.shares) : m.canon = m2.canon := by
 unfold ImageV.canon
 rw [h1, h2, h3, hE.st, hE.hp, hE.fu]
theorem same_n1 {m m2 : ImageV} {k : Nat} (h1 : k < m.comps.length) (h2 : k < m2.comps.length) (h : ¬ (m.comps[k]).canon = (m2.comps[k]).canon) : ¬ m.canon = m2.canon := by
 intro e
 have e1 := (canon_E e).2.1
 have e2 : (m.comps.map CompV.canon)[k]? = (m2.comps.map CompV.canon)[k]? := by rw [e1]
 rw [List.getElem?_map, List.getElem?_map, List.getElem?_eq_getElem h1, List.getElem?_eq_getElem h2] at e2
 exact h (by simpa using e2)
theorem same_n2 {m m2 : ImageV} {k : Nat} (h1 : k < m.links.length) (h2 : k < m2.links.length) (h : ¬ m.links[k] = m2.links[k]) : ¬ m.canon = m2.canon := by
 intro e
 exact sl_ne h1 h2 h (canon_E e).2.2.1
theorem same_n3 {m m2 : ImageV} {k : Nat} (h1 : k < m.shares.length) (h2 : k < m2.shares.length) (h : ¬ m.shares[k] = m2.shares[k]) : ¬ m.canon = m2.canon := by
 intro e
 exact sl_ne h1 h2 h (canon_E e).2.2.2
instance : DecidableEq LayV := fun a b => by
 cases a; cases b
 simp only [LayV.mk.injEq]
 infer_instance
def LE0 (L L2 : LayV) : Bool := ((((!decide (L.codes = L2.codes)) || (!decide (L.datas = L2.datas))) || (!decide (L.heaps = L2.heaps))) || decide (((L.shs.length : Nat) : Int) ≠ ((L2.shs.length : Nat) : Int))) || decide (L.pages ≠ L2.pages)
theorem lay_iff (L L2 : LayV) : LE0 L L2 = false ↔ L.codes = L2.codes ∧ L.datas = L2.datas ∧ L.heaps = L2.heaps ∧ L.shs.length = L2.shs.length ∧ L.pages = L2.pages := by
 unfold LE0
 simp only [Bool.or_eq_false_iff, Bool.not_eq_false', decide_eq_true_eq, decide_eq_false_iff_not, ne_eq, Decidable.not_not, Int.ofNat_inj, and_assoc]
theorem lay_E {L L2 : LayV} (h : LE0 L L2 = false) : L.codes = L2.codes ∧ L.datas = L2.datas ∧ L.heaps = L2.heaps ∧ L.shs.length = L2.shs.length ∧ L.pages = L2.pages := (lay_iff L L2).1 h
theorem lay_no {L L2 : LayV} (h : LE0 L L2 = true) : decide (L = L2) = false := by
 apply decide_eq_false
 rintro rfl
 rw [(lay_iff L L).2 ⟨rfl, rfl, rfl, rfl, rfl⟩] at h; cases h
theorem lay_yes {L L2 : LayV} (h : L.codes = L2.codes ∧ L.datas = L2.datas ∧ L.heaps = L2.heaps ∧ L.shs.length = L2.shs.length ∧ L.pages = L2.pages) (h4 : L.shs = L2.shs) : decide (L = L2) = true := by
 apply decide_eq_true
 cases L; cases L2
 simp only [LayV.mk.injEq]
 exact ⟨h.1, h.2.1, h.2.2.1, h4, h.2.2.2.2⟩
theorem lay_no4 {L L2 : LayV} (h : ¬ L.shs = L2.shs) : decide (L = L2) = false := decide_eq_false fun e => h (by rw [e])
/-- is a capability right? -/
def capA (c : CapV) : Bool := (((((!(decide (0 ≤ c.base) && decide (c.base ≤ 4294967295))) || (!(decide (0 ≤ c.top) && decide (c.top ≤ 4294967295)))) || (!(decide (0 ≤ c.pos) && decide (c.pos ≤ 4294967295)))) || (!(decide (0 ≤ c.perms) && decide (c.perms ≤ 127)))) || decide (c.ty < 0)) || decide (255 < c.ty)
def capR (c : CapV) : Bool := !capA c && (!c.tag || (decide (c.base ≤ c.top) && decide (c.top ≤ 16777216)))
theorem capR_no {tag : Bool} {base top pos perms ty : Int} (h : capA ⟨tag, base, top, pos, perms, ty⟩ = true) : capR ⟨tag, base, top, pos, perms, ty⟩ = false := by unfold capR; rw [h]; rfl
theorem capR_f {base top pos perms ty : Int} (h : capA ⟨false, base, top, pos, perms, ty⟩ = false) : capR ⟨false, base, top, pos, perms, ty⟩ = true := by unfold capR; rw [h]; rfl
theorem capR_t {base top pos perms ty : Int} (h : capA ⟨true, base, top, pos, perms, ty⟩ = false) : capR ⟨true, base, top, pos, perms, ty⟩ = (decide (base ≤ top) && decide (top ≤ 16777216)) := by unfold capR; rw [h]; rfl
def capIn (c : CapV) (a n : Int) : Bool := (((decide (0 ≤ a) && decide (0 ≤ n)) && decide (c.base ≤ a)) && decide (a ≤ c.top)) && decide (n ≤ c.top - a)
theorem capIn_eq (c : CapV) (a n : Int) : ((((decide (0 ≤ a) && decide (0 ≤ n)) && decide (c.base ≤ a)) && decide (a ≤ c.top)) && decide (n ≤ c.top - a)) = capIn c a n := rfl
theorem capin_max {a n b t : Int} (h : (((decide (0 ≤ a) && decide (0 ≤ n)) && decide (b ≤ a)) && decide (a ≤ t)) = true) : (if a < 0 then 0 else a) = a := by
 simp only [Bool.and_eq_true, decide_eq_true_eq] at h
 rw [if_neg (by omega)]
theorem capin_sub {a n b t : Int} (h : (((decide (0 ≤ a) && decide (0 ≤ n)) && decide (b ≤ a)) && decide (a ≤ t)) = true) (ht : -9223372036854775808 ≤ t ∧ t ≤ 9223372036854775807) (_ha : a ≤ 9223372036854775807) : -9223372036854775808 ≤ t - a ∧ t - a ≤ 9223372036854775807 := by
 simp only [Bool.and_eq_true, decide_eq_true_eq] at h
 omega
structure GreatOk (m : ImageV) : Prop where
 c : m.comps.length ≤ 900
 l : m.links.length ≤ 20000
 s : m.shares.length ≤ 20000
 code : ∀ c ∈ m.comps, c.code.length ≤ 20000
theorem min_nat (n : Nat) : (if (20000 : Int) < ((n : Nat) : Int) then (20000 : Int) else ((n : Nat) : Int)) = ((min n 20000 : Nat) : Int) := by split <;> omega
theorem great_snoc {m : ImageV} {k : Nat} (h : ∀ c ∈ m.comps.take k, c.code.length ≤ 20000) (hk : k < m.comps.length) (hc : (m.comps[k]).code.length ≤ 20000) : ∀ c ∈ m.comps.take (k + 1), c.code.length ≤ 20000 := by
 intro c hm
 rw [List.take_succ_eq_append_getElem hk, List.mem_append, List.mem_singleton] at hm
 rcases hm with hm | rfl
 ·exact h c hm
 ·exact hc
theorem great_end {m : ImageV} {k n : Nat} (h1 : m.comps.length + m.links.length + m.shares.length ≤ n) (hg : n < 20000 → ∀ c ∈ m.comps.take k, c.code.length ≤ 20000) (hk : k ≤ m.comps.length) (hc : (decide (((k : Nat) : Int) < ((m.comps.length : Nat) : Int)) && decide (((n : Nat) : Int) < 20000)) = false)
  (hb : ((decide ((20000 : Int) ≤ ((n : Nat) : Int))) || decide ((900 : Int) < ((m.comps.length : Nat) : Int))) = false) : GreatOk m := by
 simp only [Bool.or_eq_false_iff, decide_eq_false_iff_not] at hb
 have hn : n < 20000 := by omega
 simp only [Bool.and_eq_false_iff, decide_eq_false_iff_not] at hc
 have hk' : m.comps.length ≤ k := by rcases hc with hc | hc <;> omega
 have := hg hn
 rw [List.take_of_length_le hk'] at this
 exact ⟨by omega, by omega, by omega, this⟩

set_option maxHeartbeats 3000000 in
/-- seizin/seizinref17.Same -/
theorem same_c (m m2 : ImageV) (w : World) (hm : ∀ i ∈ imgIs m ++ imgIs m2, i.φ w) (hb : ImgB m) (hb2 : ImgB m2) :
  C Try.prog 18 [.agg (imgCells m).toArray, .agg #[.bool m2.strict, .int .i64 m2.heap, .int .i64 m2.full, .slice m2.ca m2.comps.length m2.ccap, .slice m2.la m2.links.length m2.lcap, .slice m2.sa m2.shares.length m2.scap]] w fun v w' => (∃ b, v = .bool b ∧ (b = true ↔ m.canon = m2.canon)) ∧ Grow w w' := by
 have hs0 : St w (fun _ => False) w [] [arrI encComp 2 m.ca m.comps, arrI encLink 3 m.la m.links, arrI encShare 2 m.sa m.shares, codesI m.comps, arrI encComp 2 m2.ca m2.comps, arrI encLink 3 m2.la m2.links, arrI encShare 2 m2.sa m2.shares, codesI m2.comps] := St.start w _ hm
 refine C_of_W [.tmp 4] 127 Try.func18 rfl Try.ntmps18 rfl rfl ?_
 refine W_seq (W_region ?_)
 refine L_cons rfl (O_box (v := .agg (imgCells m).toArray) (cs := (imgCells m)) hs0 rfl rfl rfl ?_)
 intro b1 w2 hb4 hs3
 refine L_cons rfl (O_box (v := .agg #[.bool m2.strict, .int .i64 m2.heap, .int .i64 m2.full, .slice m2.ca m2.comps.length m2.ccap, .slice m2.la m2.links.length m2.lcap, .slice m2.sa m2.shares.length m2.scap]) (cs := [.bool m2.strict, .int .i64 m2.heap, .int .i64 m2.full, .slice m2.ca m2.comps.length m2.ccap, .slice m2.la m2.links.length m2.lcap, .slice m2.sa m2.shares.length m2.scap]) hs3 rfl rfl rfl ?_)
 intro b5 w6 hb8 hs7
 refine L_cons rfl (O_assign (v := .bool false) rfl rfl ?_)
 refine L_nil (thenQ_n (W_seq (W_seq (W_region ?_))))
 refine L_cons rfl (O_fieldAddr rfl fd26_0 rfl (o' := 0) rfl rfl ?_)
 refine L_cons rfl (O_load (v := .bool m.strict) rfl ag4 (cell_of_blk (hs7.get 1 rfl) rfl) rfl ?_)
 refine L_cons rfl (O_fieldAddr rfl fd26_0 rfl (o' := 0) rfl rfl ?_)
 refine L_cons rfl (O_load (v := .bool m2.strict) rfl ag4 (cell_of_blk (hs7.get 0 rfl) rfl) rfl ?_)
 refine L_cons rfl (O_binv (a := .bool m.strict) (b := .bool m2.strict) rfl rfl rfl eg_bool (b_neq_bool un4) ?_)
 refine L_cons rfl (O_move (v := .bool (!decide (m.strict = m2.strict))) rfl rfl ?_)
 refine L_guard_fp (v := .pointer (some ⟨b1, 1, none⟩)) rfl rfl rfl rfl (fun hg9 => O_fieldAddr rfl fd26_1 rfl (o' := 1) rfl rfl ⟨rfl, rfl⟩) ?_
 refine L_guard_fp (v := .int .i64 m.heap) rfl rfl rfl rfl (fun hg10 => O_load (v := .int .i64 m.heap) (show ev _ _ = .pointer (some ⟨b1, 1, none⟩) from if_pos hg10) ag3 (cell_of_blk (hs7.get 1 rfl) rfl) rfl ⟨rfl, rfl⟩) ?_
 refine L_guard_fp (v := .pointer (some ⟨b5, 1, none⟩)) rfl rfl rfl rfl (fun hg11 => O_fieldAddr rfl fd26_1 rfl (o' := 1) rfl rfl ⟨rfl, rfl⟩) ?_
 refine L_guard_fp (v := .int .i64 m2.heap) rfl rfl rfl rfl (fun hg12 => O_load (v := .int .i64 m2.heap) (show ev _ _ = .pointer (some ⟨b5, 1, none⟩) from if_pos hg12) ag3 (cell_of_blk (hs7.get 0 rfl) rfl) rfl ⟨rfl, rfl⟩) ?_
 refine L_guard_fp (v := .bool (decide (m.heap ≠ m2.heap))) rfl rfl rfl rfl (fun hg13 => O_bin (k := .i64) (k' := .i64) (a := m.heap) (b := m2.heap) (show ev _ _ = .int .i64 m.heap from if_pos hg13) (show ev _ _ = .int .i64 m2.heap from if_pos hg13) rfl b_neq ⟨rfl, rfl⟩) ?_
 obtain ⟨B14, hB14⟩ : ∃ b : Bool, b = ((!decide (m.strict = m2.strict)) || decide (m.heap ≠ m2.heap)) := ⟨_, rfl⟩
 refine L_cons rfl (O_pick (v := .bool B14) rfl (Eq.trans (pick_or _ _) (congrArg Value.bool hB14.symm)) rfl ?_)
 refine L_cons rfl (O_move (v := .bool B14) rfl rfl ?_)
 refine L_guard_fp (v := .pointer (some ⟨b1, 2, none⟩)) rfl rfl rfl rfl (fun hg15 => O_fieldAddr rfl fd26_2 rfl (o' := 2) rfl rfl ⟨rfl, rfl⟩) ?_
 refine L_guard_fp (v := .int .i64 m.full) rfl rfl rfl rfl (fun hg16 => O_load (v := .int .i64 m.full) (show ev _ _ = .pointer (some ⟨b1, 2, none⟩) from if_pos hg16) ag3 (cell_of_blk (hs7.get 1 rfl) rfl) rfl ⟨rfl, rfl⟩) ?_
 refine L_guard_fp (v := .pointer (some ⟨b5, 2, none⟩)) rfl rfl rfl rfl (fun hg17 => O_fieldAddr rfl fd26_2 rfl (o' := 2) rfl rfl ⟨rfl, rfl⟩) ?_
 refine L_guard_fp (v := .int .i64 m2.full) rfl rfl rfl rfl (fun hg18 => O_load (v := .int .i64 m2.full) (show ev _ _ = .pointer (some ⟨b5, 2, none⟩) from if_pos hg18) ag3 (cell_of_blk (hs7.get 0 rfl) rfl) rfl ⟨rfl, rfl⟩) ?_
 refine L_guard_fp (v := .bool (decide (m.full ≠ m2.full))) rfl rfl rfl rfl (fun hg19 => O_bin (k := .i64) (k' := .i64) (a := m.full) (b := m2.full) (show ev _ _ = .int .i64 m.full from if_pos hg19) (show ev _ _ = .int .i64 m2.full from if_pos hg19) rfl b_neq ⟨rfl, rfl⟩) ?_
 obtain ⟨B20, hB20⟩ : ∃ b : Bool, b = (B14 || decide (m.full ≠ m2.full)) := ⟨_, rfl⟩
 refine L_cons rfl (O_pick (v := .bool B20) rfl (Eq.trans (pick_or _ _) (congrArg Value.bool hB20.symm)) rfl ?_)
 refine L_cons rfl (O_move (v := .bool B20) rfl rfl ?_)
 refine L_guard_fp (v := .pointer (some ⟨b1, 3, none⟩)) rfl rfl rfl rfl (fun hg21 => O_fieldAddr rfl fd26_3 rfl (o' := 3) rfl rfl ⟨rfl, rfl⟩) ?_
 refine L_guard_fp (v := .slice m.ca m.comps.length m.ccap) rfl rfl rfl rfl (fun hg22 => O_load (v := .slice m.ca m.comps.length m.ccap) (show ev _ _ = .pointer (some ⟨b1, 3, none⟩) from if_pos hg22) ag22 (cell_of_blk (hs7.get 1 rfl) rfl) rfl ⟨rfl, rfl⟩) ?_
 refine L_guard_fp (v := .int .i64 ((m.comps.length : Nat) : Int)) rfl rfl rfl rfl (fun hg23 => O_len_slice (len := m.comps.length) (show ev _ _ = .slice m.ca m.comps.length m.ccap from if_pos hg23) un22 rfl ⟨rfl, rfl⟩) ?_
 refine L_guard_fp (v := .pointer (some ⟨b5, 3, none⟩)) rfl rfl rfl rfl (fun hg24 => O_fieldAddr rfl fd26_3 rfl (o' := 3) rfl rfl ⟨rfl, rfl⟩) ?_
 refine L_guard_fp (v := .slice m2.ca m2.comps.length m2.ccap) rfl rfl rfl rfl (fun hg25 => O_load (v := .slice m2.ca m2.comps.length m2.ccap) (show ev _ _ = .pointer (some ⟨b5, 3, none⟩) from if_pos hg25) ag22 (cell_of_blk (hs7.get 0 rfl) rfl) rfl ⟨rfl, rfl⟩) ?_
 refine L_guard_fp (v := .int .i64 ((m2.comps.length : Nat) : Int)) rfl rfl rfl rfl (fun hg26 => O_len_slice (len := m2.comps.length) (show ev _ _ = .slice m2.ca m2.comps.length m2.ccap from if_pos hg26) un22 rfl ⟨rfl, rfl⟩) ?_
 refine L_guard_fp (v := .bool (decide (((m.comps.length : Nat) : Int) ≠ ((m2.comps.length : Nat) : Int)))) rfl rfl rfl rfl (fun hg27 => O_bin (k := .i64) (k' := .i64) (a := ((m.comps.length : Nat) : Int)) (b := ((m2.comps.length : Nat) : Int)) (show ev _ _ = .int .i64 ((m.comps.length : Nat) : Int) from if_pos hg27) (show ev _ _ = .int .i64 ((m2.comps.length : Nat) : Int) from if_pos hg27) rfl b_neq ⟨rfl, rfl⟩) ?_
 obtain ⟨B28, hB28⟩ : ∃ b : Bool, b = (B20 || (decide (((m.comps.length : Nat) : Int) ≠ ((m2.comps.length : Nat) : Int)))) := ⟨_, rfl⟩
 refine L_cons rfl (O_pick (v := .bool B28) rfl (Eq.trans (pick_or _ _) (congrArg Value.bool hB28.symm)) rfl ?_)
 refine L_cons rfl (O_move (v := .bool B28) rfl rfl ?_)
 refine L_guard_fp (v := .pointer (some ⟨b1, 4, none⟩)) rfl rfl rfl rfl (fun hg29 => O_fieldAddr rfl fd26_4 rfl (o' := 4) rfl rfl ⟨rfl, rfl⟩) ?_
 refine L_guard_fp (v := .slice m.la m.links.length m.lcap) rfl rfl rfl rfl (fun hg30 => O_load (v := .slice m.la m.links.length m.lcap) (show ev _ _ = .pointer (some ⟨b1, 4, none⟩) from if_pos hg30) ag23 (cell_of_blk (hs7.get 1 rfl) rfl) rfl ⟨rfl, rfl⟩) ?_
 refine L_guard_fp (v := .int .i64 ((m.links.length : Nat) : Int)) rfl rfl rfl rfl (fun hg31 => O_len_slice (len := m.links.length) (show ev _ _ = .slice m.la m.links.length m.lcap from if_pos hg31) un23 rfl ⟨rfl, rfl⟩) ?_
 refine L_guard_fp (v := .pointer (some ⟨b5, 4, none⟩)) rfl rfl rfl rfl (fun hg32 => O_fieldAddr rfl fd26_4 rfl (o' := 4) rfl rfl ⟨rfl, rfl⟩) ?_
 refine L_guard_fp (v := .slice m2.la m2.links.length m2.lcap) rfl rfl rfl rfl (fun hg33 => O_load (v := .slice m2.la m2.links.length m2.lcap) (show ev _ _ = .pointer (some ⟨b5, 4, none⟩) from if_pos hg33) ag23 (cell_of_blk (hs7.get 0 rfl) rfl) rfl ⟨rfl, rfl⟩) ?_
 refine L_guard_fp (v := .int .i64 ((m2.links.length : Nat) : Int)) rfl rfl rfl rfl (fun hg34 => O_len_slice (len := m2.links.length) (show ev _ _ = .slice m2.la m2.links.length m2.lcap from if_pos hg34) un23 rfl ⟨rfl, rfl⟩) ?_
 refine L_guard_fp (v := .bool (decide (((m.links.length : Nat) : Int) ≠ ((m2.links.length : Nat) : Int)))) rfl rfl rfl rfl (fun hg35 => O_bin (k := .i64) (k' := .i64) (a := ((m.links.length : Nat) : Int)) (b := ((m2.links.length : Nat) : Int)) (show ev _ _ = .int .i64 ((m.links.length : Nat) : Int) from if_pos hg35) (show ev _ _ = .int .i64 ((m2.links.length : Nat) : Int) from if_pos hg35) rfl b_neq ⟨rfl, rfl⟩) ?_
 obtain ⟨B36, hB36⟩ : ∃ b : Bool, b = (B28 || (decide (((m.links.length : Nat) : Int) ≠ ((m2.links.length : Nat) : Int)))) := ⟨_, rfl⟩
 refine L_cons rfl (O_pick (v := .bool B36) rfl (Eq.trans (pick_or _ _) (congrArg Value.bool hB36.symm)) rfl ?_)
 refine L_cons rfl (O_move (v := .bool B36) rfl rfl ?_)
 refine L_guard_fp (v := .pointer (some ⟨b1, 5, none⟩)) rfl rfl rfl rfl (fun hg37 => O_fieldAddr rfl fd26_5 rfl (o' := 5) rfl rfl ⟨rfl, rfl⟩) ?_
 refine L_guard_fp (v := .slice m.sa m.shares.length m.scap) rfl rfl rfl rfl (fun hg38 => O_load (v := .slice m.sa m.shares.length m.scap) (show ev _ _ = .pointer (some ⟨b1, 5, none⟩) from if_pos hg38) ag24 (cell_of_blk (hs7.get 1 rfl) rfl) rfl ⟨rfl, rfl⟩) ?_
 refine L_guard_fp (v := .int .i64 ((m.shares.length : Nat) : Int)) rfl rfl rfl rfl (fun hg39 => O_len_slice (len := m.shares.length) (show ev _ _ = .slice m.sa m.shares.length m.scap from if_pos hg39) un24 rfl ⟨rfl, rfl⟩) ?_
 refine L_guard_fp (v := .pointer (some ⟨b5, 5, none⟩)) rfl rfl rfl rfl (fun hg40 => O_fieldAddr rfl fd26_5 rfl (o' := 5) rfl rfl ⟨rfl, rfl⟩) ?_
 refine L_guard_fp (v := .slice m2.sa m2.shares.length m2.scap) rfl rfl rfl rfl (fun hg41 => O_load (v := .slice m2.sa m2.shares.length m2.scap) (show ev _ _ = .pointer (some ⟨b5, 5, none⟩) from if_pos hg41) ag24 (cell_of_blk (hs7.get 0 rfl) rfl) rfl ⟨rfl, rfl⟩) ?_
 refine L_guard_fp (v := .int .i64 ((m2.shares.length : Nat) : Int)) rfl rfl rfl rfl (fun hg42 => O_len_slice (len := m2.shares.length) (show ev _ _ = .slice m2.sa m2.shares.length m2.scap from if_pos hg42) un24 rfl ⟨rfl, rfl⟩) ?_
 refine L_guard_fp (v := .bool (decide (((m.shares.length : Nat) : Int) ≠ ((m2.shares.length : Nat) : Int)))) rfl rfl rfl rfl (fun hg43 => O_bin (k := .i64) (k' := .i64) (a := ((m.shares.length : Nat) : Int)) (b := ((m2.shares.length : Nat) : Int)) (show ev _ _ = .int .i64 ((m.shares.length : Nat) : Int) from if_pos hg43) (show ev _ _ = .int .i64 ((m2.shares.length : Nat) : Int) from if_pos hg43) rfl b_neq ⟨rfl, rfl⟩) ?_
 obtain ⟨B44, hB44⟩ : ∃ b : Bool, b = (B36 || (decide (((m.shares.length : Nat) : Int) ≠ ((m2.shares.length : Nat) : Int)))) := ⟨_, rfl⟩
 refine L_cons rfl (O_pick (v := .bool B44) rfl (Eq.trans (pick_or _ _) (congrArg Value.bool hB44.symm)) rfl ?_)
 subst hB44
 subst hB36
 subst hB28
 subst hB20
 subst hB14
 refine L_nil (thenQ_n ?_)
 refine W_cond (t := ((((((!decide (m.strict = m2.strict)) || decide (m.heap ≠ m2.heap)) || decide (m.full ≠ m2.full)) || (decide (((m.comps.length : Nat) : Int) ≠ ((m2.comps.length : Nat) : Int)))) || (decide (((m.links.length : Nat) : Int) ≠ ((m2.links.length : Nat) : Int)))) || (decide (((m.shares.length : Nat) : Int) ≠ ((m2.shares.length : Nat) : Int))))) rfl (fun hc45 => ?_) (fun hc45 => ?_)
 ·refine W_seq (W_region ?_)
  refine L_cons rfl (O_assign (v := .bool false) rfl rfl ?_)
  refine L_nil (thenQ_n (W_ret (thenQ_r ?_)))
  refine ⟨.bool false, res1 rfl, ?_⟩
  exact ⟨⟨false, rfl, ⟨fun h => (Bool.false_ne_true h).elim, fun h => absurd h (same_0 hc45)⟩⟩, hs7.base⟩
 ·refine W_skip (thenQ_n (W_seq (W_seq ?_)))
  have hE := same_E hc45
  have hq1 := hE.l1; have hq2 := hE.l2; have hq3 := hE.l3; have := hb.cl; have := hb.ll; have := hb.sl
  refine W_region ?_
  refine L_cons rfl (O_assign (v := .int .i64 0) rfl rfl ?_)
  refine L_nil (thenQ_n (W_block ?_))
  refine W_loopm (fun m_ f_ w_ => ∃ k : Nat, m_ = m.comps.length - k ∧ (k ≤ m.comps.length) ∧ ((m.comps.take k).map CompV.canon = (m2.comps.take k).map CompV.canon) ∧ f_ 2 = .pointer (some ⟨b1, 0, none⟩) ∧ f_ 3 = .pointer (some ⟨b5, 0, none⟩) ∧ f_ 5 = .int .i64 ((k : Nat) : Int) ∧ St w (fun _ => False) w_ [blk b5 [.bool m2.strict, .int .i64 m2.heap, .int .i64 m2.full, .slice m2.ca m2.comps.length m2.ccap, .slice m2.la m2.links.length m2.lcap, .slice m2.sa m2.shares.length m2.scap] 26, blk b1 (imgCells m) 26] [arrI encComp 2 m.ca m.comps, arrI encLink 3 m.la m.links, arrI encShare 2 m.sa m.shares, codesI m.comps, arrI encComp 2 m2.ca m2.comps, arrI encLink 3 m2.la m2.links, arrI encShare 2 m2.sa m2.shares, codesI m2.comps]) ?_ ?_
  ·exact ⟨_, 0, rfl, Nat.zero_le _, rfl, rfl, rfl, rfl, hs7⟩
  ·intro m49 f46 w47; rintro ⟨k, rfl, hk, ha, e50, e51, e52, hs48⟩
   rewrite [upd_id e50]
   rewrite [upd_id e51]
   rewrite [upd_id e52]
   refine W_seq (W_seq (W_region ?_))
   refine L_cons rfl (O_move (v := .int .i64 ((k : Nat) : Int)) rfl rfl ?_)
   refine L_cons rfl (O_fieldAddr rfl fd26_3 rfl (o' := 3) rfl rfl ?_)
   refine L_cons rfl (O_load (v := .slice m.ca m.comps.length m.ccap) rfl ag22 (cell_of_blk (hs48.get 1 rfl) rfl) rfl ?_)
   refine L_cons rfl (O_len_slice (len := m.comps.length) rfl un22 rfl ?_)
   refine L_cons rfl (O_bin (k := .i64) (k' := .i64) (a := ((k : Nat) : Int)) (b := ((m.comps.length : Nat) : Int)) rfl rfl rfl b_lss ?_)
   refine L_nil (thenQ_n ?_)
   refine W_cond_d rfl (fun hc53 => ?_) (fun hc53 => ?_)
   ·refine W_skip (thenQ_n (W_seq (W_block (W_seq ?_))))
    have hs54 := hs48.addRsub 3 rfl (arrI encB 1 ((m.comps[k]'(by omega)).a) ((m.comps[k]'(by omega)).code)) (hs48.getR 3 rfl _ (List.getElem_mem (by omega))) (fun b hb => ⟨_, List.getElem_mem (by omega), hb⟩)
    have hs55 := hs54.addRsub 8 rfl (arrI encB 1 ((m2.comps[k]'(by omega)).a) ((m2.comps[k]'(by omega)).code)) (hs54.getR 8 rfl _ (List.getElem_mem (by omega))) (fun b hb => ⟨_, List.getElem_mem (by omega), hb⟩)
    obtain ⟨b56, o57, ha58, hs59⟩ := hs55.elem 2 rfl k (by omega)
    obtain ⟨b60, o61, ha62, hs63⟩ := hs59.elem 7 rfl k (by omega)
    obtain ⟨B77, hB77⟩ : ∃ b : Bool, b = ((!decide ((⟨((m.comps[k]'(by omega)).code).toArray⟩ : ByteArray).toList = (⟨((m2.comps[k]'(by omega)).code).toArray⟩ : ByteArray).toList)) || (decide (((m.comps[k]'(by omega)).data) ≠ ((m2.comps[k]'(by omega)).data)))) := ⟨_, rfl⟩
    refine W_par' mixed (show St _ _ _ [blk b5 [.bool m2.strict, .int .i64 m2.heap, .int .i64 m2.full, .slice m2.ca m2.comps.length m2.ccap, .slice m2.la m2.links.length m2.lcap, .slice m2.sa m2.shares.length m2.scap] 26, blk b1 (imgCells m) 26] _ from hs63) (fun i_ => match i_ with | _ => none) (fun i_ => match i_ with | _ => []) (fun i_ => match i_ with | 1 => [31] | 8 => [30] | 17 => [31] | 23 => [30] | _ => []) (fun i_ => match i_ with | 1 => [0] | 3 => [1, 2] | 4 => [3] | 5 => [4] | 6 => [5] | 8 => [7] | 10 => [8, 9] | 11 => [10] | 12 => [11] | 13 => [12] | 14 => [6, 13] | 15 => [14] | 16 => [15] | 17 => [15, 16] | 18 => [15] | 19 => [15, 17, 18] | 20 => [15, 19] | 21 => [15, 20] | 22 => [15] | 23 => [15, 22] | 24 => [15] | 25 => [15, 23, 24] | 26 => [15, 25] | 27 => [15, 26] | 28 => [15, 21, 27] | 29 => [15, 28] | _ => []) [30, 31, 0, 1, 2, 3, 4, 5, 6, 7, 8, 9, 10, 11, 12, 13, 14, 15, 16, 17, 18, 19, 20, 21, 22, 23, 24, 25, 26, 27, 28, 29, 32, 33, 34, 35, 36, 37, 38, 39, 40, 41, 42, 43, 44, 45, 46, 47, 48, 49, 50, 51, 52, 53, 54, 55, 56, 57, 58, 59, 60, 61] [29] (fun i_ v_ => match i_ with | 0 => v_ = .pointer (some ⟨b1, 3, none⟩) | 1 => v_ = .slice m.ca m.comps.length m.ccap | 2 => v_ = .int .i64 ((k : Nat) : Int) | 3 => v_ = .pointer (some ⟨b56, o57 + k * 2, none⟩) | 4 => v_ = .pointer (some ⟨b56, o57 + k * 2, none⟩) | 5 => v_ = .slice ((m.comps[k]'(by omega)).a) ((m.comps[k]'(by omega)).code.length) ((m.comps[k]'(by omega)).cap) | 6 => v_ = .string (⟨((m.comps[k]'(by omega)).code).toArray⟩) | 7 => v_ = .pointer (some ⟨b5, 3, none⟩) | 8 => v_ = .slice m2.ca m2.comps.length m2.ccap | 9 => v_ = .int .i64 ((k : Nat) : Int) | 10 => v_ = .pointer (some ⟨b60, o61 + k * 2, none⟩) | 11 => v_ = .pointer (some ⟨b60, o61 + k * 2, none⟩) | 12 => v_ = .slice ((m2.comps[k]'(by omega)).a) ((m2.comps[k]'(by omega)).code.length) ((m2.comps[k]'(by omega)).cap) | 13 => v_ = .string (⟨((m2.comps[k]'(by omega)).code).toArray⟩) | 14 => v_ = .bool (!decide ((⟨((m.comps[k]'(by omega)).code).toArray⟩ : ByteArray).toList = (⟨((m2.comps[k]'(by omega)).code).toArray⟩ : ByteArray).toList)) | 15 => v_ = .bool (!decide ((⟨((m.comps[k]'(by omega)).code).toArray⟩ : ByteArray).toList = (⟨((m2.comps[k]'(by omega)).code).toArray⟩ : ByteArray).toList)) | 16 => v_ = if (!decide ((⟨((m.comps[k]'(by omega)).code).toArray⟩ : ByteArray).toList = (⟨((m2.comps[k]'(by omega)).code).toArray⟩ : ByteArray).toList)) = false then .pointer (some ⟨b1, 3, none⟩) else undef | 17 => v_ = if (!decide ((⟨((m.comps[k]'(by omega)).code).toArray⟩ : ByteArray).toList = (⟨((m2.comps[k]'(by omega)).code).toArray⟩ : ByteArray).toList)) = false then .slice m.ca m.comps.length m.ccap else undef | 18 => v_ = if (!decide ((⟨((m.comps[k]'(by omega)).code).toArray⟩ : ByteArray).toList = (⟨((m2.comps[k]'(by omega)).code).toArray⟩ : ByteArray).toList)) = false then .int .i64 ((k : Nat) : Int) else undef | 19 => v_ = if (!decide ((⟨((m.comps[k]'(by omega)).code).toArray⟩ : ByteArray).toList = (⟨((m2.comps[k]'(by omega)).code).toArray⟩ : ByteArray).toList)) = false then .pointer (some ⟨b56, o57 + k * 2, none⟩) else undef | 20 => v_ = if (!decide ((⟨((m.comps[k]'(by omega)).code).toArray⟩ : ByteArray).toList = (⟨((m2.comps[k]'(by omega)).code).toArray⟩ : ByteArray).toList)) = false then .pointer (some ⟨b56, o57 + k * 2 + 1, none⟩) else undef | 21 => v_ = if (!decide ((⟨((m.comps[k]'(by omega)).code).toArray⟩ : ByteArray).toList = (⟨((m2.comps[k]'(by omega)).code).toArray⟩ : ByteArray).toList)) = false then .int .i64 ((m.comps[k]'(by omega)).data) else undef | 22 => v_ = if (!decide ((⟨((m.comps[k]'(by omega)).code).toArray⟩ : ByteArray).toList = (⟨((m2.comps[k]'(by omega)).code).toArray⟩ : ByteArray).toList)) = false then .pointer (some ⟨b5, 3, none⟩) else undef | 23 => v_ = if (!decide ((⟨((m.comps[k]'(by omega)).code).toArray⟩ : ByteArray).toList = (⟨((m2.comps[k]'(by omega)).code).toArray⟩ : ByteArray).toList)) = false then .slice m2.ca m2.comps.length m2.ccap else undef | 24 => v_ = if (!decide ((⟨((m.comps[k]'(by omega)).code).toArray⟩ : ByteArray).toList = (⟨((m2.comps[k]'(by omega)).code).toArray⟩ : ByteArray).toList)) = false then .int .i64 ((k : Nat) : Int) else undef | 25 => v_ = if (!decide ((⟨((m.comps[k]'(by omega)).code).toArray⟩ : ByteArray).toList = (⟨((m2.comps[k]'(by omega)).code).toArray⟩ : ByteArray).toList)) = false then .pointer (some ⟨b60, o61 + k * 2, none⟩) else undef | 26 => v_ = if (!decide ((⟨((m.comps[k]'(by omega)).code).toArray⟩ : ByteArray).toList = (⟨((m2.comps[k]'(by omega)).code).toArray⟩ : ByteArray).toList)) = false then .pointer (some ⟨b60, o61 + k * 2 + 1, none⟩) else undef | 27 => v_ = if (!decide ((⟨((m.comps[k]'(by omega)).code).toArray⟩ : ByteArray).toList = (⟨((m2.comps[k]'(by omega)).code).toArray⟩ : ByteArray).toList)) = false then .int .i64 ((m2.comps[k]'(by omega)).data) else undef | 28 => v_ = if (!decide ((⟨((m.comps[k]'(by omega)).code).toArray⟩ : ByteArray).toList = (⟨((m2.comps[k]'(by omega)).code).toArray⟩ : ByteArray).toList)) = false then .bool (decide (((m.comps[k]'(by omega)).data) ≠ ((m2.comps[k]'(by omega)).data))) else undef | 29 => v_ = .bool B77 | _ => True) (by kernel_rfl) (by kernel_rfl) ⟨?_, ?_, ?_, ?_, ?_, ?_, ?_, ?_, ?_, ?_, ?_, ?_, ?_, ?_, ?_, ?_, ?_, ?_, ?_, ?_, ?_, ?_, ?_, ?_, ?_, ?_, ?_, ?_, ?_, ?_, trivial⟩ ?_
    ·intro f0_ w0_ X0_ hfr hus hrd hst
     have hb2 : f0_ 2 = .pointer (some ⟨b1, 0, none⟩) := (hfr 2 rfl)
     refine og_none rfl (O_fieldAddr hb2 fd26_3 rfl (o' := 3) rfl rfl ?_)
     exact ⟨.pointer (some ⟨b1, 3, none⟩), rfl, rfl, hst⟩
    ·intro f1_ w1_ X1_ hfr hus hrd hst
     obtain ⟨hu0, -⟩ := hus
     have hu0 : f1_ 61 = .pointer (some ⟨b1, 3, none⟩) := hu0
     obtain ⟨hr31, -⟩ := hrd
     have hr31 : Item.φ (blk b1 (imgCells m) 26) w1_ := hr31
     refine og_none rfl (O_load (v := .slice m.ca m.comps.length m.ccap) hu0 ag22 (cell_of_blk (hr31) rfl) rfl ?_)
     exact ⟨.slice m.ca m.comps.length m.ccap, rfl, rfl, hst⟩
    ·intro f2_ w2_ X2_ hfr hus hrd hst
     have hb5 : f2_ 5 = .int .i64 ((k : Nat) : Int) := (hfr 5 rfl)
     refine og_none rfl (O_move (v := .int .i64 ((k : Nat) : Int)) hb5 rfl ?_)
     exact ⟨.int .i64 ((k : Nat) : Int), rfl, rfl, hst⟩
    ·intro f3_ w3_ X3_ hfr hus hrd hst
     obtain ⟨hu1, hu2, -⟩ := hus
     have hu1 : f3_ 62 = .slice m.ca m.comps.length m.ccap := hu1
     have hu2 : f3_ 63 = .int .i64 ((k : Nat) : Int) := hu2
     refine og_none rfl (O_indexAddr_at hu1 ha58 hu2 un22 sz53 (by omega) (by omega) (o' := o57 + k * 2) (by omega) rfl ?_)
     exact ⟨.pointer (some ⟨b56, o57 + k * 2, none⟩), rfl, rfl, hst⟩
    ·intro f4_ w4_ X4_ hfr hus hrd hst
     obtain ⟨hu3, -⟩ := hus
     have hu3 : f4_ 64 = .pointer (some ⟨b56, o57 + k * 2, none⟩) := hu3
     refine og_none rfl (O_fieldAddr hu3 fd53_0 rfl (o' := o57 + k * 2) rfl rfl ?_)
     exact ⟨.pointer (some ⟨b56, o57 + k * 2, none⟩), rfl, rfl, hst⟩
    ·intro f5_ w5_ X5_ hfr hus hrd hst
     obtain ⟨hu4, -⟩ := hus
     have hu4 : f5_ 65 = .pointer (some ⟨b56, o57 + k * 2, none⟩) := hu4
     refine og_none rfl (O_load (v := .slice ((m.comps[k]'(by omega)).a) ((m.comps[k]'(by omega)).code.length) ((m.comps[k]'(by omega)).cap)) hu4 ag27 ((hst.getR 1 rfl).2 0 _ rfl) rfl ?_)
     exact ⟨.slice ((m.comps[k]'(by omega)).a) ((m.comps[k]'(by omega)).code.length) ((m.comps[k]'(by omega)).cap), rfl, rfl, hst⟩
    ·intro f6_ w6_ X6_ hfr hus hrd hst
     obtain ⟨hu5, -⟩ := hus
     have hu5 : f6_ 66 = .slice ((m.comps[k]'(by omega)).a) ((m.comps[k]'(by omega)).code.length) ((m.comps[k]'(by omega)).cap) := hu5
     refine og_none rfl (O_bytes_str (enc := encB) (fun _ => rfl) hu5 (hst.getR 3 rfl) rfl un27 un5 un9 rfl ?_)
     exact ⟨.string (⟨((m.comps[k]'(by omega)).code).toArray⟩), rfl, rfl, hst⟩
    ·intro f7_ w7_ X7_ hfr hus hrd hst
     have hb3 : f7_ 3 = .pointer (some ⟨b5, 0, none⟩) := (hfr 3 rfl)
     refine og_none rfl (O_fieldAddr hb3 fd26_3 rfl (o' := 3) rfl rfl ?_)
     exact ⟨.pointer (some ⟨b5, 3, none⟩), rfl, rfl, hst⟩
    ·intro f8_ w8_ X8_ hfr hus hrd hst
     obtain ⟨hu7, -⟩ := hus
     have hu7 : f8_ 68 = .pointer (some ⟨b5, 3, none⟩) := hu7
     obtain ⟨hr30, -⟩ := hrd
     have hr30 : Item.φ (blk b5 [.bool m2.strict, .int .i64 m2.heap, .int .i64 m2.full, .slice m2.ca m2.comps.length m2.ccap, .slice m2.la m2.links.length m2.lcap, .slice m2.sa m2.shares.length m2.scap] 26) w8_ := hr30
     refine og_none rfl (O_load (v := .slice m2.ca m2.comps.length m2.ccap) hu7 ag22 (cell_of_blk (hr30) rfl) rfl ?_)
     exact ⟨.slice m2.ca m2.comps.length m2.ccap, rfl, rfl, hst⟩
    ·intro f9_ w9_ X9_ hfr hus hrd hst
     have hb5 : f9_ 5 = .int .i64 ((k : Nat) : Int) := (hfr 5 rfl)
     refine og_none rfl (O_move (v := .int .i64 ((k : Nat) : Int)) hb5 rfl ?_)
     exact ⟨.int .i64 ((k : Nat) : Int), rfl, rfl, hst⟩
    ·intro f10_ w10_ X10_ hfr hus hrd hst
     obtain ⟨hu8, hu9, -⟩ := hus
     have hu8 : f10_ 69 = .slice m2.ca m2.comps.length m2.ccap := hu8
     have hu9 : f10_ 70 = .int .i64 ((k : Nat) : Int) := hu9
     refine og_none rfl (O_indexAddr_at hu8 ha62 hu9 un22 sz53 (by omega) (by omega) (o' := o61 + k * 2) (by omega) rfl ?_)
     exact ⟨.pointer (some ⟨b60, o61 + k * 2, none⟩), rfl, rfl, hst⟩
    ·intro f11_ w11_ X11_ hfr hus hrd hst
     obtain ⟨hu10, -⟩ := hus
     have hu10 : f11_ 71 = .pointer (some ⟨b60, o61 + k * 2, none⟩) := hu10
     refine og_none rfl (O_fieldAddr hu10 fd53_0 rfl (o' := o61 + k * 2) rfl rfl ?_)
     exact ⟨.pointer (some ⟨b60, o61 + k * 2, none⟩), rfl, rfl, hst⟩
    ·intro f12_ w12_ X12_ hfr hus hrd hst
     obtain ⟨hu11, -⟩ := hus
     have hu11 : f12_ 72 = .pointer (some ⟨b60, o61 + k * 2, none⟩) := hu11
     refine og_none rfl (O_load (v := .slice ((m2.comps[k]'(by omega)).a) ((m2.comps[k]'(by omega)).code.length) ((m2.comps[k]'(by omega)).cap)) hu11 ag27 ((hst.getR 0 rfl).2 0 _ rfl) rfl ?_)
     exact ⟨.slice ((m2.comps[k]'(by omega)).a) ((m2.comps[k]'(by omega)).code.length) ((m2.comps[k]'(by omega)).cap), rfl, rfl, hst⟩
    ·intro f13_ w13_ X13_ hfr hus hrd hst
     obtain ⟨hu12, -⟩ := hus
     have hu12 : f13_ 73 = .slice ((m2.comps[k]'(by omega)).a) ((m2.comps[k]'(by omega)).code.length) ((m2.comps[k]'(by omega)).cap) := hu12
     refine og_none rfl (O_bytes_str (enc := encB) (fun _ => rfl) hu12 (hst.getR 2 rfl) rfl un27 un5 un9 rfl ?_)
     exact ⟨.string (⟨((m2.comps[k]'(by omega)).code).toArray⟩), rfl, rfl, hst⟩
    ·intro f14_ w14_ X14_ hfr hus hrd hst
     obtain ⟨hu6, hu13, -⟩ := hus
     have hu6 : f14_ 67 = .string (⟨((m.comps[k]'(by omega)).code).toArray⟩) := hu6
     have hu13 : f14_ 74 = .string (⟨((m2.comps[k]'(by omega)).code).toArray⟩) := hu13
     refine og_none rfl (O_binv (a := .string (⟨((m.comps[k]'(by omega)).code).toArray⟩)) (b := .string (⟨((m2.comps[k]'(by omega)).code).toArray⟩)) hu6 hu13 rfl eg_string b_neq_string ?_)
     exact ⟨.bool (!decide ((⟨((m.comps[k]'(by omega)).code).toArray⟩ : ByteArray).toList = (⟨((m2.comps[k]'(by omega)).code).toArray⟩ : ByteArray).toList)), rfl, rfl, hst⟩
    ·intro f15_ w15_ X15_ hfr hus hrd hst
     obtain ⟨hu14, -⟩ := hus
     have hu14 : f15_ 75 = .bool (!decide ((⟨((m.comps[k]'(by omega)).code).toArray⟩ : ByteArray).toList = (⟨((m2.comps[k]'(by omega)).code).toArray⟩ : ByteArray).toList)) := hu14
     refine og_none rfl (O_move (v := .bool (!decide ((⟨((m.comps[k]'(by omega)).code).toArray⟩ : ByteArray).toList = (⟨((m2.comps[k]'(by omega)).code).toArray⟩ : ByteArray).toList))) hu14 rfl ?_)
     exact ⟨.bool (!decide ((⟨((m.comps[k]'(by omega)).code).toArray⟩ : ByteArray).toList = (⟨((m2.comps[k]'(by omega)).code).toArray⟩ : ByteArray).toList)), rfl, rfl, hst⟩
    ·intro f16_ w16_ X16_ hfr hus hrd hst
     obtain ⟨hu15, -⟩ := hus
     have hu15 : f16_ 76 = .bool (!decide ((⟨((m.comps[k]'(by omega)).code).toArray⟩ : ByteArray).toList = (⟨((m2.comps[k]'(by omega)).code).toArray⟩ : ByteArray).toList)) := hu15
     have hb2 : f16_ 2 = .pointer (some ⟨b1, 0, none⟩) := (hfr 2 rfl)
     refine og_some rfl (c := (!decide ((⟨((m.comps[k]'(by omega)).code).toArray⟩ : ByteArray).toList = (⟨((m2.comps[k]'(by omega)).code).toArray⟩ : ByteArray).toList))) hu15 (fun hg64 => ?_) (fun hg64 => ⟨undef, rfl, (if_neg (by rw [hg64]; decide)).symm, hst⟩)
     refine O_fieldAddr hb2 fd26_3 rfl (o' := 3) rfl rfl ?_
     exact ⟨.pointer (some ⟨b1, 3, none⟩), rfl, (if_pos hg64).symm, hst⟩
    ·intro f17_ w17_ X17_ hfr hus hrd hst
     obtain ⟨hu15, hu16, -⟩ := hus
     have hu15 : f17_ 76 = .bool (!decide ((⟨((m.comps[k]'(by omega)).code).toArray⟩ : ByteArray).toList = (⟨((m2.comps[k]'(by omega)).code).toArray⟩ : ByteArray).toList)) := hu15
     have hu16 : f17_ 77 = if (!decide ((⟨((m.comps[k]'(by omega)).code).toArray⟩ : ByteArray).toList = (⟨((m2.comps[k]'(by omega)).code).toArray⟩ : ByteArray).toList)) = false then .pointer (some ⟨b1, 3, none⟩) else undef := hu16
     obtain ⟨hr31, -⟩ := hrd
     have hr31 : Item.φ (blk b1 (imgCells m) 26) w17_ := hr31
     refine og_some rfl (c := (!decide ((⟨((m.comps[k]'(by omega)).code).toArray⟩ : ByteArray).toList = (⟨((m2.comps[k]'(by omega)).code).toArray⟩ : ByteArray).toList))) hu15 (fun hg65 => ?_) (fun hg65 => ⟨undef, rfl, (if_neg (by rw [hg65]; decide)).symm, hst⟩)
     refine O_load (v := .slice m.ca m.comps.length m.ccap) (Eq.trans hu16 (if_pos hg65)) ag22 (cell_of_blk (hr31) rfl) rfl ?_
     exact ⟨.slice m.ca m.comps.length m.ccap, rfl, (if_pos hg65).symm, hst⟩
    ·intro f18_ w18_ X18_ hfr hus hrd hst
     obtain ⟨hu15, -⟩ := hus
     have hu15 : f18_ 76 = .bool (!decide ((⟨((m.comps[k]'(by omega)).code).toArray⟩ : ByteArray).toList = (⟨((m2.comps[k]'(by omega)).code).toArray⟩ : ByteArray).toList)) := hu15
     have hb5 : f18_ 5 = .int .i64 ((k : Nat) : Int) := (hfr 5 rfl)
     refine og_some rfl (c := (!decide ((⟨((m.comps[k]'(by omega)).code).toArray⟩ : ByteArray).toList = (⟨((m2.comps[k]'(by omega)).code).toArray⟩ : ByteArray).toList))) hu15 (fun hg66 => ?_) (fun hg66 => ⟨undef, rfl, (if_neg (by rw [hg66]; decide)).symm, hst⟩)
     refine O_move (v := .int .i64 ((k : Nat) : Int)) hb5 rfl ?_
     exact ⟨.int .i64 ((k : Nat) : Int), rfl, (if_pos hg66).symm, hst⟩
    ·intro f19_ w19_ X19_ hfr hus hrd hst
     obtain ⟨hu15, hu17, hu18, -⟩ := hus
     have hu15 : f19_ 76 = .bool (!decide ((⟨((m.comps[k]'(by omega)).code).toArray⟩ : ByteArray).toList = (⟨((m2.comps[k]'(by omega)).code).toArray⟩ : ByteArray).toList)) := hu15
     have hu17 : f19_ 78 = if (!decide ((⟨((m.comps[k]'(by omega)).code).toArray⟩ : ByteArray).toList = (⟨((m2.comps[k]'(by omega)).code).toArray⟩ : ByteArray).toList)) = false then .slice m.ca m.comps.length m.ccap else undef := hu17
     have hu18 : f19_ 79 = if (!decide ((⟨((m.comps[k]'(by omega)).code).toArray⟩ : ByteArray).toList = (⟨((m2.comps[k]'(by omega)).code).toArray⟩ : ByteArray).toList)) = false then .int .i64 ((k : Nat) : Int) else undef := hu18
     refine og_some rfl (c := (!decide ((⟨((m.comps[k]'(by omega)).code).toArray⟩ : ByteArray).toList = (⟨((m2.comps[k]'(by omega)).code).toArray⟩ : ByteArray).toList))) hu15 (fun hg67 => ?_) (fun hg67 => ⟨undef, rfl, (if_neg (by rw [hg67]; decide)).symm, hst⟩)
     refine O_indexAddr_at (Eq.trans hu17 (if_pos hg67)) ha58 (Eq.trans hu18 (if_pos hg67)) un22 sz53 (by omega) (by omega) (o' := o57 + k * 2) (by omega) rfl ?_
     exact ⟨.pointer (some ⟨b56, o57 + k * 2, none⟩), rfl, (if_pos hg67).symm, hst⟩
    ·intro f20_ w20_ X20_ hfr hus hrd hst
     obtain ⟨hu15, hu19, -⟩ := hus
     have hu15 : f20_ 76 = .bool (!decide ((⟨((m.comps[k]'(by omega)).code).toArray⟩ : ByteArray).toList = (⟨((m2.comps[k]'(by omega)).code).toArray⟩ : ByteArray).toList)) := hu15
     have hu19 : f20_ 80 = if (!decide ((⟨((m.comps[k]'(by omega)).code).toArray⟩ : ByteArray).toList = (⟨((m2.comps[k]'(by omega)).code).toArray⟩ : ByteArray).toList)) = false then .pointer (some ⟨b56, o57 + k * 2, none⟩) else undef := hu19
     refine og_some rfl (c := (!decide ((⟨((m.comps[k]'(by omega)).code).toArray⟩ : ByteArray).toList = (⟨((m2.comps[k]'(by omega)).code).toArray⟩ : ByteArray).toList))) hu15 (fun hg68 => ?_) (fun hg68 => ⟨undef, rfl, (if_neg (by rw [hg68]; decide)).symm, hst⟩)
     refine O_fieldAddr (Eq.trans hu19 (if_pos hg68)) fd53_1 rfl (o' := o57 + k * 2 + 1) rfl rfl ?_
     exact ⟨.pointer (some ⟨b56, o57 + k * 2 + 1, none⟩), rfl, (if_pos hg68).symm, hst⟩
    ·intro f21_ w21_ X21_ hfr hus hrd hst
     obtain ⟨hu15, hu20, -⟩ := hus
     have hu15 : f21_ 76 = .bool (!decide ((⟨((m.comps[k]'(by omega)).code).toArray⟩ : ByteArray).toList = (⟨((m2.comps[k]'(by omega)).code).toArray⟩ : ByteArray).toList)) := hu15
     have hu20 : f21_ 81 = if (!decide ((⟨((m.comps[k]'(by omega)).code).toArray⟩ : ByteArray).toList = (⟨((m2.comps[k]'(by omega)).code).toArray⟩ : ByteArray).toList)) = false then .pointer (some ⟨b56, o57 + k * 2 + 1, none⟩) else undef := hu20
     refine og_some rfl (c := (!decide ((⟨((m.comps[k]'(by omega)).code).toArray⟩ : ByteArray).toList = (⟨((m2.comps[k]'(by omega)).code).toArray⟩ : ByteArray).toList))) hu15 (fun hg69 => ?_) (fun hg69 => ⟨undef, rfl, (if_neg (by rw [hg69]; decide)).symm, hst⟩)
     refine O_load (v := .int .i64 ((m.comps[k]'(by omega)).data)) (Eq.trans hu20 (if_pos hg69)) ag3 ((hst.getR 1 rfl).2 1 _ rfl) rfl ?_
     exact ⟨.int .i64 ((m.comps[k]'(by omega)).data), rfl, (if_pos hg69).symm, hst⟩
    ·intro f22_ w22_ X22_ hfr hus hrd hst
     obtain ⟨hu15, -⟩ := hus
     have hu15 : f22_ 76 = .bool (!decide ((⟨((m.comps[k]'(by omega)).code).toArray⟩ : ByteArray).toList = (⟨((m2.comps[k]'(by omega)).code).toArray⟩ : ByteArray).toList)) := hu15
     have hb3 : f22_ 3 = .pointer (some ⟨b5, 0, none⟩) := (hfr 3 rfl)
     refine og_some rfl (c := (!decide ((⟨((m.comps[k]'(by omega)).code).toArray⟩ : ByteArray).toList = (⟨((m2.comps[k]'(by omega)).code).toArray⟩ : ByteArray).toList))) hu15 (fun hg70 => ?_) (fun hg70 => ⟨undef, rfl, (if_neg (by rw [hg70]; decide)).symm, hst⟩)
     refine O_fieldAddr hb3 fd26_3 rfl (o' := 3) rfl rfl ?_
     exact ⟨.pointer (some ⟨b5, 3, none⟩), rfl, (if_pos hg70).symm, hst⟩
    ·intro f23_ w23_ X23_ hfr hus hrd hst
     obtain ⟨hu15, hu22, -⟩ := hus
     have hu15 : f23_ 76 = .bool (!decide ((⟨((m.comps[k]'(by omega)).code).toArray⟩ : ByteArray).toList = (⟨((m2.comps[k]'(by omega)).code).toArray⟩ : ByteArray).toList)) := hu15
     have hu22 : f23_ 83 = if (!decide ((⟨((m.comps[k]'(by omega)).code).toArray⟩ : ByteArray).toList = (⟨((m2.comps[k]'(by omega)).code).toArray⟩ : ByteArray).toList)) = false then .pointer (some ⟨b5, 3, none⟩) else undef := hu22
     obtain ⟨hr30, -⟩ := hrd
     have hr30 : Item.φ (blk b5 [.bool m2.strict, .int .i64 m2.heap, .int .i64 m2.full, .slice m2.ca m2.comps.length m2.ccap, .slice m2.la m2.links.length m2.lcap, .slice m2.sa m2.shares.length m2.scap] 26) w23_ := hr30
     refine og_some rfl (c := (!decide ((⟨((m.comps[k]'(by omega)).code).toArray⟩ : ByteArray).toList = (⟨((m2.comps[k]'(by omega)).code).toArray⟩ : ByteArray).toList))) hu15 (fun hg71 => ?_) (fun hg71 => ⟨undef, rfl, (if_neg (by rw [hg71]; decide)).symm, hst⟩)
     refine O_load (v := .slice m2.ca m2.comps.length m2.ccap) (Eq.trans hu22 (if_pos hg71)) ag22 (cell_of_blk (hr30) rfl) rfl ?_
     exact ⟨.slice m2.ca m2.comps.length m2.ccap, rfl, (if_pos hg71).symm, hst⟩
    ·intro f24_ w24_ X24_ hfr hus hrd hst
     obtain ⟨hu15, -⟩ := hus
     have hu15 : f24_ 76 = .bool (!decide ((⟨((m.comps[k]'(by omega)).code).toArray⟩ : ByteArray).toList = (⟨((m2.comps[k]'(by omega)).code).toArray⟩ : ByteArray).toList)) := hu15
     have hb5 : f24_ 5 = .int .i64 ((k : Nat) : Int) := (hfr 5 rfl)
     refine og_some rfl (c := (!decide ((⟨((m.comps[k]'(by omega)).code).toArray⟩ : ByteArray).toList = (⟨((m2.comps[k]'(by omega)).code).toArray⟩ : ByteArray).toList))) hu15 (fun hg72 => ?_) (fun hg72 => ⟨undef, rfl, (if_neg (by rw [hg72]; decide)).symm, hst⟩)
     refine O_move (v := .int .i64 ((k : Nat) : Int)) hb5 rfl ?_
     exact ⟨.int .i64 ((k : Nat) : Int), rfl, (if_pos hg72).symm, hst⟩
    ·intro f25_ w25_ X25_ hfr hus hrd hst
     obtain ⟨hu15, hu23, hu24, -⟩ := hus
     have hu15 : f25_ 76 = .bool (!decide ((⟨((m.comps[k]'(by omega)).code).toArray⟩ : ByteArray).toList = (⟨((m2.comps[k]'(by omega)).code).toArray⟩ : ByteArray).toList)) := hu15
     have hu23 : f25_ 84 = if (!decide ((⟨((m.comps[k]'(by omega)).code).toArray⟩ : ByteArray).toList = (⟨((m2.comps[k]'(by omega)).code).toArray⟩ : ByteArray).toList)) = false then .slice m2.ca m2.comps.length m2.ccap else undef := hu23
     have hu24 : f25_ 85 = if (!decide ((⟨((m.comps[k]'(by omega)).code).toArray⟩ : ByteArray).toList = (⟨((m2.comps[k]'(by omega)).code).toArray⟩ : ByteArray).toList)) = false then .int .i64 ((k : Nat) : Int) else undef := hu24
     refine og_some rfl (c := (!decide ((⟨((m.comps[k]'(by omega)).code).toArray⟩ : ByteArray).toList = (⟨((m2.comps[k]'(by omega)).code).toArray⟩ : ByteArray).toList))) hu15 (fun hg73 => ?_) (fun hg73 => ⟨undef, rfl, (if_neg (by rw [hg73]; decide)).symm, hst⟩)
     refine O_indexAddr_at (Eq.trans hu23 (if_pos hg73)) ha62 (Eq.trans hu24 (if_pos hg73)) un22 sz53 (by omega) (by omega) (o' := o61 + k * 2) (by omega) rfl ?_
     exact ⟨.pointer (some ⟨b60, o61 + k * 2, none⟩), rfl, (if_pos hg73).symm, hst⟩
    ·intro f26_ w26_ X26_ hfr hus hrd hst
     obtain ⟨hu15, hu25, -⟩ := hus
     have hu15 : f26_ 76 = .bool (!decide ((⟨((m.comps[k]'(by omega)).code).toArray⟩ : ByteArray).toList = (⟨((m2.comps[k]'(by omega)).code).toArray⟩ : ByteArray).toList)) := hu15
     have hu25 : f26_ 86 = if (!decide ((⟨((m.comps[k]'(by omega)).code).toArray⟩ : ByteArray).toList = (⟨((m2.comps[k]'(by omega)).code).toArray⟩ : ByteArray).toList)) = false then .pointer (some ⟨b60, o61 + k * 2, none⟩) else undef := hu25
     refine og_some rfl (c := (!decide ((⟨((m.comps[k]'(by omega)).code).toArray⟩ : ByteArray).toList = (⟨((m2.comps[k]'(by omega)).code).toArray⟩ : ByteArray).toList))) hu15 (fun hg74 => ?_) (fun hg74 => ⟨undef, rfl, (if_neg (by rw [hg74]; decide)).symm, hst⟩)
     refine O_fieldAddr (Eq.trans hu25 (if_pos hg74)) fd53_1 rfl (o' := o61 + k * 2 + 1) rfl rfl ?_
     exact ⟨.pointer (some ⟨b60, o61 + k * 2 + 1, none⟩), rfl, (if_pos hg74).symm, hst⟩
    ·intro f27_ w27_ X27_ hfr hus hrd hst
     obtain ⟨hu15, hu26, -⟩ := hus
     have hu15 : f27_ 76 = .bool (!decide ((⟨((m.comps[k]'(by omega)).code).toArray⟩ : ByteArray).toList = (⟨((m2.comps[k]'(by omega)).code).toArray⟩ : ByteArray).toList)) := hu15
     have hu26 : f27_ 87 = if (!decide ((⟨((m.comps[k]'(by omega)).code).toArray⟩ : ByteArray).toList = (⟨((m2.comps[k]'(by omega)).code).toArray⟩ : ByteArray).toList)) = false then .pointer (some ⟨b60, o61 + k * 2 + 1, none⟩) else undef := hu26
     refine og_some rfl (c := (!decide ((⟨((m.comps[k]'(by omega)).code).toArray⟩ : ByteArray).toList = (⟨((m2.comps[k]'(by omega)).code).toArray⟩ : ByteArray).toList))) hu15 (fun hg75 => ?_) (fun hg75 => ⟨undef, rfl, (if_neg (by rw [hg75]; decide)).symm, hst⟩)
     refine O_load (v := .int .i64 ((m2.comps[k]'(by omega)).data)) (Eq.trans hu26 (if_pos hg75)) ag3 ((hst.getR 0 rfl).2 1 _ rfl) rfl ?_
     exact ⟨.int .i64 ((m2.comps[k]'(by omega)).data), rfl, (if_pos hg75).symm, hst⟩
    ·intro f28_ w28_ X28_ hfr hus hrd hst
     obtain ⟨hu15, hu21, hu27, -⟩ := hus
     have hu15 : f28_ 76 = .bool (!decide ((⟨((m.comps[k]'(by omega)).code).toArray⟩ : ByteArray).toList = (⟨((m2.comps[k]'(by omega)).code).toArray⟩ : ByteArray).toList)) := hu15
     have hu21 : f28_ 82 = if (!decide ((⟨((m.comps[k]'(by omega)).code).toArray⟩ : ByteArray).toList = (⟨((m2.comps[k]'(by omega)).code).toArray⟩ : ByteArray).toList)) = false then .int .i64 ((m.comps[k]'(by omega)).data) else undef := hu21
     have hu27 : f28_ 88 = if (!decide ((⟨((m.comps[k]'(by omega)).code).toArray⟩ : ByteArray).toList = (⟨((m2.comps[k]'(by omega)).code).toArray⟩ : ByteArray).toList)) = false then .int .i64 ((m2.comps[k]'(by omega)).data) else undef := hu27
     refine og_some rfl (c := (!decide ((⟨((m.comps[k]'(by omega)).code).toArray⟩ : ByteArray).toList = (⟨((m2.comps[k]'(by omega)).code).toArray⟩ : ByteArray).toList))) hu15 (fun hg76 => ?_) (fun hg76 => ⟨undef, rfl, (if_neg (by rw [hg76]; decide)).symm, hst⟩)
     refine O_bin (k := .i64) (k' := .i64) (a := ((m.comps[k]'(by omega)).data)) (b := ((m2.comps[k]'(by omega)).data)) (Eq.trans hu21 (if_pos hg76)) (Eq.trans hu27 (if_pos hg76)) rfl b_neq ?_
     exact ⟨.bool (decide (((m.comps[k]'(by omega)).data) ≠ ((m2.comps[k]'(by omega)).data))), rfl, (if_pos hg76).symm, hst⟩
    ·intro f29_ w29_ X29_ hfr hus hrd hst
     obtain ⟨hu15, hu28, -⟩ := hus
     have hu15 : f29_ 76 = .bool (!decide ((⟨((m.comps[k]'(by omega)).code).toArray⟩ : ByteArray).toList = (⟨((m2.comps[k]'(by omega)).code).toArray⟩ : ByteArray).toList)) := hu15
     have hu28 : f29_ 89 = if (!decide ((⟨((m.comps[k]'(by omega)).code).toArray⟩ : ByteArray).toList = (⟨((m2.comps[k]'(by omega)).code).toArray⟩ : ByteArray).toList)) = false then .bool (decide (((m.comps[k]'(by omega)).data) ≠ ((m2.comps[k]'(by omega)).data))) else undef := hu28
     refine og_none rfl (O_pick (v := .bool B77) hu15 (Eq.trans (by simp only [ev, hu28]; exact pick_or _ _) (congrArg Value.bool hB77.symm)) rfl ?_)
     exact ⟨.bool B77, rfl, rfl, hst⟩
    intro f78 w79 hfr hus hs80
    obtain ⟨hu29, -⟩ := hus
    have hu29 : f78 90 = .bool B77 := hu29
    have hs80 : St _ _ _ [blk b5 [.bool m2.strict, .int .i64 m2.heap, .int .i64 m2.full, .slice m2.ca m2.comps.length m2.ccap, .slice m2.la m2.links.length m2.lcap, .slice m2.sa m2.shares.length m2.scap] 26, blk b1 (imgCells m) 26] _ := hs80
    have e81 : f78 2 = .pointer (some ⟨b1, 0, none⟩) := (hfr 2 rfl)
    rewrite [upd_id e81]
    have e82 : f78 3 = .pointer (some ⟨b5, 0, none⟩) := (hfr 3 rfl)
    rewrite [upd_id e82]
    have e83 : f78 5 = .int .i64 ((k : Nat) : Int) := (hfr 5 rfl)
    rewrite [upd_id e83]
    rewrite [upd_id hu29]
    subst hB77
    refine thenQ_n ?_
    refine W_cond (t := ((!decide ((⟨((m.comps[k]'(by omega)).code).toArray⟩ : ByteArray).toList = (⟨((m2.comps[k]'(by omega)).code).toArray⟩ : ByteArray).toList)) || (decide (((m.comps[k]'(by omega)).data) ≠ ((m2.comps[k]'(by omega)).data))))) rfl (fun hc84 => ?_) (fun hc84 => ?_)
    ·refine W_seq (W_region ?_)
     refine L_cons rfl (O_assign (v := .bool false) rfl rfl ?_)
     refine L_nil (thenQ_n (W_ret (blockQ_r (thenQ_r (thenQ_r (blockQ_r (thenQ_r ?_)))))))
     refine ⟨.bool false, res1 rfl, ?_⟩
     exact ⟨⟨false, rfl, ⟨fun h => (Bool.false_ne_true h).elim, fun h => absurd h (same_n1 (k := k) (by omega) (by omega) (same_compT hc84))⟩⟩, hs80.base⟩
    ·refine W_skip (blockQ_n (thenQ_n (W_region ?_)))
     refine L_cons rfl (O_move (v := .int .i64 ((k : Nat) : Int)) rfl rfl ?_)
     refine L_cons rfl (O_bin (v := .int .i64 ((k + 1 : Nat) : Int)) rfl rfl rfl (b_add (wrap_i64e (by omega) (by omega))) ?_)
     refine L_cons rfl (O_assign (v := .int .i64 ((k + 1 : Nat) : Int)) rfl rfl ?_)
     refine L_nil (thenQ_n ?_)
     refine ⟨_, ?_, k + 1, rfl, by omega, sl_snocM ha (by omega) (by omega) (same_compF hc84), rfl, rfl, rfl, hs80.popR.popR.popR.popR⟩
     omega
   ·refine W_exit (thenQ_e (thenQ_e (blockQ_x (thenQ_n (W_seq (W_seq (W_region ?_)))))))
    refine L_cons rfl (O_assign (v := .int .i64 0) rfl rfl ?_)
    refine L_nil (thenQ_n (W_block ?_))
    refine W_loopm (fun m_ f_ w_ => ∃ k : Nat, m_ = m.links.length - k ∧ (k ≤ m.links.length) ∧ ((m.links.take k) = (m2.links.take k)) ∧ f_ 2 = .pointer (some ⟨b1, 0, none⟩) ∧ f_ 3 = .pointer (some ⟨b5, 0, none⟩) ∧ f_ 6 = .int .i64 ((k : Nat) : Int) ∧ St w (fun _ => False) w_ [blk b5 [.bool m2.strict, .int .i64 m2.heap, .int .i64 m2.full, .slice m2.ca m2.comps.length m2.ccap, .slice m2.la m2.links.length m2.lcap, .slice m2.sa m2.shares.length m2.scap] 26, blk b1 (imgCells m) 26] [arrI encComp 2 m.ca m.comps, arrI encLink 3 m.la m.links, arrI encShare 2 m.sa m.shares, codesI m.comps, arrI encComp 2 m2.ca m2.comps, arrI encLink 3 m2.la m2.links, arrI encShare 2 m2.sa m2.shares, codesI m2.comps]) ?_ ?_
    ·exact ⟨_, 0, rfl, Nat.zero_le _, rfl, rfl, rfl, rfl, hs48⟩
    ·intro m88 f85 w86; rintro ⟨k, rfl, hk, hb1, e89, e90, e91, hs87⟩
     rewrite [upd_id e89]
     rewrite [upd_id e90]
     rewrite [upd_id e91]
     refine W_seq (W_seq (W_region ?_))
     refine L_cons rfl (O_move (v := .int .i64 ((k : Nat) : Int)) rfl rfl ?_)
     refine L_cons rfl (O_fieldAddr rfl fd26_4 rfl (o' := 4) rfl rfl ?_)
     refine L_cons rfl (O_load (v := .slice m.la m.links.length m.lcap) rfl ag23 (cell_of_blk (hs87.get 1 rfl) rfl) rfl ?_)
     refine L_cons rfl (O_len_slice (len := m.links.length) rfl un23 rfl ?_)
     refine L_cons rfl (O_bin (k := .i64) (k' := .i64) (a := ((k : Nat) : Int)) (b := ((m.links.length : Nat) : Int)) rfl rfl rfl b_lss ?_)
     refine L_nil (thenQ_n ?_)
     refine W_cond_d rfl (fun hc92 => ?_) (fun hc92 => ?_)
     ·refine W_skip (thenQ_n (W_seq (W_block (W_seq ?_))))
      obtain ⟨b93, o94, ha95, hs96⟩ := hs87.elem 1 rfl k (by omega)
      obtain ⟨b97, o98, ha99, hs100⟩ := hs96.elem 6 rfl k (by omega)
      refine W_par' mixed (show St _ _ _ [blk b5 [.bool m2.strict, .int .i64 m2.heap, .int .i64 m2.full, .slice m2.ca m2.comps.length m2.ccap, .slice m2.la m2.links.length m2.lcap, .slice m2.sa m2.shares.length m2.scap] 26, blk b1 (imgCells m) 26] _ from hs100) (fun i_ => match i_ with | _ => none) (fun i_ => match i_ with | _ => []) (fun i_ => match i_ with | 1 => [12] | 6 => [11] | _ => []) (fun i_ => match i_ with | 1 => [0] | 3 => [1, 2] | 4 => [3] | 6 => [5] | 8 => [6, 7] | 9 => [8] | 10 => [4, 9] | _ => []) [11, 12, 0, 1, 2, 3, 4, 5, 6, 7, 8, 9, 10, 13, 14, 15, 16, 17, 18, 19, 20, 21, 22, 23] [10] (fun i_ v_ => match i_ with | 0 => v_ = .pointer (some ⟨b1, 4, none⟩) | 1 => v_ = .slice m.la m.links.length m.lcap | 2 => v_ = .int .i64 ((k : Nat) : Int) | 3 => v_ = .pointer (some ⟨b93, o94 + k * 3, none⟩) | 4 => v_ = .agg #[.int .i64 ((m.links[k]'(by omega)).fr), .int .i64 ((m.links[k]'(by omega)).to), .int .i64 ((m.links[k]'(by omega)).ad)] | 5 => v_ = .pointer (some ⟨b5, 4, none⟩) | 6 => v_ = .slice m2.la m2.links.length m2.lcap | 7 => v_ = .int .i64 ((k : Nat) : Int) | 8 => v_ = .pointer (some ⟨b97, o98 + k * 3, none⟩) | 9 => v_ = .agg #[.int .i64 ((m2.links[k]'(by omega)).fr), .int .i64 ((m2.links[k]'(by omega)).to), .int .i64 ((m2.links[k]'(by omega)).ad)] | 10 => v_ = .bool (!(decide ((m.links[k]'(by omega)) = (m2.links[k]'(by omega))))) | _ => True) (by kernel_rfl) (by kernel_rfl) ⟨?_, ?_, ?_, ?_, ?_, ?_, ?_, ?_, ?_, ?_, ?_, trivial⟩ ?_
      ·intro f0_ w0_ X0_ hfr hus hrd hst
       have hb2 : f0_ 2 = .pointer (some ⟨b1, 0, none⟩) := (hfr 2 rfl)
       refine og_none rfl (O_fieldAddr hb2 fd26_4 rfl (o' := 4) rfl rfl ?_)
       exact ⟨.pointer (some ⟨b1, 4, none⟩), rfl, rfl, hst⟩
      ·intro f1_ w1_ X1_ hfr hus hrd hst
       obtain ⟨hu0, -⟩ := hus
       have hu0 : f1_ 98 = .pointer (some ⟨b1, 4, none⟩) := hu0
       obtain ⟨hr12, -⟩ := hrd
       have hr12 : Item.φ (blk b1 (imgCells m) 26) w1_ := hr12
       refine og_none rfl (O_load (v := .slice m.la m.links.length m.lcap) hu0 ag23 (cell_of_blk (hr12) rfl) rfl ?_)
       exact ⟨.slice m.la m.links.length m.lcap, rfl, rfl, hst⟩
      ·intro f2_ w2_ X2_ hfr hus hrd hst
       have hb6 : f2_ 6 = .int .i64 ((k : Nat) : Int) := (hfr 6 rfl)
       refine og_none rfl (O_move (v := .int .i64 ((k : Nat) : Int)) hb6 rfl ?_)
       exact ⟨.int .i64 ((k : Nat) : Int), rfl, rfl, hst⟩
      ·intro f3_ w3_ X3_ hfr hus hrd hst
       obtain ⟨hu1, hu2, -⟩ := hus
       have hu1 : f3_ 99 = .slice m.la m.links.length m.lcap := hu1
       have hu2 : f3_ 100 = .int .i64 ((k : Nat) : Int) := hu2
       refine og_none rfl (O_indexAddr_at hu1 ha95 hu2 un23 sz68 (by omega) (by omega) (o' := o94 + k * 3) (by omega) rfl ?_)
       exact ⟨.pointer (some ⟨b93, o94 + k * 3, none⟩), rfl, rfl, hst⟩
      ·intro f4_ w4_ X4_ hfr hus hrd hst
       obtain ⟨hu3, -⟩ := hus
       have hu3 : f4_ 101 = .pointer (some ⟨b93, o94 + k * 3, none⟩) := hu3
       refine og_none rfl (O_load_agg (vs := [.int .i64 ((m.links[k]'(by omega)).fr), .int .i64 ((m.links[k]'(by omega)).to), .int .i64 ((m.links[k]'(by omega)).ad)]) hu3 ag68 sz68 ((hst.getR 1 rfl).2) rfl rfl ?_)
       exact ⟨.agg #[.int .i64 ((m.links[k]'(by omega)).fr), .int .i64 ((m.links[k]'(by omega)).to), .int .i64 ((m.links[k]'(by omega)).ad)], rfl, rfl, hst⟩
      ·intro f5_ w5_ X5_ hfr hus hrd hst
       have hb3 : f5_ 3 = .pointer (some ⟨b5, 0, none⟩) := (hfr 3 rfl)
       refine og_none rfl (O_fieldAddr hb3 fd26_4 rfl (o' := 4) rfl rfl ?_)
       exact ⟨.pointer (some ⟨b5, 4, none⟩), rfl, rfl, hst⟩
      ·intro f6_ w6_ X6_ hfr hus hrd hst
       obtain ⟨hu5, -⟩ := hus
       have hu5 : f6_ 103 = .pointer (some ⟨b5, 4, none⟩) := hu5
       obtain ⟨hr11, -⟩ := hrd
       have hr11 : Item.φ (blk b5 [.bool m2.strict, .int .i64 m2.heap, .int .i64 m2.full, .slice m2.ca m2.comps.length m2.ccap, .slice m2.la m2.links.length m2.lcap, .slice m2.sa m2.shares.length m2.scap] 26) w6_ := hr11
       refine og_none rfl (O_load (v := .slice m2.la m2.links.length m2.lcap) hu5 ag23 (cell_of_blk (hr11) rfl) rfl ?_)
       exact ⟨.slice m2.la m2.links.length m2.lcap, rfl, rfl, hst⟩
      ·intro f7_ w7_ X7_ hfr hus hrd hst
       have hb6 : f7_ 6 = .int .i64 ((k : Nat) : Int) := (hfr 6 rfl)
       refine og_none rfl (O_move (v := .int .i64 ((k : Nat) : Int)) hb6 rfl ?_)
       exact ⟨.int .i64 ((k : Nat) : Int), rfl, rfl, hst⟩
      ·intro f8_ w8_ X8_ hfr hus hrd hst
       obtain ⟨hu6, hu7, -⟩ := hus
       have hu6 : f8_ 104 = .slice m2.la m2.links.length m2.lcap := hu6
       have hu7 : f8_ 105 = .int .i64 ((k : Nat) : Int) := hu7
       refine og_none rfl (O_indexAddr_at hu6 ha99 hu7 un23 sz68 (by omega) (by omega) (o' := o98 + k * 3) (by omega) rfl ?_)
       exact ⟨.pointer (some ⟨b97, o98 + k * 3, none⟩), rfl, rfl, hst⟩
      ·intro f9_ w9_ X9_ hfr hus hrd hst
       obtain ⟨hu8, -⟩ := hus
       have hu8 : f9_ 106 = .pointer (some ⟨b97, o98 + k * 3, none⟩) := hu8
       refine og_none rfl (O_load_agg (vs := [.int .i64 ((m2.links[k]'(by omega)).fr), .int .i64 ((m2.links[k]'(by omega)).to), .int .i64 ((m2.links[k]'(by omega)).ad)]) hu8 ag68 sz68 ((hst.getR 0 rfl).2) rfl rfl ?_)
       exact ⟨.agg #[.int .i64 ((m2.links[k]'(by omega)).fr), .int .i64 ((m2.links[k]'(by omega)).to), .int .i64 ((m2.links[k]'(by omega)).ad)], rfl, rfl, hst⟩
      ·intro f10_ w10_ X10_ hfr hus hrd hst
       obtain ⟨hu4, hu9, -⟩ := hus
       have hu4 : f10_ 102 = .agg #[.int .i64 ((m.links[k]'(by omega)).fr), .int .i64 ((m.links[k]'(by omega)).to), .int .i64 ((m.links[k]'(by omega)).ad)] := hu4
       have hu9 : f10_ 107 = .agg #[.int .i64 ((m2.links[k]'(by omega)).fr), .int .i64 ((m2.links[k]'(by omega)).to), .int .i64 ((m2.links[k]'(by omega)).ad)] := hu9
       refine og_none rfl (O_binv (a := .agg #[.int .i64 ((m.links[k]'(by omega)).fr), .int .i64 ((m.links[k]'(by omega)).to), .int .i64 ((m.links[k]'(by omega)).ad)]) (b := .agg #[.int .i64 ((m2.links[k]'(by omega)).fr), .int .i64 ((m2.links[k]'(by omega)).to), .int .i64 ((m2.links[k]'(by omega)).ad)]) hu4 hu9 rfl (eg_agg eqg68) (b_neq_agg (d := 2) (EqV.to (b' := decide ((m.links[k]'(by omega)) = (m2.links[k]'(by omega)))) (EqV.struct Try.underlying68 stood68 (EF.cons (by decide) ag3 rfl rfl (EqV.int un3) (EF.cons (by decide) ag3 rfl rfl (EqV.int un3) (EF.cons (by decide) ag3 rfl rfl (EqV.int un3) EF.nil)))) (eq_link _ _)) rfl) ?_)
       exact ⟨.bool (!(decide ((m.links[k]'(by omega)) = (m2.links[k]'(by omega))))), rfl, rfl, hst⟩
      intro f101 w102 hfr hus hs103
      obtain ⟨hu10, -⟩ := hus
      have hu10 : f101 108 = .bool (!(decide ((m.links[k]'(by omega)) = (m2.links[k]'(by omega))))) := hu10
      have hs103 : St _ _ _ [blk b5 [.bool m2.strict, .int .i64 m2.heap, .int .i64 m2.full, .slice m2.ca m2.comps.length m2.ccap, .slice m2.la m2.links.length m2.lcap, .slice m2.sa m2.shares.length m2.scap] 26, blk b1 (imgCells m) 26] _ := hs103
      have e104 : f101 2 = .pointer (some ⟨b1, 0, none⟩) := (hfr 2 rfl)
      rewrite [upd_id e104]
      have e105 : f101 3 = .pointer (some ⟨b5, 0, none⟩) := (hfr 3 rfl)
      rewrite [upd_id e105]
      have e106 : f101 6 = .int .i64 ((k : Nat) : Int) := (hfr 6 rfl)
      rewrite [upd_id e106]
      rewrite [upd_id hu10]
      refine thenQ_n ?_
      refine W_cond (t := (!(decide ((m.links[k]'(by omega)) = (m2.links[k]'(by omega)))))) rfl (fun hc107 => ?_) (fun hc107 => ?_)
      ·refine W_seq (W_region ?_)
       refine L_cons rfl (O_assign (v := .bool false) rfl rfl ?_)
       refine L_nil (thenQ_n (W_ret (blockQ_r (thenQ_r (thenQ_r (blockQ_r (thenQ_r ?_)))))))
       refine ⟨.bool false, res1 rfl, ?_⟩
       exact ⟨⟨false, rfl, ⟨fun h => (Bool.false_ne_true h).elim, fun h => absurd h (same_n2 (k := k) (by omega) (by omega) (by simpa using hc107))⟩⟩, hs103.base⟩
      ·refine W_skip (blockQ_n (thenQ_n (W_region ?_)))
       refine L_cons rfl (O_move (v := .int .i64 ((k : Nat) : Int)) rfl rfl ?_)
       refine L_cons rfl (O_bin (v := .int .i64 ((k + 1 : Nat) : Int)) rfl rfl rfl (b_add (wrap_i64e (by omega) (by omega))) ?_)
       refine L_cons rfl (O_assign (v := .int .i64 ((k + 1 : Nat) : Int)) rfl rfl ?_)
       refine L_nil (thenQ_n ?_)
       refine ⟨_, ?_, k + 1, rfl, by omega, sl_snoc hb1 (by omega) (by omega) (by simpa using hc107), rfl, rfl, rfl, hs103.popR.popR⟩
       omega
     ·refine W_exit (thenQ_e (thenQ_e (blockQ_x (thenQ_n (W_seq (W_seq (W_region ?_)))))))
      refine L_cons rfl (O_assign (v := .int .i64 0) rfl rfl ?_)
      refine L_nil (thenQ_n (W_block ?_))
      refine W_loopm (fun m_ f_ w_ => ∃ k : Nat, m_ = m.shares.length - k ∧ (k ≤ m.shares.length) ∧ ((m.shares.take k) = (m2.shares.take k)) ∧ f_ 2 = .pointer (some ⟨b1, 0, none⟩) ∧ f_ 3 = .pointer (some ⟨b5, 0, none⟩) ∧ f_ 7 = .int .i64 ((k : Nat) : Int) ∧ St w (fun _ => False) w_ [blk b5 [.bool m2.strict, .int .i64 m2.heap, .int .i64 m2.full, .slice m2.ca m2.comps.length m2.ccap, .slice m2.la m2.links.length m2.lcap, .slice m2.sa m2.shares.length m2.scap] 26, blk b1 (imgCells m) 26] [arrI encComp 2 m.ca m.comps, arrI encLink 3 m.la m.links, arrI encShare 2 m.sa m.shares, codesI m.comps, arrI encComp 2 m2.ca m2.comps, arrI encLink 3 m2.la m2.links, arrI encShare 2 m2.sa m2.shares, codesI m2.comps]) ?_ ?_
      ·exact ⟨_, 0, rfl, Nat.zero_le _, rfl, rfl, rfl, rfl, hs87⟩
      ·intro m111 f108 w109; rintro ⟨k, rfl, hk, hc1, e112, e113, e114, hs110⟩
       rewrite [upd_id e112]
       rewrite [upd_id e113]
       rewrite [upd_id e114]
       refine W_seq (W_seq (W_region ?_))
       refine L_cons rfl (O_move (v := .int .i64 ((k : Nat) : Int)) rfl rfl ?_)
       refine L_cons rfl (O_fieldAddr rfl fd26_5 rfl (o' := 5) rfl rfl ?_)
       refine L_cons rfl (O_load (v := .slice m.sa m.shares.length m.scap) rfl ag24 (cell_of_blk (hs110.get 1 rfl) rfl) rfl ?_)
       refine L_cons rfl (O_len_slice (len := m.shares.length) rfl un24 rfl ?_)
       refine L_cons rfl (O_bin (k := .i64) (k' := .i64) (a := ((k : Nat) : Int)) (b := ((m.shares.length : Nat) : Int)) rfl rfl rfl b_lss ?_)
       refine L_nil (thenQ_n ?_)
       refine W_cond_d rfl (fun hc115 => ?_) (fun hc115 => ?_)
       ·refine W_skip (thenQ_n (W_seq (W_block (W_seq ?_))))
        obtain ⟨b116, o117, ha118, hs119⟩ := hs110.elem 2 rfl k (by omega)
        obtain ⟨b120, o121, ha122, hs123⟩ := hs119.elem 7 rfl k (by omega)
        refine W_par' mixed (show St _ _ _ [blk b5 [.bool m2.strict, .int .i64 m2.heap, .int .i64 m2.full, .slice m2.ca m2.comps.length m2.ccap, .slice m2.la m2.links.length m2.lcap, .slice m2.sa m2.shares.length m2.scap] 26, blk b1 (imgCells m) 26] _ from hs123) (fun i_ => match i_ with | _ => none) (fun i_ => match i_ with | _ => []) (fun i_ => match i_ with | 1 => [12] | 6 => [11] | _ => []) (fun i_ => match i_ with | 1 => [0] | 3 => [1, 2] | 4 => [3] | 6 => [5] | 8 => [6, 7] | 9 => [8] | 10 => [4, 9] | _ => []) [11, 12, 0, 1, 2, 3, 4, 5, 6, 7, 8, 9, 10, 13, 14, 15, 16, 17, 18, 19, 20, 21, 22, 23] [10] (fun i_ v_ => match i_ with | 0 => v_ = .pointer (some ⟨b1, 5, none⟩) | 1 => v_ = .slice m.sa m.shares.length m.scap | 2 => v_ = .int .i64 ((k : Nat) : Int) | 3 => v_ = .pointer (some ⟨b116, o117 + k * 2, none⟩) | 4 => v_ = .agg #[.int .i64 ((m.shares[k]'(by omega)).rd), .int .i64 ((m.shares[k]'(by omega)).wr)] | 5 => v_ = .pointer (some ⟨b5, 5, none⟩) | 6 => v_ = .slice m2.sa m2.shares.length m2.scap | 7 => v_ = .int .i64 ((k : Nat) : Int) | 8 => v_ = .pointer (some ⟨b120, o121 + k * 2, none⟩) | 9 => v_ = .agg #[.int .i64 ((m2.shares[k]'(by omega)).rd), .int .i64 ((m2.shares[k]'(by omega)).wr)] | 10 => v_ = .bool (!(decide ((m.shares[k]'(by omega)) = (m2.shares[k]'(by omega))))) | _ => True) (by kernel_rfl) (by kernel_rfl) ⟨?_, ?_, ?_, ?_, ?_, ?_, ?_, ?_, ?_, ?_, ?_, trivial⟩ ?_
        ·intro f0_ w0_ X0_ hfr hus hrd hst
         have hb2 : f0_ 2 = .pointer (some ⟨b1, 0, none⟩) := (hfr 2 rfl)
         refine og_none rfl (O_fieldAddr hb2 fd26_5 rfl (o' := 5) rfl rfl ?_)
         exact ⟨.pointer (some ⟨b1, 5, none⟩), rfl, rfl, hst⟩
        ·intro f1_ w1_ X1_ hfr hus hrd hst
         obtain ⟨hu0, -⟩ := hus
         have hu0 : f1_ 116 = .pointer (some ⟨b1, 5, none⟩) := hu0
         obtain ⟨hr12, -⟩ := hrd
         have hr12 : Item.φ (blk b1 (imgCells m) 26) w1_ := hr12
         refine og_none rfl (O_load (v := .slice m.sa m.shares.length m.scap) hu0 ag24 (cell_of_blk (hr12) rfl) rfl ?_)
         exact ⟨.slice m.sa m.shares.length m.scap, rfl, rfl, hst⟩
        ·intro f2_ w2_ X2_ hfr hus hrd hst
         have hb7 : f2_ 7 = .int .i64 ((k : Nat) : Int) := (hfr 7 rfl)
         refine og_none rfl (O_move (v := .int .i64 ((k : Nat) : Int)) hb7 rfl ?_)
         exact ⟨.int .i64 ((k : Nat) : Int), rfl, rfl, hst⟩
        ·intro f3_ w3_ X3_ hfr hus hrd hst
         obtain ⟨hu1, hu2, -⟩ := hus
         have hu1 : f3_ 117 = .slice m.sa m.shares.length m.scap := hu1
         have hu2 : f3_ 118 = .int .i64 ((k : Nat) : Int) := hu2
         refine og_none rfl (O_indexAddr_at hu1 ha118 hu2 un24 sz70 (by omega) (by omega) (o' := o117 + k * 2) (by omega) rfl ?_)
         exact ⟨.pointer (some ⟨b116, o117 + k * 2, none⟩), rfl, rfl, hst⟩
        ·intro f4_ w4_ X4_ hfr hus hrd hst
         obtain ⟨hu3, -⟩ := hus
         have hu3 : f4_ 119 = .pointer (some ⟨b116, o117 + k * 2, none⟩) := hu3
         refine og_none rfl (O_load_agg (vs := [.int .i64 ((m.shares[k]'(by omega)).rd), .int .i64 ((m.shares[k]'(by omega)).wr)]) hu3 ag70 sz70 ((hst.getR 1 rfl).2) rfl rfl ?_)
         exact ⟨.agg #[.int .i64 ((m.shares[k]'(by omega)).rd), .int .i64 ((m.shares[k]'(by omega)).wr)], rfl, rfl, hst⟩
        ·intro f5_ w5_ X5_ hfr hus hrd hst
         have hb3 : f5_ 3 = .pointer (some ⟨b5, 0, none⟩) := (hfr 3 rfl)
         refine og_none rfl (O_fieldAddr hb3 fd26_5 rfl (o' := 5) rfl rfl ?_)
         exact ⟨.pointer (some ⟨b5, 5, none⟩), rfl, rfl, hst⟩
        ·intro f6_ w6_ X6_ hfr hus hrd hst
         obtain ⟨hu5, -⟩ := hus
         have hu5 : f6_ 121 = .pointer (some ⟨b5, 5, none⟩) := hu5
         obtain ⟨hr11, -⟩ := hrd
         have hr11 : Item.φ (blk b5 [.bool m2.strict, .int .i64 m2.heap, .int .i64 m2.full, .slice m2.ca m2.comps.length m2.ccap, .slice m2.la m2.links.length m2.lcap, .slice m2.sa m2.shares.length m2.scap] 26) w6_ := hr11
         refine og_none rfl (O_load (v := .slice m2.sa m2.shares.length m2.scap) hu5 ag24 (cell_of_blk (hr11) rfl) rfl ?_)
         exact ⟨.slice m2.sa m2.shares.length m2.scap, rfl, rfl, hst⟩
        ·intro f7_ w7_ X7_ hfr hus hrd hst
         have hb7 : f7_ 7 = .int .i64 ((k : Nat) : Int) := (hfr 7 rfl)
         refine og_none rfl (O_move (v := .int .i64 ((k : Nat) : Int)) hb7 rfl ?_)
         exact ⟨.int .i64 ((k : Nat) : Int), rfl, rfl, hst⟩
        ·intro f8_ w8_ X8_ hfr hus hrd hst
         obtain ⟨hu6, hu7, -⟩ := hus
         have hu6 : f8_ 122 = .slice m2.sa m2.shares.length m2.scap := hu6
         have hu7 : f8_ 123 = .int .i64 ((k : Nat) : Int) := hu7
         refine og_none rfl (O_indexAddr_at hu6 ha122 hu7 un24 sz70 (by omega) (by omega) (o' := o121 + k * 2) (by omega) rfl ?_)
         exact ⟨.pointer (some ⟨b120, o121 + k * 2, none⟩), rfl, rfl, hst⟩
        ·intro f9_ w9_ X9_ hfr hus hrd hst
         obtain ⟨hu8, -⟩ := hus
         have hu8 : f9_ 124 = .pointer (some ⟨b120, o121 + k * 2, none⟩) := hu8
         refine og_none rfl (O_load_agg (vs := [.int .i64 ((m2.shares[k]'(by omega)).rd), .int .i64 ((m2.shares[k]'(by omega)).wr)]) hu8 ag70 sz70 ((hst.getR 0 rfl).2) rfl rfl ?_)
         exact ⟨.agg #[.int .i64 ((m2.shares[k]'(by omega)).rd), .int .i64 ((m2.shares[k]'(by omega)).wr)], rfl, rfl, hst⟩
        ·intro f10_ w10_ X10_ hfr hus hrd hst
         obtain ⟨hu4, hu9, -⟩ := hus
         have hu4 : f10_ 120 = .agg #[.int .i64 ((m.shares[k]'(by omega)).rd), .int .i64 ((m.shares[k]'(by omega)).wr)] := hu4
         have hu9 : f10_ 125 = .agg #[.int .i64 ((m2.shares[k]'(by omega)).rd), .int .i64 ((m2.shares[k]'(by omega)).wr)] := hu9
         refine og_none rfl (O_binv (a := .agg #[.int .i64 ((m.shares[k]'(by omega)).rd), .int .i64 ((m.shares[k]'(by omega)).wr)]) (b := .agg #[.int .i64 ((m2.shares[k]'(by omega)).rd), .int .i64 ((m2.shares[k]'(by omega)).wr)]) hu4 hu9 rfl (eg_agg eqg70) (b_neq_agg (d := 2) (EqV.to (b' := decide ((m.shares[k]'(by omega)) = (m2.shares[k]'(by omega)))) (EqV.struct Try.underlying70 stood70 (EF.cons (by decide) ag3 rfl rfl (EqV.int un3) (EF.cons (by decide) ag3 rfl rfl (EqV.int un3) EF.nil))) (eq_share _ _)) rfl) ?_)
         exact ⟨.bool (!(decide ((m.shares[k]'(by omega)) = (m2.shares[k]'(by omega))))), rfl, rfl, hst⟩
        intro f124 w125 hfr hus hs126
        obtain ⟨hu10, -⟩ := hus
        have hu10 : f124 126 = .bool (!(decide ((m.shares[k]'(by omega)) = (m2.shares[k]'(by omega))))) := hu10
        have hs126 : St _ _ _ [blk b5 [.bool m2.strict, .int .i64 m2.heap, .int .i64 m2.full, .slice m2.ca m2.comps.length m2.ccap, .slice m2.la m2.links.length m2.lcap, .slice m2.sa m2.shares.length m2.scap] 26, blk b1 (imgCells m) 26] _ := hs126
        have e127 : f124 2 = .pointer (some ⟨b1, 0, none⟩) := (hfr 2 rfl)
        rewrite [upd_id e127]
        have e128 : f124 3 = .pointer (some ⟨b5, 0, none⟩) := (hfr 3 rfl)
        rewrite [upd_id e128]
        have e129 : f124 7 = .int .i64 ((k : Nat) : Int) := (hfr 7 rfl)
        rewrite [upd_id e129]
        rewrite [upd_id hu10]
        refine thenQ_n ?_
        refine W_cond (t := (!(decide ((m.shares[k]'(by omega)) = (m2.shares[k]'(by omega)))))) rfl (fun hc130 => ?_) (fun hc130 => ?_)
        ·refine W_seq (W_region ?_)
         refine L_cons rfl (O_assign (v := .bool false) rfl rfl ?_)
         refine L_nil (thenQ_n (W_ret (blockQ_r (thenQ_r (thenQ_r (blockQ_r (thenQ_r ?_)))))))
         refine ⟨.bool false, res1 rfl, ?_⟩
         exact ⟨⟨false, rfl, ⟨fun h => (Bool.false_ne_true h).elim, fun h => absurd h (same_n3 (k := k) (by omega) (by omega) (by simpa using hc130))⟩⟩, hs126.base⟩
        ·refine W_skip (blockQ_n (thenQ_n (W_region ?_)))
         refine L_cons rfl (O_move (v := .int .i64 ((k : Nat) : Int)) rfl rfl ?_)
         refine L_cons rfl (O_bin (v := .int .i64 ((k + 1 : Nat) : Int)) rfl rfl rfl (b_add (wrap_i64e (by omega) (by omega))) ?_)
         refine L_cons rfl (O_assign (v := .int .i64 ((k + 1 : Nat) : Int)) rfl rfl ?_)
         refine L_nil (thenQ_n ?_)
         refine ⟨_, ?_, k + 1, rfl, by omega, sl_snoc hc1 (by omega) (by omega) (by simpa using hc130), rfl, rfl, rfl, hs126.popR.popR⟩
         omega
       ·refine W_exit (thenQ_e (thenQ_e (blockQ_x (thenQ_n (W_seq (W_region ?_))))))
        refine L_cons rfl (O_assign (v := .bool true) rfl rfl ?_)
        refine L_nil (thenQ_n (W_ret ?_))
        refine ⟨.bool true, res1 rfl, ?_⟩
        exact ⟨⟨true, rfl, ⟨fun _ => same_yes hE (sl_allM ha (by omega) (by omega)) (sl_eq hb1 (by omega) (by omega)) (sl_eq hc1 (by omega) (by omega)), fun _ => rfl⟩⟩, hs110.base⟩

/-- seizin/seizinref02.addr -/
theorem raddr_c (n : Int) (w : World)  :
  C Try.prog 47 [.int .i64 n] w fun v w' => v = .bool (decide (0 ≤ n) && decide (n ≤ 4294967295)) ∧ Grow w w' := by
 have hs0 : St w (fun _ => False) w [] [] := St.start w _ (by simp)
 refine C_of_W [.tmp 2] 9 Try.func47 rfl Try.ntmps47 rfl rfl ?_
 refine W_seq (W_region ?_)
 refine L_cons rfl (O_assign (v := .bool false) rfl rfl ?_)
 refine L_nil (thenQ_n (W_seq (W_region ?_)))
 refine L_cons rfl (O_move (v := .int .i64 n) rfl rfl ?_)
 refine L_cons rfl (O_bin (k := .i64) (k' := .i64) (a := n) (b := 0) rfl rfl rfl b_geq ?_)
 refine L_cons rfl (O_move (v := .bool (decide (0 ≤ n))) rfl rfl ?_)
 refine L_guard_tp (v := .int .i64 n) rfl rfl rfl rfl (fun hg1 => O_move (v := .int .i64 n) rfl rfl ⟨rfl, rfl⟩) ?_
 refine L_guard_tp (v := .bool (decide (n ≤ 4294967295))) rfl rfl rfl rfl (fun hg2 => O_bin (k := .i64) (k' := .i64) (a := n) (b := 4294967295) (show ev _ _ = .int .i64 n from if_pos hg2) rfl rfl b_leq ⟨rfl, rfl⟩) ?_
 refine L_cons rfl (O_pick rfl (pick_and _ _) rfl ?_)
 refine L_cons rfl (O_assign (v := .bool (decide (0 ≤ n) && decide (n ≤ 4294967295))) rfl rfl ?_)
 refine L_nil (thenQ_n (W_ret ?_))
 refine ⟨.bool (decide (0 ≤ n) && decide (n ≤ 4294967295)), res1 rfl, ?_⟩
 exact ⟨rfl, hs0.base⟩

/-- seizin/seizinref01.Right -/
theorem rperm_c (n : Int) (w : World)  :
  C Try.prog 48 [.int .i64 n] w fun v w' => v = .bool (decide (0 ≤ n) && decide (n ≤ 127)) ∧ Grow w w' := by
 have hs0 : St w (fun _ => False) w [] [] := St.start w _ (by simp)
 refine C_of_W [.tmp 2] 9 Try.func48 rfl Try.ntmps48 rfl rfl ?_
 refine W_seq (W_region ?_)
 refine L_cons rfl (O_assign (v := .bool false) rfl rfl ?_)
 refine L_nil (thenQ_n (W_seq (W_region ?_)))
 refine L_cons rfl (O_move (v := .int .i64 n) rfl rfl ?_)
 refine L_cons rfl (O_bin (k := .i64) (k' := .i64) (a := n) (b := 0) rfl rfl rfl b_geq ?_)
 refine L_cons rfl (O_move (v := .bool (decide (0 ≤ n))) rfl rfl ?_)
 refine L_guard_tp (v := .int .i64 n) rfl rfl rfl rfl (fun hg1 => O_move (v := .int .i64 n) rfl rfl ⟨rfl, rfl⟩) ?_
 refine L_guard_tp (v := .bool (decide (n ≤ 127))) rfl rfl rfl rfl (fun hg2 => O_bin (k := .i64) (k' := .i64) (a := n) (b := 127) (show ev _ _ = .int .i64 n from if_pos hg2) rfl rfl b_leq ⟨rfl, rfl⟩) ?_
 refine L_cons rfl (O_pick rfl (pick_and _ _) rfl ?_)
 refine L_cons rfl (O_assign (v := .bool (decide (0 ≤ n) && decide (n ≤ 127))) rfl rfl ?_)
 refine L_nil (thenQ_n (W_ret ?_))
 refine ⟨.bool (decide (0 ≤ n) && decide (n ≤ 127)), res1 rfl, ?_⟩
 exact ⟨rfl, hs0.base⟩

/-- seizin/seizinref02.Right -/
theorem capright_c (tag : Bool) (base top pos perms ty : Int) (w : World)  :
  C Try.prog 27 [.agg #[.bool tag, .int .i64 base, .int .i64 top, .int .i64 pos, .int .i64 perms, .int .i64 ty]] w fun v w' => v = .bool (capR ⟨tag, base, top, pos, perms, ty⟩) ∧ Grow w w' := by
 have hs0 : St w (fun _ => False) w [] [] := St.start w _ (by simp)
 refine C_of_W [.tmp 2] 50 Try.func27 rfl Try.ntmps27 rfl rfl ?_
 refine W_seq (W_region ?_)
 refine L_cons rfl (O_box (v := .agg #[.bool tag, .int .i64 base, .int .i64 top, .int .i64 pos, .int .i64 perms, .int .i64 ty]) (cs := [.bool tag, .int .i64 base, .int .i64 top, .int .i64 pos, .int .i64 perms, .int .i64 ty]) hs0 rfl rfl rfl ?_)
 intro b1 w2 hb4 hs3
 refine L_cons rfl (O_assign (v := .bool false) rfl rfl ?_)
 refine L_nil (thenQ_n (W_seq (W_seq (W_region ?_))))
 refine L_cons rfl (O_fieldAddr rfl fd39_1 rfl (o' := 1) rfl rfl ?_)
 refine L_cons rfl (O_load (v := .int .i64 base) rfl ag3 (cell_of_blk (hs3.get 0 rfl) rfl) rfl ?_)
 refine L_cons rfl (O_call (args := [.int .i64 base]) rfl rfl rfl en47 (raddr_c base _) ?_)
 rintro _ w5 ⟨rfl, hk7⟩
 have hs6 := hs3.keep hk7
 refine L_cons rfl (O_not (b := (decide (0 ≤ base) && decide (base ≤ 4294967295))) rfl rfl ?_)
 refine L_cons rfl (O_move (v := .bool (!(decide (0 ≤ base) && decide (base ≤ 4294967295)))) rfl rfl ?_)
 refine L_guard_fp (v := .pointer (some ⟨b1, 2, none⟩)) rfl rfl rfl rfl (fun hg8 => O_fieldAddr rfl fd39_2 rfl (o' := 2) rfl rfl ⟨rfl, rfl⟩) ?_
 refine L_guard_fp (v := .int .i64 top) rfl rfl rfl rfl (fun hg9 => O_load (v := .int .i64 top) (show ev _ _ = .pointer (some ⟨b1, 2, none⟩) from if_pos hg9) ag3 (cell_of_blk (hs6.get 0 rfl) rfl) rfl ⟨rfl, rfl⟩) ?_
 refine L_guard_f (v := .bool (decide (0 ≤ top) && decide (top ≤ 4294967295))) rfl rfl rfl rfl hs6 (fun hg10 => ?_) (fun w14 hs15 => ?_)
 ·refine O_call (args := [.int .i64 top]) rfl (cons2 (if_pos hg10) rfl) rfl en47 (raddr_c top _) ?_
  rintro _ w11 ⟨rfl, hk13⟩
  have hs12 := hs6.keep hk13
  exact ⟨rfl, hs12⟩
 refine L_guard_fp (v := .bool (!(decide (0 ≤ top) && decide (top ≤ 4294967295)))) rfl rfl rfl rfl (fun hg16 => O_not (b := (decide (0 ≤ top) && decide (top ≤ 4294967295))) (show ev _ _ = .bool (decide (0 ≤ top) && decide (top ≤ 4294967295)) from if_pos hg16) rfl ⟨rfl, rfl⟩) ?_
 refine L_cons rfl (O_pick rfl (pick_or _ _) rfl ?_)
 refine L_cons rfl (O_move (v := .bool ((!(decide (0 ≤ base) && decide (base ≤ 4294967295))) || (!(decide (0 ≤ top) && decide (top ≤ 4294967295))))) rfl rfl ?_)
 refine L_guard_fp (v := .pointer (some ⟨b1, 3, none⟩)) rfl rfl rfl rfl (fun hg17 => O_fieldAddr rfl fd39_3 rfl (o' := 3) rfl rfl ⟨rfl, rfl⟩) ?_
 refine L_guard_fp (v := .int .i64 pos) rfl rfl rfl rfl (fun hg18 => O_load (v := .int .i64 pos) (show ev _ _ = .pointer (some ⟨b1, 3, none⟩) from if_pos hg18) ag3 (cell_of_blk (hs15.get 0 rfl) rfl) rfl ⟨rfl, rfl⟩) ?_
 refine L_guard_f (v := .bool (decide (0 ≤ pos) && decide (pos ≤ 4294967295))) rfl rfl rfl rfl hs15 (fun hg19 => ?_) (fun w23 hs24 => ?_)
 ·refine O_call (args := [.int .i64 pos]) rfl (cons2 (if_pos hg19) rfl) rfl en47 (raddr_c pos _) ?_
  rintro _ w20 ⟨rfl, hk22⟩
  have hs21 := hs15.keep hk22
  exact ⟨rfl, hs21⟩
 refine L_guard_fp (v := .bool (!(decide (0 ≤ pos) && decide (pos ≤ 4294967295)))) rfl rfl rfl rfl (fun hg25 => O_not (b := (decide (0 ≤ pos) && decide (pos ≤ 4294967295))) (show ev _ _ = .bool (decide (0 ≤ pos) && decide (pos ≤ 4294967295)) from if_pos hg25) rfl ⟨rfl, rfl⟩) ?_
 refine L_cons rfl (O_pick rfl (pick_or _ _) rfl ?_)
 refine L_cons rfl (O_move (v := .bool (((!(decide (0 ≤ base) && decide (base ≤ 4294967295))) || (!(decide (0 ≤ top) && decide (top ≤ 4294967295)))) || (!(decide (0 ≤ pos) && decide (pos ≤ 4294967295))))) rfl rfl ?_)
 refine L_guard_fp (v := .pointer (some ⟨b1, 4, none⟩)) rfl rfl rfl rfl (fun hg26 => O_fieldAddr rfl fd39_4 rfl (o' := 4) rfl rfl ⟨rfl, rfl⟩) ?_
 refine L_guard_fp (v := .int .i64 perms) rfl rfl rfl rfl (fun hg27 => O_load (v := .int .i64 perms) (show ev _ _ = .pointer (some ⟨b1, 4, none⟩) from if_pos hg27) ag3 (cell_of_blk (hs24.get 0 rfl) rfl) rfl ⟨rfl, rfl⟩) ?_
 refine L_guard_f (v := .bool (decide (0 ≤ perms) && decide (perms ≤ 127))) rfl rfl rfl rfl hs24 (fun hg28 => ?_) (fun w32 hs33 => ?_)
 ·refine O_call (args := [.int .i64 perms]) rfl (cons2 (if_pos hg28) rfl) rfl en48 (rperm_c perms _) ?_
  rintro _ w29 ⟨rfl, hk31⟩
  have hs30 := hs24.keep hk31
  exact ⟨rfl, hs30⟩
 refine L_guard_fp (v := .bool (!(decide (0 ≤ perms) && decide (perms ≤ 127)))) rfl rfl rfl rfl (fun hg34 => O_not (b := (decide (0 ≤ perms) && decide (perms ≤ 127))) (show ev _ _ = .bool (decide (0 ≤ perms) && decide (perms ≤ 127)) from if_pos hg34) rfl ⟨rfl, rfl⟩) ?_
 refine L_cons rfl (O_pick rfl (pick_or _ _) rfl ?_)
 refine L_cons rfl (O_move (v := .bool ((((!(decide (0 ≤ base) && decide (base ≤ 4294967295))) || (!(decide (0 ≤ top) && decide (top ≤ 4294967295)))) || (!(decide (0 ≤ pos) && decide (pos ≤ 4294967295)))) || (!(decide (0 ≤ perms) && decide (perms ≤ 127))))) rfl rfl ?_)
 refine L_guard_fp (v := .pointer (some ⟨b1, 5, none⟩)) rfl rfl rfl rfl (fun hg35 => O_fieldAddr rfl fd39_5 rfl (o' := 5) rfl rfl ⟨rfl, rfl⟩) ?_
 refine L_guard_fp (v := .int .i64 ty) rfl rfl rfl rfl (fun hg36 => O_load (v := .int .i64 ty) (show ev _ _ = .pointer (some ⟨b1, 5, none⟩) from if_pos hg36) ag3 (cell_of_blk (hs33.get 0 rfl) rfl) rfl ⟨rfl, rfl⟩) ?_
 refine L_guard_fp (v := .bool (decide (ty < 0))) rfl rfl rfl rfl (fun hg37 => O_bin (k := .i64) (k' := .i64) (a := ty) (b := 0) (show ev _ _ = .int .i64 ty from if_pos hg37) rfl rfl b_lss ⟨rfl, rfl⟩) ?_
 refine L_cons rfl (O_pick rfl (pick_or _ _) rfl ?_)
 refine L_cons rfl (O_move (v := .bool (((((!(decide (0 ≤ base) && decide (base ≤ 4294967295))) || (!(decide (0 ≤ top) && decide (top ≤ 4294967295)))) || (!(decide (0 ≤ pos) && decide (pos ≤ 4294967295)))) || (!(decide (0 ≤ perms) && decide (perms ≤ 127)))) || decide (ty < 0))) rfl rfl ?_)
 refine L_guard_fp (v := .pointer (some ⟨b1, 5, none⟩)) rfl rfl rfl rfl (fun hg38 => O_fieldAddr rfl fd39_5 rfl (o' := 5) rfl rfl ⟨rfl, rfl⟩) ?_
 refine L_guard_fp (v := .int .i64 ty) rfl rfl rfl rfl (fun hg39 => O_load (v := .int .i64 ty) (show ev _ _ = .pointer (some ⟨b1, 5, none⟩) from if_pos hg39) ag3 (cell_of_blk (hs33.get 0 rfl) rfl) rfl ⟨rfl, rfl⟩) ?_
 refine L_guard_fp (v := .bool (decide (255 < ty))) rfl rfl rfl rfl (fun hg40 => O_bin (k := .i64) (k' := .i64) (a := ty) (b := 255) (show ev _ _ = .int .i64 ty from if_pos hg40) rfl rfl b_gtr ⟨rfl, rfl⟩) ?_
 refine L_cons rfl (O_pick rfl (pick_or _ _) rfl ?_)
 refine L_nil (thenQ_n ?_)
 refine W_cond (t := ((((((!(decide (0 ≤ base) && decide (base ≤ 4294967295))) || (!(decide (0 ≤ top) && decide (top ≤ 4294967295)))) || (!(decide (0 ≤ pos) && decide (pos ≤ 4294967295)))) || (!(decide (0 ≤ perms) && decide (perms ≤ 127)))) || decide (ty < 0)) || decide (255 < ty))) rfl (fun hc41 => ?_) (fun hc41 => ?_)
 ·refine W_seq (W_region ?_)
  refine L_cons rfl (O_assign (v := .bool false) rfl rfl ?_)
  refine L_nil (thenQ_n (W_ret (thenQ_r ?_)))
  refine ⟨.bool false, res1 rfl, ?_⟩
  exact ⟨congrArg Value.bool (capR_no hc41).symm, hs33.base⟩
 ·refine W_skip (thenQ_n (W_seq ?_))
  cases tag
  ·refine W_region ?_
   refine L_cons rfl (O_fieldAddr rfl fd39_0 rfl (o' := 0) rfl rfl ?_)
   refine L_cons rfl (O_load (v := .bool false) rfl ag4 (cell_of_blk (hs33.get 0 rfl) rfl) rfl ?_)
   refine L_cons rfl (O_not (b := false) rfl rfl ?_)
   refine L_cons rfl (O_move (v := .bool true) rfl rfl ?_)
   refine L_guard_no rfl rfl rfl rfl ?_
   refine L_guard_no rfl rfl rfl rfl ?_
   refine L_guard_no rfl rfl rfl rfl ?_
   refine L_guard_no rfl rfl rfl rfl ?_
   refine L_guard_no rfl rfl rfl rfl ?_
   refine L_guard_no rfl rfl rfl rfl ?_
   refine L_guard_x rfl rfl rfl rfl ?_
   refine L_guard_x rfl rfl rfl rfl ?_
   refine L_guard_x rfl rfl rfl rfl ?_
   refine L_guard_no rfl rfl rfl rfl ?_
   refine L_cons rfl (O_pick (v := .bool true) rfl rfl rfl ?_)
   refine L_cons rfl (O_assign (v := .bool true) rfl rfl ?_)
   refine L_nil (thenQ_n (W_ret ?_))
   refine ⟨.bool true, res1 rfl, ?_⟩
   exact ⟨congrArg Value.bool (capR_f hc41).symm, hs33.base⟩
  ·refine W_region ?_
   refine L_cons rfl (O_fieldAddr rfl fd39_0 rfl (o' := 0) rfl rfl ?_)
   refine L_cons rfl (O_load (v := .bool true) rfl ag4 (cell_of_blk (hs33.get 0 rfl) rfl) rfl ?_)
   refine L_cons rfl (O_not (b := true) rfl rfl ?_)
   refine L_cons rfl (O_move (v := .bool false) rfl rfl ?_)
   refine L_guard_yes rfl rfl (O_fieldAddr rfl fd39_1 rfl (o' := 1) rfl rfl ?_)
   refine L_guard_yes rfl rfl (O_load (v := .int .i64 base) rfl ag3 (cell_of_blk (hs33.get 0 rfl) rfl) rfl ?_)
   refine L_guard_yes rfl rfl (O_fieldAddr rfl fd39_2 rfl (o' := 2) rfl rfl ?_)
   refine L_guard_yes rfl rfl (O_load (v := .int .i64 top) rfl ag3 (cell_of_blk (hs33.get 0 rfl) rfl) rfl ?_)
   refine L_guard_yes rfl rfl (O_bin (k := .i64) (k' := .i64) (a := base) (b := top) rfl rfl rfl b_leq ?_)
   refine L_guard_yes rfl rfl (O_move (v := .bool (decide (base ≤ top))) rfl rfl ?_)
   refine L_guard_tp (v := .pointer (some ⟨b1, 2, none⟩)) rfl rfl rfl rfl (fun hg42 => O_fieldAddr rfl fd39_2 rfl (o' := 2) rfl rfl ⟨rfl, rfl⟩) ?_
   refine L_guard_tp (v := .int .i64 top) rfl rfl rfl rfl (fun hg43 => O_load (v := .int .i64 top) (show ev _ _ = .pointer (some ⟨b1, 2, none⟩) from if_pos hg43) ag3 (cell_of_blk (hs33.get 0 rfl) rfl) rfl ⟨rfl, rfl⟩) ?_
   refine L_guard_tp (v := .bool (decide (top ≤ 16777216))) rfl rfl rfl rfl (fun hg44 => O_bin (k := .i64) (k' := .i64) (a := top) (b := 16777216) (show ev _ _ = .int .i64 top from if_pos hg44) rfl rfl b_leq ⟨rfl, rfl⟩) ?_
   refine L_guard_yes rfl rfl (O_pick rfl (pick_and _ _) rfl ?_)
   refine L_cons rfl (O_pick (v := .bool (decide (base ≤ top) && decide (top ≤ 16777216))) rfl rfl rfl ?_)
   refine L_cons rfl (O_assign (v := .bool (decide (base ≤ top) && decide (top ≤ 16777216))) rfl rfl ?_)
   refine L_nil (thenQ_n (W_ret ?_))
   refine ⟨.bool (decide (base ≤ top) && decide (top ≤ 16777216)), res1 rfl, ?_⟩
   exact ⟨congrArg Value.bool (capR_t hc41).symm, hs33.base⟩

/-- seizin/seizinref02.In -/
theorem capin_c (c : CapV) (a n : Int) (w : World) (ha : a ≤ 9223372036854775807) (ht : -9223372036854775808 ≤ c.top ∧ c.top ≤ 9223372036854775807) :
  C Try.prog 28 [.agg #[.bool c.tag, .int .i64 c.base, .int .i64 c.top, .int .i64 c.pos, .int .i64 c.perms, .int .i64 c.ty], .int .i64 a, .int .i64 n] w fun v w' => v = .bool (capIn c a n) ∧ Grow w w' := by
 have hs0 : St w (fun _ => False) w [] [] := St.start w _ (by simp)
 refine C_of_W [.tmp 6] 34 Try.func28 rfl Try.ntmps28 rfl rfl ?_
 refine W_seq (W_region ?_)
 refine L_cons rfl (O_box (v := .agg #[.bool c.tag, .int .i64 c.base, .int .i64 c.top, .int .i64 c.pos, .int .i64 c.perms, .int .i64 c.ty]) (cs := [.bool c.tag, .int .i64 c.base, .int .i64 c.top, .int .i64 c.pos, .int .i64 c.perms, .int .i64 c.ty]) hs0 rfl rfl rfl ?_)
 intro b1 w2 hb4 hs3
 refine L_cons rfl (O_assign (v := .bool false) rfl rfl ?_)
 refine L_nil (thenQ_n (W_seq (W_region ?_)))
 refine L_cons rfl (O_move (v := .int .i64 a) rfl rfl ?_)
 refine L_cons rfl (O_bin (k := .i64) (k' := .i64) (a := a) (b := 0) rfl rfl rfl b_geq ?_)
 refine L_cons rfl (O_move (v := .bool (decide (0 ≤ a))) rfl rfl ?_)
 refine L_guard_tp (v := .int .i64 n) rfl rfl rfl rfl (fun hg5 => O_move (v := .int .i64 n) rfl rfl ⟨rfl, rfl⟩) ?_
 refine L_guard_tp (v := .bool (decide (0 ≤ n))) rfl rfl rfl rfl (fun hg6 => O_bin (k := .i64) (k' := .i64) (a := n) (b := 0) (show ev _ _ = .int .i64 n from if_pos hg6) rfl rfl b_geq ⟨rfl, rfl⟩) ?_
 refine L_cons rfl (O_pick rfl (pick_and _ _) rfl ?_)
 refine L_cons rfl (O_move (v := .bool (decide (0 ≤ a) && decide (0 ≤ n))) rfl rfl ?_)
 refine L_guard_tp (v := .int .i64 a) rfl rfl rfl rfl (fun hg7 => O_move (v := .int .i64 a) rfl rfl ⟨rfl, rfl⟩) ?_
 refine L_guard_tp (v := .pointer (some ⟨b1, 1, none⟩)) rfl rfl rfl rfl (fun hg8 => O_fieldAddr rfl fd39_1 rfl (o' := 1) rfl rfl ⟨rfl, rfl⟩) ?_
 refine L_guard_tp (v := .int .i64 c.base) rfl rfl rfl rfl (fun hg9 => O_load (v := .int .i64 c.base) (show ev _ _ = .pointer (some ⟨b1, 1, none⟩) from if_pos hg9) ag3 (cell_of_blk (hs3.get 0 rfl) rfl) rfl ⟨rfl, rfl⟩) ?_
 refine L_guard_tp (v := .bool (decide (c.base ≤ a))) rfl rfl rfl rfl (fun hg10 => O_bin (k := .i64) (k' := .i64) (a := a) (b := c.base) (show ev _ _ = .int .i64 a from if_pos hg10) (show ev _ _ = .int .i64 c.base from if_pos hg10) rfl b_geq ⟨rfl, rfl⟩) ?_
 refine L_cons rfl (O_pick rfl (pick_and _ _) rfl ?_)
 refine L_cons rfl (O_move (v := .bool ((decide (0 ≤ a) && decide (0 ≤ n)) && decide (c.base ≤ a))) rfl rfl ?_)
 refine L_guard_tp (v := .int .i64 a) rfl rfl rfl rfl (fun hg11 => O_move (v := .int .i64 a) rfl rfl ⟨rfl, rfl⟩) ?_
 refine L_guard_tp (v := .pointer (some ⟨b1, 2, none⟩)) rfl rfl rfl rfl (fun hg12 => O_fieldAddr rfl fd39_2 rfl (o' := 2) rfl rfl ⟨rfl, rfl⟩) ?_
 refine L_guard_tp (v := .int .i64 c.top) rfl rfl rfl rfl (fun hg13 => O_load (v := .int .i64 c.top) (show ev _ _ = .pointer (some ⟨b1, 2, none⟩) from if_pos hg13) ag3 (cell_of_blk (hs3.get 0 rfl) rfl) rfl ⟨rfl, rfl⟩) ?_
 refine L_guard_tp (v := .bool (decide (a ≤ c.top))) rfl rfl rfl rfl (fun hg14 => O_bin (k := .i64) (k' := .i64) (a := a) (b := c.top) (show ev _ _ = .int .i64 a from if_pos hg14) (show ev _ _ = .int .i64 c.top from if_pos hg14) rfl b_leq ⟨rfl, rfl⟩) ?_
 refine L_cons rfl (O_pick rfl (pick_and _ _) rfl ?_)
 refine L_cons rfl (O_move (v := .bool (((decide (0 ≤ a) && decide (0 ≤ n)) && decide (c.base ≤ a)) && decide (a ≤ c.top))) rfl rfl ?_)
 refine L_guard_tp (v := .int .i64 n) rfl rfl rfl rfl (fun hg15 => O_move (v := .int .i64 n) rfl rfl ⟨rfl, rfl⟩) ?_
 refine L_guard_tp (v := .pointer (some ⟨b1, 2, none⟩)) rfl rfl rfl rfl (fun hg16 => O_fieldAddr rfl fd39_2 rfl (o' := 2) rfl rfl ⟨rfl, rfl⟩) ?_
 refine L_guard_tp (v := .int .i64 c.top) rfl rfl rfl rfl (fun hg17 => O_load (v := .int .i64 c.top) (show ev _ _ = .pointer (some ⟨b1, 2, none⟩) from if_pos hg17) ag3 (cell_of_blk (hs3.get 0 rfl) rfl) rfl ⟨rfl, rfl⟩) ?_
 refine L_guard_tp (v := .int .i64 a) rfl rfl rfl rfl (fun hg18 => O_move (v := .int .i64 a) rfl rfl ⟨rfl, rfl⟩) ?_
 refine L_guard_tp (v := .int .i64 a) rfl rfl rfl rfl (fun hg19 => O_maxE (c := a) (show ev _ _ = .int .i64 a from if_pos hg19) rfl (capin_max hg19) rfl ⟨rfl, rfl⟩) ?_
 refine L_guard_tp (v := .int .i64 (c.top - a)) rfl rfl rfl rfl (fun hg20 => O_bin (v := .int .i64 (c.top - a)) (show ev _ _ = .int .i64 c.top from if_pos hg20) (show ev _ _ = .int .i64 a from if_pos hg20) rfl (b_sub (wrap_i64e rfl (capin_sub hg20 ht ha))) ⟨rfl, rfl⟩) ?_
 refine L_guard_tp (v := .bool (decide (n ≤ (c.top - a)))) rfl rfl rfl rfl (fun hg21 => O_bin (k := .i64) (k' := .i64) (a := n) (b := (c.top - a)) (show ev _ _ = .int .i64 n from if_pos hg21) (show ev _ _ = .int .i64 (c.top - a) from if_pos hg21) rfl b_leq ⟨rfl, rfl⟩) ?_
 refine L_cons rfl (O_pick rfl (pick_and _ _) rfl ?_)
 refine L_cons rfl (O_assign (v := .bool ((((decide (0 ≤ a) && decide (0 ≤ n)) && decide (c.base ≤ a)) && decide (a ≤ c.top)) && (decide (n ≤ (c.top - a))))) rfl rfl ?_)
 refine L_nil (thenQ_n (W_ret ?_))
 refine ⟨.bool ((((decide (0 ≤ a) && decide (0 ≤ n)) && decide (c.base ≤ a)) && decide (a ≤ c.top)) && (decide (n ≤ (c.top - a)))), res1 rfl, ?_⟩
 exact ⟨congrArg Value.bool (capIn_eq c a n), hs3.base⟩

set_option maxHeartbeats 1000000 in
/-- seizin/seizinlaw17.Great -/
theorem great_c (m : ImageV) (w : World) (hm : ∀ i ∈ imgIs m, i.φ w) (h1 : m.comps.length ≤ 200000000000000) (h2 : m.links.length ≤ 200000000000000) (h3 : m.shares.length ≤ 200000000000000) :
  C Try.prog 11 [.agg (imgCells m).toArray] w fun v w' => (∃ b, v = .bool b ∧ (b = false → GreatOk m)) ∧ Grow w w' := by
 have hs0 : St w (fun _ => False) w [] (imgIs m) := St.start w _ hm
 refine C_of_W [.tmp 2] 45 Try.func11 rfl Try.ntmps11 rfl rfl ?_
 refine W_seq (W_region ?_)
 refine L_cons rfl (O_box (v := .agg (imgCells m).toArray) (cs := (imgCells m)) hs0 rfl rfl rfl ?_)
 intro b1 w2 hb4 hs3
 refine L_cons rfl (O_assign (v := .bool false) rfl rfl ?_)
 refine L_nil (thenQ_n (W_seq (W_region ?_)))
 refine L_cons rfl (O_fieldAddr rfl fd26_3 rfl (o' := 3) rfl rfl ?_)
 refine L_cons rfl (O_load (v := .slice m.ca m.comps.length m.ccap) rfl ag22 (cell_of_blk (hs3.get 0 rfl) rfl) rfl ?_)
 refine L_cons rfl (O_len_slice (len := m.comps.length) rfl un22 rfl ?_)
 refine L_cons rfl (O_fieldAddr rfl fd26_4 rfl (o' := 4) rfl rfl ?_)
 refine L_cons rfl (O_load (v := .slice m.la m.links.length m.lcap) rfl ag23 (cell_of_blk (hs3.get 0 rfl) rfl) rfl ?_)
 refine L_cons rfl (O_len_slice (len := m.links.length) rfl un23 rfl ?_)
 refine L_cons rfl (O_bin (v := .int .i64 ((m.comps.length + m.links.length : Nat) : Int)) rfl rfl rfl (b_add (wrap_i64e (by omega) (by omega))) ?_)
 refine L_cons rfl (O_fieldAddr rfl fd26_5 rfl (o' := 5) rfl rfl ?_)
 refine L_cons rfl (O_load (v := .slice m.sa m.shares.length m.scap) rfl ag24 (cell_of_blk (hs3.get 0 rfl) rfl) rfl ?_)
 refine L_cons rfl (O_len_slice (len := m.shares.length) rfl un24 rfl ?_)
 refine L_cons rfl (O_bin (v := .int .i64 ((m.comps.length + m.links.length + m.shares.length : Nat) : Int)) rfl rfl rfl (b_add (wrap_i64e (by omega) (by omega))) ?_)
 refine L_cons rfl (O_assign (v := .int .i64 ((m.comps.length + m.links.length + m.shares.length : Nat) : Int)) rfl rfl ?_)
 refine L_nil (thenQ_n (W_seq (W_seq (W_region ?_))))
 refine L_cons rfl (O_assign (v := .int .i64 0) rfl rfl ?_)
 refine L_nil (thenQ_n (W_block ?_))
 refine W_loopm (fun m_ f_ w_ => ∃ k : Nat, ∃ n : Nat, m_ = m.comps.length - k ∧ (k ≤ m.comps.length) ∧ (m.comps.length + m.links.length + m.shares.length ≤ n) ∧ (n ≤ 600000000000000 + 20000 * k) ∧ ((n < 20000 → ∀ c ∈ m.comps.take k, c.code.length ≤ 20000)) ∧ f_ 1 = .pointer (some ⟨b1, 0, none⟩) ∧ f_ 3 = .int .i64 ((n : Nat) : Int) ∧ f_ 4 = .int .i64 ((k : Nat) : Int) ∧ St w (fun _ => False) w_ [blk b1 (imgCells m) 26] (imgIs m)) ?_ ?_
 ·exact ⟨_, 0, (m.comps.length + m.links.length + m.shares.length), rfl, Nat.zero_le _, Nat.le_refl _, by omega, (fun _ _ h => by simp at h), rfl, rfl, rfl, hs3⟩
 ·intro m8 f5 w6; rintro ⟨k, n, rfl, hk, hn1, hn2, hg, e9, e10, e11, hs7⟩
  rewrite [upd_id e9]
  rewrite [upd_id e10]
  rewrite [upd_id e11]
  refine W_seq (W_seq (W_region ?_))
  refine L_cons rfl (O_move (v := .int .i64 ((k : Nat) : Int)) rfl rfl ?_)
  refine L_cons rfl (O_fieldAddr rfl fd26_3 rfl (o' := 3) rfl rfl ?_)
  refine L_cons rfl (O_load (v := .slice m.ca m.comps.length m.ccap) rfl ag22 (cell_of_blk (hs7.get 0 rfl) rfl) rfl ?_)
  refine L_cons rfl (O_len_slice (len := m.comps.length) rfl un22 rfl ?_)
  refine L_cons rfl (O_bin (k := .i64) (k' := .i64) (a := ((k : Nat) : Int)) (b := ((m.comps.length : Nat) : Int)) rfl rfl rfl b_lss ?_)
  refine L_cons rfl (O_move (v := .bool (decide (((k : Nat) : Int) < ((m.comps.length : Nat) : Int)))) rfl rfl ?_)
  refine L_guard_tp (v := .int .i64 ((n : Nat) : Int)) rfl rfl rfl rfl (fun hg12 => O_move (v := .int .i64 ((n : Nat) : Int)) rfl rfl ⟨rfl, rfl⟩) ?_
  refine L_guard_tp (v := .bool (decide (((n : Nat) : Int) < 20000))) rfl rfl rfl rfl (fun hg13 => O_bin (k := .i64) (k' := .i64) (a := ((n : Nat) : Int)) (b := 20000) (show ev _ _ = .int .i64 ((n : Nat) : Int) from if_pos hg13) rfl rfl b_lss ⟨rfl, rfl⟩) ?_
  refine L_cons rfl (O_pick rfl (pick_and _ _) rfl ?_)
  refine L_nil (thenQ_n ?_)
  refine W_cond (t := ((decide (((k : Nat) : Int) < ((m.comps.length : Nat) : Int))) && (decide (((n : Nat) : Int) < 20000)))) rfl (fun hc14 => ?_) (fun hc14 => ?_)
  ·refine W_skip (thenQ_n (W_seq (W_block ?_)))
   have hkl : k < m.comps.length := by have := of_decide_eq_true (Bool.and_eq_true _ _ ▸ hc14 : _ ∧ _).1; omega
   refine W_region ?_
   refine L_cons rfl (O_move (v := .int .i64 ((n : Nat) : Int)) rfl rfl ?_)
   refine L_cons rfl (O_fieldAddr rfl fd26_3 rfl (o' := 3) rfl rfl ?_)
   refine L_cons rfl (O_load (v := .slice m.ca m.comps.length m.ccap) rfl ag22 (cell_of_blk (hs7.get 0 rfl) rfl) rfl ?_)
   refine L_cons rfl (O_move (v := .int .i64 ((k : Nat) : Int)) rfl rfl ?_)
   obtain ⟨b15, o16, ha17, hs18⟩ := hs7.elem 0 rfl k (by omega)
   refine L_cons rfl (O_indexAddr_at rfl ha17 rfl un22 sz53 (by omega) (by omega) (o' := o16 + k * 2) (by omega) rfl ?_)
   refine L_cons rfl (O_fieldAddr rfl fd53_0 rfl (o' := o16 + k * 2) rfl rfl ?_)
   refine L_cons rfl (O_load (v := .slice ((m.comps[k]'(by omega)).a) ((m.comps[k]'(by omega)).code.length) ((m.comps[k]'(by omega)).cap)) rfl ag27 ((hs18.getR 0 rfl).2 0 _ rfl) rfl ?_)
   refine L_cons rfl (O_len_slice (len := ((m.comps[k]'(by omega)).code.length)) rfl un27 rfl ?_)
   refine L_cons rfl (O_minE (c := ((min (m.comps[k]'(by omega)).code.length 20000 : Nat) : Int)) rfl rfl (min_nat _) rfl ?_)
   refine L_cons rfl (O_bin (v := .int .i64 ((n + (min (m.comps[k]'(by omega)).code.length 20000) : Nat) : Int)) rfl rfl rfl (b_add (wrap_i64e (by omega) (by omega))) ?_)
   refine L_cons rfl (O_assign (v := .int .i64 ((n + (min (m.comps[k]'(by omega)).code.length 20000) : Nat) : Int)) rfl rfl ?_)
   refine L_nil (blockQ_n (thenQ_n (W_region ?_)))
   refine L_cons rfl (O_move (v := .int .i64 ((k : Nat) : Int)) rfl rfl ?_)
   refine L_cons rfl (O_bin (v := .int .i64 ((k + 1 : Nat) : Int)) rfl rfl rfl (b_add (wrap_i64e (by omega) (by omega))) ?_)
   refine L_cons rfl (O_assign (v := .int .i64 ((k + 1 : Nat) : Int)) rfl rfl ?_)
   refine L_nil (thenQ_n ?_)
   refine ⟨_, ?_, k + 1, (n + min (m.comps[k]'(by omega)).code.length 20000), rfl, by omega, by omega, by omega, (fun hn => great_snoc (hg (by omega)) (by omega) (by omega)), rfl, rfl, rfl, hs18.popR⟩
   omega
  ·refine W_exit (thenQ_e (thenQ_e (blockQ_x (thenQ_n (W_seq (W_region ?_))))))
   refine L_cons rfl (O_move (v := .int .i64 ((n : Nat) : Int)) rfl rfl ?_)
   refine L_cons rfl (O_bin (k := .i64) (k' := .i64) (a := ((n : Nat) : Int)) (b := 20000) rfl rfl rfl b_geq ?_)
   refine L_cons rfl (O_move (v := .bool (decide (20000 ≤ ((n : Nat) : Int)))) rfl rfl ?_)
   refine L_guard_fp (v := .pointer (some ⟨b1, 3, none⟩)) rfl rfl rfl rfl (fun hg19 => O_fieldAddr rfl fd26_3 rfl (o' := 3) rfl rfl ⟨rfl, rfl⟩) ?_
   refine L_guard_fp (v := .slice m.ca m.comps.length m.ccap) rfl rfl rfl rfl (fun hg20 => O_load (v := .slice m.ca m.comps.length m.ccap) (show ev _ _ = .pointer (some ⟨b1, 3, none⟩) from if_pos hg20) ag22 (cell_of_blk (hs7.get 0 rfl) rfl) rfl ⟨rfl, rfl⟩) ?_
   refine L_guard_fp (v := .int .i64 ((m.comps.length : Nat) : Int)) rfl rfl rfl rfl (fun hg21 => O_len_slice (len := m.comps.length) (show ev _ _ = .slice m.ca m.comps.length m.ccap from if_pos hg21) un22 rfl ⟨rfl, rfl⟩) ?_
   refine L_guard_fp (v := .bool (decide (900 < ((m.comps.length : Nat) : Int)))) rfl rfl rfl rfl (fun hg22 => O_bin (k := .i64) (k' := .i64) (a := ((m.comps.length : Nat) : Int)) (b := 900) (show ev _ _ = .int .i64 ((m.comps.length : Nat) : Int) from if_pos hg22) rfl rfl b_gtr ⟨rfl, rfl⟩) ?_
   refine L_cons rfl (O_pick rfl (pick_or _ _) rfl ?_)
   refine L_cons rfl (O_assign (v := .bool ((decide (20000 ≤ ((n : Nat) : Int))) || (decide (900 < ((m.comps.length : Nat) : Int))))) rfl rfl ?_)
   refine L_nil (thenQ_n (W_ret ?_))
   refine ⟨.bool ((decide (20000 ≤ ((n : Nat) : Int))) || (decide (900 < ((m.comps.length : Nat) : Int)))), res1 rfl, ?_⟩
   exact ⟨⟨_, rfl, great_end hn1 hg hk hc14⟩, hs7.base⟩

theorem en29 : ∀ args w, (callFunc 29 args).run Try.prog w = .ok (.enter 29 args) w := fun args w => callFunc_run Try.func29 (by kernel_rfl) rfl args w
theorem en16 : ∀ args w, (callFunc 16 args).run Try.prog w = .ok (.enter 16 args) w := fun args w => callFunc_run Try.func16 (by kernel_rfl) rfl args w
theorem en12 : ∀ args w, (callFunc 12 args).run Try.prog w = .ok (.enter 12 args) w := fun args w => callFunc_run Try.func12 (by kernel_rfl) rfl args w
theorem en19 : ∀ args w, (callFunc 19 args).run Try.prog w = .ok (.enter 19 args) w := fun args w => callFunc_run Try.func19 (by kernel_rfl) rfl args w
theorem en18 : ∀ args w, (callFunc 18 args).run Try.prog w = .ok (.enter 18 args) w := fun args w => callFunc_run Try.func18 (by kernel_rfl) rfl args w

theorem one_ok {w : World} {b1 b2 b3 bh c : Nat} {a : Option Addr} {fr1 fr2 fr3 fr4 : Nat × Nat} (h1 : w.heap[b1]? = some (.cells [.slice a 8 c, .int .i64 1, .slice (some ⟨bh, 0, none⟩) 4 4, .int .i64 2].toArray 53 fr1)) (h2 : w.heap[b2]? = some (.cells [.int .i64 1, .int .i64 0, .int .i64 1].toArray 68 fr2)) (h3 : w.heap[b3]? = some (.cells [.int .i64 3, .int .i64 1].toArray 70 fr3))
  (h4 : (ownI 5 1 a c 8 (List.flatMap encB [1, 1, 0, 7, 0, 0, 0, 0])).φ w) (h5 : w.heap[bh]? = some (.cells [.int .u8 0, .int .u8 0, .int .u8 0, .int .u8 0].toArray 5 fr4)) :
  ∀ i ∈ imgIs (⟨false, 2, 8, some ⟨b1, 0, none⟩, 2, [⟨a, c, [1, 1, 0, 7, 0, 0, 0, 0], 1⟩, ⟨some ⟨bh, 0, none⟩, 4, [0, 0, 0, 0], 2⟩], some ⟨b2, 0, none⟩, 1, [⟨1, 0, 1⟩], some ⟨b3, 0, none⟩, 1, [⟨3, 1⟩]⟩ : ImageV), i.φ w := by
 intro i hi
 simp only [imgIs, List.mem_cons, List.not_mem_nil, or_false] at hi
 rcases hi with rfl | rfl | rfl | rfl
 ·exact arr_of_blk (enc := encComp) (m := 2) (fun _ => rfl) _ h1 rfl
 ·exact arr_of_blk (enc := encLink) (m := 3) (fun _ => rfl) _ h2 rfl
 ·exact arr_of_blk (enc := encShare) (m := 2) (fun _ => rfl) _ h3 rfl
 ·intro x hx
  simp only [List.mem_cons, List.not_mem_nil, or_false] at hx
  rcases hx with rfl | rfl
  ·exact arr_of_own (m := 1) (fun _ => rfl) (by decide) h4
  ·exact arr_of_blk (enc := encB) (m := 1) (fun _ => rfl) _ h5 rfl
theorem one_new {n : Nat} {b1 b2 b3 bh c : Nat} {a : Option Addr} (h1 : ∀ b, b = b1 → n ≤ b) (h2 : ∀ b, b = b2 → n ≤ b) (h3 : ∀ b, b = b3 → n ≤ b) (h4 : ∀ b, (∃ o, a = some ⟨b, o, none⟩) → n ≤ b) (h5 : ∀ b, b = bh → n ≤ b) :
  ∀ i ∈ imgIs (⟨false, 2, 8, some ⟨b1, 0, none⟩, 2, [⟨a, c, [1, 1, 0, 7, 0, 0, 0, 0], 1⟩, ⟨some ⟨bh, 0, none⟩, 4, [0, 0, 0, 0], 2⟩], some ⟨b2, 0, none⟩, 1, [⟨1, 0, 1⟩], some ⟨b3, 0, none⟩, 1, [⟨3, 1⟩]⟩ : ImageV), ∀ b, i.fp b → n ≤ b := by
 intro i hi b hb
 simp only [imgIs, List.mem_cons, List.not_mem_nil, or_false] at hi
 rcases hi with rfl | rfl | rfl | rfl
 ·obtain ⟨_, o, e⟩ := hb; cases e; exact h1 _ rfl
 ·obtain ⟨_, o, e⟩ := hb; cases e; exact h2 _ rfl
 ·obtain ⟨_, o, e⟩ := hb; cases e; exact h3 _ rfl
 ·obtain ⟨x, hx, hb⟩ := hb
  simp only [List.mem_cons, List.not_mem_nil, or_false] at hx
  rcases hx with rfl | rfl
  ·exact h4 b hb.2
  ·obtain ⟨_, o, e⟩ := hb; cases e; exact h5 _ rfl
theorem one_B {w : World} {b1 b2 b3 bh c : Nat} {a : Option Addr} (h4 : (ownI 5 1 a c 8 (List.flatMap encB [1, 1, 0, 7, 0, 0, 0, 0])).φ w) :
  ImgB (⟨false, 2, 8, some ⟨b1, 0, none⟩, 2, [⟨a, c, [1, 1, 0, 7, 0, 0, 0, 0], 1⟩, ⟨some ⟨bh, 0, none⟩, 4, [0, 0, 0, 0], 2⟩], some ⟨b2, 0, none⟩, 1, [⟨1, 0, 1⟩], some ⟨b3, 0, none⟩, 1, [⟨3, 1⟩]⟩ : ImageV) :=
 ⟨(show 2 ≤ 20000 by decide), (show 1 ≤ 20000 by decide), (show 1 ≤ 20000 by decide), Nat.le_refl 2, Nat.le_refl 1, Nat.le_refl 1, fun h => (nomatch h), fun h => (nomatch h), fun h => (nomatch h), fun x hx => by
  simp only [List.mem_cons, List.not_mem_nil, or_false] at hx
  rcases hx with rfl | rfl
  ·exact ⟨(show 8 ≤ 20000 by decide), own_cap h4⟩
  ·exact ⟨(show 4 ≤ 20000 by decide), Nat.le_refl 4, fun h => (nomatch h)⟩⟩

theorem encPair_len : ∀ p : CapV × CapV, (encPair p).length = 12 := fun _ => rfl
theorem C.own {P : Program} {g : FuncId} {args : List Value} {w : World} {α : Type} {E m : Nat} {enc : α → List Value} {l l2 : List α} (h : C P g args w fun v w' => (∃ a2 c2, v = .slice a2 l.length c2 ∧ (ownI E m a2 c2 l.length (l.flatMap enc)).φ w' ∧ ∀ x, (ownI E m a2 c2 l.length (l.flatMap enc)).fp x → w.heap.size ≤ x) ∧ Grow w w') (e : l = l2) :
  C P g args w fun v w' => (∃ a2 c2, v = .slice a2 l2.length c2 ∧ (ownI E m a2 c2 l2.length (l2.flatMap enc)).φ w' ∧ ∀ x, (ownI E m a2 c2 l2.length (l2.flatMap enc)).fp x → w.heap.size ≤ x) ∧ Grow w w' := e ▸ h

set_option maxHeartbeats 1000000 in
/-- seizin/seizinlaw17.One -/
theorem one_img  (w : World)  :
  C Try.prog 29 [] w fun v w' => (∃ m : ImageV, v = .agg (imgCells m).toArray ∧ (∀ i ∈ imgIs m, i.φ w') ∧ (∀ i ∈ imgIs m, ∀ b, i.fp b → w.heap.size ≤ b) ∧ ImgB m ∧ m.canon = oneI) ∧ Grow w w' := by
 have hs0 : St w (fun _ => False) w [] [] := St.start w _ (by simp)
 refine C_of_W [.cell 0 26] 17 Try.func29 rfl Try.ntmps29 rfl rfl ?_
 refine W_seq (W_region ?_)
 refine L_cons rfl (O_alloc (cs := [.bool false, .int .i64 0, .int .i64 0, .slice none 0 0, .slice none 0 0, .slice none 0 0]) hs0 zv26 rfl rfl ?_)
 intro b1 w2 hb4 hs3
 refine L_nil (thenQ_n (W_seq (W_region ?_)))
 refine L_cons rfl (O_buildSlice (zs := [.int .u8 0, .int .u8 0, .int .u8 0, .int .u8 0]) (ps := [(0, [.int .u8 0]), (1, [.int .u8 0]), (2, [.int .u8 0]), (3, [.int .u8 0])]) (cs := [.int .u8 0, .int .u8 0, .int .u8 0, .int .u8 0]) hs3 un27 sz5 zv5 rfl rfl rfl rfl rfl ?_)
 intro b5 w6 hb8 hs7
 refine L_cons rfl (O_assign (v := .slice (some ⟨b5, 0, none⟩) 4 4) rfl rfl ?_)
 refine L_nil (thenQ_n (W_seq (W_region ?_)))
 refine L_cons rfl (O_buildSlice (zs := [.int .u8 0, .int .u8 0, .int .u8 0, .int .u8 0]) (ps := [(0, [.int .u8 1]), (1, [.int .u8 1]), (2, [.int .u8 0]), (3, [.int .u8 7])]) (cs := [.int .u8 1, .int .u8 1, .int .u8 0, .int .u8 7]) hs7 un27 sz5 zv5 rfl rfl rfl rfl rfl ?_)
 intro b9 w10 hb12 hs11
 refine L_cons rfl (O_move (v := .slice (some ⟨b5, 0, none⟩) 4 4) rfl rfl ?_)
 have hs13 := hs11.ownBlk 0 rfl 1 4 rfl (by decide)
 refine L_cons rfl (O_appendE (n2 := 8) (xs2 := [.int .u8 1, .int .u8 1, .int .u8 0, .int .u8 7] ++ [.int .u8 0, .int .u8 0, .int .u8 0, .int .u8 0]) hs13 0 rfl rfl rfl un27 ni27 inf5 rfl (Src.rd (news := [.int .u8 0, .int .u8 0, .int .u8 0, .int .u8 0]) (Rd.of_blk (hs13.get 1 rfl) 0 4) rfl rfl) (rfl) (rfl) (by omega) (by omega) rfl ?_)
 intro a14 c15 w16 hs17
 refine L_cons rfl (O_assign (v := .slice a14 8 c15) rfl rfl ?_)
 refine L_nil (thenQ_n (W_seq (W_region ?_)))
 refine L_cons rfl (O_move (v := .slice a14 8 c15) rfl rfl ?_)
 refine L_cons rfl (O_build (ps := [(0, [.slice a14 8 c15]), (1, [.int .i64 1])]) (cells := [.slice a14 8 c15, .int .i64 1]) bt53 rfl rfl rfl ?_)
 refine L_cons rfl (O_move (v := .slice (some ⟨b5, 0, none⟩) 4 4) rfl rfl ?_)
 refine L_cons rfl (O_build (ps := [(0, [.slice (some ⟨b5, 0, none⟩) 4 4]), (1, [.int .i64 2])]) (cells := [.slice (some ⟨b5, 0, none⟩) 4 4, .int .i64 2]) bt53 rfl rfl rfl ?_)
 refine L_cons rfl (O_buildSlice (zs := [.slice none 0 0, .int .i64 0, .slice none 0 0, .int .i64 0]) (ps := [(0, [.slice a14 8 c15, .int .i64 1]), (1, [.slice (some ⟨b5, 0, none⟩) 4 4, .int .i64 2])]) (cs := [.slice a14 8 c15, .int .i64 1, .slice (some ⟨b5, 0, none⟩) 4 4, .int .i64 2]) hs17 un22 sz53 zv53 rfl rfl rfl rfl rfl ?_)
 intro b18 w19 hb21 hs20
 refine L_cons rfl (O_build (ps := [(0, [.int .i64 1]), (1, [.int .i64 0]), (2, [.int .i64 1])]) (cells := [.int .i64 1, .int .i64 0, .int .i64 1]) bt68 rfl rfl rfl ?_)
 refine L_cons rfl (O_buildSlice (zs := [.int .i64 0, .int .i64 0, .int .i64 0]) (ps := [(0, [.int .i64 1, .int .i64 0, .int .i64 1])]) (cs := [.int .i64 1, .int .i64 0, .int .i64 1]) hs20 un23 sz68 zv68 rfl rfl rfl rfl rfl ?_)
 intro b22 w23 hb25 hs24
 refine L_cons rfl (O_build (ps := [(0, [.int .i64 3]), (1, [.int .i64 1])]) (cells := [.int .i64 3, .int .i64 1]) bt70 rfl rfl rfl ?_)
 refine L_cons rfl (O_buildSlice (zs := [.int .i64 0, .int .i64 0]) (ps := [(0, [.int .i64 3, .int .i64 1])]) (cs := [.int .i64 3, .int .i64 1]) hs24 un24 sz70 zv70 rfl rfl rfl rfl rfl ?_)
 intro b26 w27 hb29 hs28
 refine L_cons rfl (O_build (ps := [(1, [.int .i64 2]), (2, [.int .i64 8]), (3, [.slice (some ⟨b18, 0, none⟩) 2 2]), (4, [.slice (some ⟨b22, 0, none⟩) 1 1]), (5, [.slice (some ⟨b26, 0, none⟩) 1 1])]) (cells := [.bool false, .int .i64 2, .int .i64 8, .slice (some ⟨b18, 0, none⟩) 2 2, .slice (some ⟨b22, 0, none⟩) 1 1, .slice (some ⟨b26, 0, none⟩) 1 1]) bt26 rfl rfl rfl ?_)
 refine L_cons rfl (O_store (v := .agg #[.bool false, .int .i64 2, .int .i64 8, .slice (some ⟨b18, 0, none⟩) 2 2, .slice (some ⟨b22, 0, none⟩) 1 1, .slice (some ⟨b26, 0, none⟩) 1 1]) (vs := [.bool false, .int .i64 2, .int .i64 8, .slice (some ⟨b18, 0, none⟩) 2 2, .slice (some ⟨b22, 0, none⟩) 1 1, .slice (some ⟨b26, 0, none⟩) 1 1]) (cs' := [.bool false, .int .i64 2, .int .i64 8, .slice (some ⟨b18, 0, none⟩) 2 2, .slice (some ⟨b22, 0, none⟩) 1 1, .slice (some ⟨b26, 0, none⟩) 1 1]) hs28 5 rfl rfl rfl sz26 rfl rfl rfl rfl rfl ?_)
 intro w30 hs31
 refine L_nil (thenQ_n (W_ret ?_))
 refine ⟨.agg #[.bool false, .int .i64 2, .int .i64 8, .slice (some ⟨b18, 0, none⟩) 2 2, .slice (some ⟨b22, 0, none⟩) 1 1, .slice (some ⟨b26, 0, none⟩) 1 1], resn [.agg #[.bool false, .int .i64 2, .int .i64 8, .slice (some ⟨b18, 0, none⟩) 2 2, .slice (some ⟨b22, 0, none⟩) 1 1, .slice (some ⟨b26, 0, none⟩) 1 1]] ⟨(rv_agg rfl ag26 sz26 (vs := [.bool false, .int .i64 2, .int .i64 8, .slice (some ⟨b18, 0, none⟩) 2 2, .slice (some ⟨b22, 0, none⟩) 1 1, .slice (some ⟨b26, 0, none⟩) 1 1]) (Rd.of_blk (hs31.get 5 rfl) 0 6) rfl), trivial⟩ rfl, ?_⟩
 exact ⟨⟨(⟨false, 2, 8, (some ⟨b18, 0, none⟩), 2, [⟨a14, c15, [1, 1, 0, 7, 0, 0, 0, 0], 1⟩, ⟨(some ⟨b5, 0, none⟩), 4, [0, 0, 0, 0], 2⟩], (some ⟨b22, 0, none⟩), 1, [⟨1, 0, 1⟩], (some ⟨b26, 0, none⟩), 1, [⟨3, 1⟩]⟩ : ImageV), rfl, one_ok (hs31.get 2 rfl) (hs31.get 1 rfl) (hs31.get 0 rfl) (hs31.get 3 rfl) (hs31.get 4 rfl), one_new (hs31.newB 2 rfl) (hs31.newB 1 rfl) (hs31.newB 0 rfl) (hs31.newB 3 rfl) (hs31.newB 4 rfl), one_B (hs31.get 3 rfl), rfl⟩, hs31.base⟩

set_option maxHeartbeats 4000000 in
/-- seizin/seizinlaw17.head -/
theorem head_c  (w : World)  :
  C Try.prog 10 [] w fun v w' => v = .bool true ∧ Grow w w' := by
 have hs0 : St w (fun _ => False) w [] [] := St.start w _ (by simp)
 refine C_of_W [.tmp 0] 113 Try.func10 rfl Try.ntmps10 rfl rfl ?_
 refine W_seq (W_region ?_)
 refine L_cons rfl (O_assign (v := .bool false) rfl rfl ?_)
 refine L_nil (thenQ_n (W_seq (W_region ?_)))
 refine L_cons rfl (O_call (args := []) rfl rfl rfl en29 (one_img _) ?_)
 rintro _ w1 ⟨⟨m, rfl, hp3, hn4, hb, hcan⟩, hk5⟩
 have hs2 := hs0.addRf hk5 (imgIs m) (fun i hi => ⟨hp3 i hi, hn4 i hi⟩)
 have hright : rightS m = true := by rw [← rightS_canon, hcan]; exact one_right
 refine L_cons rfl (O_alloc (cs := [.bool false, .int .i64 0, .int .i64 0, .slice none 0 0, .slice none 0 0, .slice none 0 0]) hs2 zv26 rfl rfl ?_)
 intro b6 w7 hb9 hs8
 refine L_cons rfl (O_store (v := .agg (imgCells m).toArray) (vs := (imgCells m)) (cs' := (imgCells m)) hs8 0 rfl rfl rfl sz26 rfl rfl rfl rfl rfl ?_)
 intro w10 hs11
 refine L_nil (thenQ_n (W_seq (W_region ?_)))
 refine L_cons rfl (O_load_agg (vs := (imgCells m)) rfl ag26 sz26 (Rd.of_blk (hs11.get 0 rfl) 0 6) rfl rfl ?_)
 refine L_cons rfl (O_call (args := [.agg (imgCells m).toArray]) rfl rfl rfl en16 (C.own (put_c m _ (fun i hi => hs11.r i (List.mem_of_mem_drop (l := (imgIs m)) (i := 0) hi)) hb) ((putS_canon m).symm.trans ((congrArg putS hcan).trans one_put))) ?_)
 rintro _ w14 ⟨⟨a12, c13, rfl, ha16, hn17⟩, hk18⟩
 have hqa12 := own_cap ha16
 have hs15 := hs11.addRf hk18 [arrI encB 1 a12 oneB] (List.forall_mem_cons.2 ⟨⟨arr_of_own (m := 1) (fun _ => rfl) (by decide) ha16, fun b hb => hn17 b hb.2⟩, fun _ h => by cases h⟩)
 refine L_cons rfl (O_assign (v := .slice a12 33 c13) rfl rfl ?_)
 refine L_nil (thenQ_n (W_seq (W_region ?_)))
 refine L_cons rfl (O_move (v := .slice a12 33 c13) rfl rfl ?_)
 refine L_cons rfl (O_call (args := [.slice a12 33 c13]) rfl rfl rfl en12 (getI_c a12 c13 oneB _ (hs15.getR 0 rfl) (by decide) hqa12.1 hqa12.2) ?_)
 rintro _ w19 ⟨⟨n0, e25, rfl, hp21, hn22, n0b, n0c, hx24⟩, hk23⟩
 rw [one_get] at n0c hx24; obtain rfl : e25 = 0 := hx24
 have hs20 := hs15.addRf hk23 (imgIs n0) (fun i hi => ⟨hp21 i hi, hn22 i hi⟩)
 refine L_cons rfl (O_move (v := .tuple #[.agg #[.bool n0.strict, .int .i64 n0.heap, .int .i64 n0.full, .slice n0.ca n0.comps.length n0.ccap, .slice n0.la n0.links.length n0.lcap, .slice n0.sa n0.shares.length n0.scap], .int .i64 0]) rfl rfl ?_)
 refine L_cons rfl (O_extract (v := .agg #[.bool n0.strict, .int .i64 n0.heap, .int .i64 n0.full, .slice n0.ca n0.comps.length n0.ccap, .slice n0.la n0.links.length n0.lcap, .slice n0.sa n0.shares.length n0.scap]) rfl rfl rfl ?_)
 refine L_cons rfl (O_extract (v := .int .i64 0) rfl rfl rfl ?_)
 refine L_cons rfl (O_alloc (cs := [.bool false, .int .i64 0, .int .i64 0, .slice none 0 0, .slice none 0 0, .slice none 0 0]) hs20 zv26 rfl rfl ?_)
 intro b26 w27 hb29 hs28
 refine L_cons rfl (O_store (v := .agg #[.bool n0.strict, .int .i64 n0.heap, .int .i64 n0.full, .slice n0.ca n0.comps.length n0.ccap, .slice n0.la n0.links.length n0.lcap, .slice n0.sa n0.shares.length n0.scap]) (vs := [.bool n0.strict, .int .i64 n0.heap, .int .i64 n0.full, .slice n0.ca n0.comps.length n0.ccap, .slice n0.la n0.links.length n0.lcap, .slice n0.sa n0.shares.length n0.scap]) (cs' := [.bool n0.strict, .int .i64 n0.heap, .int .i64 n0.full, .slice n0.ca n0.comps.length n0.ccap, .slice n0.la n0.links.length n0.lcap, .slice n0.sa n0.shares.length n0.scap]) hs28 0 rfl rfl rfl sz26 rfl rfl rfl rfl rfl ?_)
 intro w30 hs31
 refine L_cons rfl (O_assign (v := .int .i64 0) rfl rfl ?_)
 refine L_nil (thenQ_n (W_seq (W_region ?_)))
 refine L_cons rfl (O_call (args := [.slice none 0 0]) rfl rfl rfl en12 (getI_c none 0 [] _ ((fun i h => by cases h)) (by decide) (Nat.le_refl _) (fun _ => rfl)) ?_)
 rintro _ w32 ⟨⟨n1, e38, rfl, hp34, hn35, n1b, n1c, hx37⟩, hk36⟩
 rw [nil_get] at n1c hx37; obtain rfl : e38 = 1 := hx37
 have hs33 := hs31.addRf hk36 (imgIs n1) (fun i hi => ⟨hp34 i hi, hn35 i hi⟩)
 refine L_cons rfl (O_move (v := .tuple #[.agg #[.bool n1.strict, .int .i64 n1.heap, .int .i64 n1.full, .slice n1.ca n1.comps.length n1.ccap, .slice n1.la n1.links.length n1.lcap, .slice n1.sa n1.shares.length n1.scap], .int .i64 1]) rfl rfl ?_)
 refine L_cons rfl (O_extract (v := .agg #[.bool n1.strict, .int .i64 n1.heap, .int .i64 n1.full, .slice n1.ca n1.comps.length n1.ccap, .slice n1.la n1.links.length n1.lcap, .slice n1.sa n1.shares.length n1.scap]) rfl rfl rfl ?_)
 refine L_cons rfl (O_extract (v := .int .i64 1) rfl rfl rfl ?_)
 refine L_cons rfl (O_alloc (cs := [.bool false, .int .i64 0, .int .i64 0, .slice none 0 0, .slice none 0 0, .slice none 0 0]) hs33 zv26 rfl rfl ?_)
 intro b39 w40 hb42 hs41
 refine L_cons rfl (O_store (v := .agg #[.bool n1.strict, .int .i64 n1.heap, .int .i64 n1.full, .slice n1.ca n1.comps.length n1.ccap, .slice n1.la n1.links.length n1.lcap, .slice n1.sa n1.shares.length n1.scap]) (vs := [.bool n1.strict, .int .i64 n1.heap, .int .i64 n1.full, .slice n1.ca n1.comps.length n1.ccap, .slice n1.la n1.links.length n1.lcap, .slice n1.sa n1.shares.length n1.scap]) (cs' := [.bool n1.strict, .int .i64 n1.heap, .int .i64 n1.full, .slice n1.ca n1.comps.length n1.ccap, .slice n1.la n1.links.length n1.lcap, .slice n1.sa n1.shares.length n1.scap]) hs41 0 rfl rfl rfl sz26 rfl rfl rfl rfl rfl ?_)
 intro w43 hs44
 refine L_cons rfl (O_assign (v := .int .i64 1) rfl rfl ?_)
 refine L_nil (thenQ_n (W_seq (W_region ?_)))
 refine L_cons rfl (O_buildSlice (zs := []) (ps := []) (cs := []) hs44 un27 sz5 zv5 rfl rfl rfl rfl rfl ?_)
 intro b45 w46 hb48 hs47
 refine L_cons rfl (O_move (v := .slice a12 33 c13) rfl rfl ?_)
 have hs49 := hs47.ownBlk 0 rfl 1 0 rfl (by decide)
 refine L_cons rfl (O_appendE (n2 := 33) (xs2 := oneB.flatMap encB) hs49 0 rfl rfl rfl un27 ni27 inf5 rfl (Src.arr (hs49.getR 8 rfl) (fun _ => rfl) (fun _ => rfl) (hqa12.2) (hqa12.1)) (rfl) (rfl) (by decide) (by decide) rfl ?_)
 intro a50 c51 w52 hs53
 refine L_cons rfl (O_assign (v := .slice a50 33 c51) rfl rfl ?_)
 refine L_nil (thenQ_n (W_seq (W_seq (W_region ?_))))
 refine L_cons rfl (O_move (v := .slice a50 33 c51) rfl rfl ?_)
 refine L_cons rfl (O_len_slice (len := 33) rfl un27 rfl ?_)
 refine L_cons rfl (O_bin (k := .i64) (k' := .i64) (a := 33) (b := 33) (v := .bool false) rfl rfl rfl (fun w => (b_neq w).trans (by first | rfl | decide)) ?_)
 refine L_nil (thenQ_n ?_)
 refine W_cond_f rfl ?_
 refine W_skip (thenQ_n (W_seq (W_region ?_)))
 refine L_cons rfl (O_move (v := .slice a50 33 c51) rfl rfl ?_)
 refine L_cons rfl (O_indexAddr_at rfl (own_at (hs53.get 0 rfl) (by decide)) rfl un27 sz5 (by decide) (by decide) (o' := 32) (by omega) rfl ?_)
 refine L_cons rfl (O_storeOwn (v := .int .u8 9) (vs := [.int .u8 9]) (xs' := badB.flatMap encB) hs53 0 rfl rfl rfl sz5 rfl rfl rfl (by decide) (by decide) (by rfl) ?_)
 intro w54 hs55
 refine L_nil (thenQ_n (W_seq (W_region ?_)))
 refine L_cons rfl (O_move (v := .slice a50 33 c51) rfl rfl ?_)
 refine L_cons rfl (O_call (args := [.slice a50 33 c51]) rfl rfl rfl en12 (getI_c a50 c51 badB _ (arr_of_own (m := 1) (fun _ => rfl) (by decide) (hs55.get 0 rfl)) (by decide) (own_cap (hs55.get 0 rfl)).1 (own_cap (hs55.get 0 rfl)).2) ?_)
 rintro _ w56 ⟨⟨n2, e62, rfl, hp58, hn59, n2b, n2c, hx61⟩, hk60⟩
 rw [bad_get] at n2c hx61; obtain rfl : e62 = 151 := hx61
 have hs57 := hs55.addRf hk60 (imgIs n2) (fun i hi => ⟨hp58 i hi, hn59 i hi⟩)
 refine L_cons rfl (O_move (v := .tuple #[.agg #[.bool n2.strict, .int .i64 n2.heap, .int .i64 n2.full, .slice n2.ca n2.comps.length n2.ccap, .slice n2.la n2.links.length n2.lcap, .slice n2.sa n2.shares.length n2.scap], .int .i64 151]) rfl rfl ?_)
 refine L_cons rfl (O_extract (v := .agg #[.bool n2.strict, .int .i64 n2.heap, .int .i64 n2.full, .slice n2.ca n2.comps.length n2.ccap, .slice n2.la n2.links.length n2.lcap, .slice n2.sa n2.shares.length n2.scap]) rfl rfl rfl ?_)
 refine L_cons rfl (O_extract (v := .int .i64 151) rfl rfl rfl ?_)
 refine L_cons rfl (O_alloc (cs := [.bool false, .int .i64 0, .int .i64 0, .slice none 0 0, .slice none 0 0, .slice none 0 0]) hs57 zv26 rfl rfl ?_)
 intro b63 w64 hb66 hs65
 refine L_cons rfl (O_store (v := .agg #[.bool n2.strict, .int .i64 n2.heap, .int .i64 n2.full, .slice n2.ca n2.comps.length n2.ccap, .slice n2.la n2.links.length n2.lcap, .slice n2.sa n2.shares.length n2.scap]) (vs := [.bool n2.strict, .int .i64 n2.heap, .int .i64 n2.full, .slice n2.ca n2.comps.length n2.ccap, .slice n2.la n2.links.length n2.lcap, .slice n2.sa n2.shares.length n2.scap]) (cs' := [.bool n2.strict, .int .i64 n2.heap, .int .i64 n2.full, .slice n2.ca n2.comps.length n2.ccap, .slice n2.la n2.links.length n2.lcap, .slice n2.sa n2.shares.length n2.scap]) hs65 0 rfl rfl rfl sz26 rfl rfl rfl rfl rfl ?_)
 intro w67 hs68
 refine L_cons rfl (O_assign (v := .int .i64 151) rfl rfl ?_)
 refine L_nil (thenQ_n (W_seq (W_region ?_)))
 refine L_cons rfl (O_load_agg (vs := (imgCells m)) rfl ag26 sz26 (Rd.of_blk (hs68.get 4 rfl) 0 6) rfl rfl ?_)
 refine L_cons rfl (O_call (args := [.agg (imgCells m).toArray]) rfl rfl rfl en22 (where_r m hright _ (fun i hi => hs68.r i (List.mem_of_mem_drop (l := [arrI encComp 2 n2.ca n2.comps, arrI encLink 3 n2.la n2.links, arrI encShare 2 n2.sa n2.shares, codesI n2.comps, arrI encComp 2 n1.ca n1.comps, arrI encLink 3 n1.la n1.links, arrI encShare 2 n1.sa n1.shares, codesI n1.comps, arrI encComp 2 n0.ca n0.comps, arrI encLink 3 n0.la n0.links, arrI encShare 2 n0.sa n0.shares, codesI n0.comps, arrI encB 1 a12 oneB, arrI encComp 2 m.ca m.comps, arrI encLink 3 m.la m.links, arrI encShare 2 m.sa m.shares, codesI m.comps]) (i := 13) hi)) hb) ?_)
 rintro _ w77 ⟨⟨a69, c70, a71, c72, a73, c74, a75, c76, rfl, hr79⟩, hk80⟩
 have hpg : pgEnd m + ((m.shares.length : Nat) : Int) = 11 := by have e1 : m.shares = [⟨3, 1⟩] := congrArg ImageV.shares hcan; rw [e1, ← pgEnd_canon, hcan]; exact one_pages
 rw [hpg]
 have hs78 := hs68.keep hk80
 refine L_cons rfl (O_alloc (cs := [.slice none 0 0, .slice none 0 0, .slice none 0 0, .slice none 0 0, .int .i64 0]) hs78 zv45 rfl rfl ?_)
 intro b81 w82 hb84 hs83
 refine L_cons rfl (O_store (v := .agg #[.slice a69 m.comps.length c70, .slice a71 m.comps.length c72, .slice a73 m.comps.length c74, .slice a75 m.shares.length c76, .int .i64 11]) (vs := [.slice a69 m.comps.length c70, .slice a71 m.comps.length c72, .slice a73 m.comps.length c74, .slice a75 m.shares.length c76, .int .i64 11]) (cs' := [.slice a69 m.comps.length c70, .slice a71 m.comps.length c72, .slice a73 m.comps.length c74, .slice a75 m.shares.length c76, .int .i64 11]) hs83 0 rfl rfl rfl sz45 rfl rfl rfl rfl rfl ?_)
 intro w85 hs86
 refine L_nil (thenQ_n (W_seq (W_region ?_)))
 refine L_cons rfl (O_load_agg (vs := (imgCells m)) rfl ag26 sz26 (Rd.of_blk (hs86.get 5 rfl) 0 6) rfl rfl ?_)
 refine L_cons rfl (O_call (args := [.agg (imgCells m).toArray, .int .i64 1]) rfl rfl rfl en25 (C.own (grants_c m 1 _ (fun i hi => hs86.r i (List.mem_of_mem_drop (l := [arrI encComp 2 n2.ca n2.comps, arrI encLink 3 n2.la n2.links, arrI encShare 2 n2.sa n2.shares, codesI n2.comps, arrI encComp 2 n1.ca n1.comps, arrI encLink 3 n1.la n1.links, arrI encShare 2 n1.sa n1.shares, codesI n1.comps, arrI encComp 2 n0.ca n0.comps, arrI encLink 3 n0.la n0.links, arrI encShare 2 n0.sa n0.shares, codesI n0.comps, arrI encB 1 a12 oneB, arrI encComp 2 m.ca m.comps, arrI encLink 3 m.la m.links, arrI encShare 2 m.sa m.shares, codesI m.comps]) (i := 13) hi)) hb) ((grantsS_canon m 1).symm.trans ((congrArg (fun z => grantsS z 1) hcan).trans one_grants))) ?_)
 rintro _ w89 ⟨⟨a87, c88, rfl, ha91, hn92⟩, hk93⟩
 have hqa87 := own_cap ha91
 have hs90 := hs86.addRf hk93 [arrI encCap 6 a87 oneG] (List.forall_mem_cons.2 ⟨⟨arr_of_own (m := 6) (fun _ => rfl) (by decide) ha91, fun b hb => hn92 b hb.2⟩, fun _ h => by cases h⟩)
 refine L_cons rfl (O_assign (v := .slice a87 4 c88) rfl rfl ?_)
 refine L_nil (thenQ_n (W_seq (W_region ?_)))
 refine L_cons rfl (O_load_agg (vs := (imgCells m)) rfl ag26 sz26 (Rd.of_blk (hs90.get 5 rfl) 0 6) rfl rfl ?_)
 refine L_cons rfl (O_call (args := [.agg (imgCells m).toArray, .int .i64 1]) rfl rfl rfl en19 (C.own (pairs_c m 1 _ (fun i hi => hs90.r i (List.mem_of_mem_drop (l := [arrI encCap 6 a87 oneG, arrI encComp 2 n2.ca n2.comps, arrI encLink 3 n2.la n2.links, arrI encShare 2 n2.sa n2.shares, codesI n2.comps, arrI encComp 2 n1.ca n1.comps, arrI encLink 3 n1.la n1.links, arrI encShare 2 n1.sa n1.shares, codesI n1.comps, arrI encComp 2 n0.ca n0.comps, arrI encLink 3 n0.la n0.links, arrI encShare 2 n0.sa n0.shares, codesI n0.comps, arrI encB 1 a12 oneB, arrI encComp 2 m.ca m.comps, arrI encLink 3 m.la m.links, arrI encShare 2 m.sa m.shares, codesI m.comps]) (i := 14) hi)) hb) ((pairsS_canon m 1).symm.trans ((congrArg (fun z => pairsS z 1) hcan).trans one_pairs))) ?_)
 rintro _ w96 ⟨⟨a94, c95, rfl, ha98, hn99⟩, hk100⟩
 have hqa94 := own_cap ha98
 have hs97 := hs90.addRf hk100 [arrI encPair 12 a94 oneP] (List.forall_mem_cons.2 ⟨⟨arr_of_own (m := 12) (encPair_len) (by decide) ha98, fun b hb => hn99 b hb.2⟩, fun _ h => by cases h⟩)
 refine L_cons rfl (O_assign (v := .slice a94 1 c95) rfl rfl ?_)
 refine L_nil (thenQ_n (W_seq (W_region ?_)))
 refine L_cons rfl (O_load_agg (vs := (imgCells m)) rfl ag26 sz26 (Rd.of_blk (hs97.get 5 rfl) 0 6) rfl rfl ?_)
 refine L_cons rfl (O_load_agg (vs := [.bool n0.strict, .int .i64 n0.heap, .int .i64 n0.full, .slice n0.ca n0.comps.length n0.ccap, .slice n0.la n0.links.length n0.lcap, .slice n0.sa n0.shares.length n0.scap]) rfl ag26 sz26 (Rd.of_blk (hs97.get 4 rfl) 0 6) rfl rfl ?_)
 refine L_cons rfl (O_call (args := [.agg (imgCells m).toArray, .agg #[.bool n0.strict, .int .i64 n0.heap, .int .i64 n0.full, .slice n0.ca n0.comps.length n0.ccap, .slice n0.la n0.links.length n0.lcap, .slice n0.sa n0.shares.length n0.scap]]) rfl rfl rfl en18 (same_c m n0 _ (List.forall_mem_append.2 ⟨(fun i hi => hs97.r i (List.mem_of_mem_drop (l := [arrI encPair 12 a94 oneP, arrI encCap 6 a87 oneG, arrI encComp 2 n2.ca n2.comps, arrI encLink 3 n2.la n2.links, arrI encShare 2 n2.sa n2.shares, codesI n2.comps, arrI encComp 2 n1.ca n1.comps, arrI encLink 3 n1.la n1.links, arrI encShare 2 n1.sa n1.shares, codesI n1.comps, arrI encComp 2 n0.ca n0.comps, arrI encLink 3 n0.la n0.links, arrI encShare 2 n0.sa n0.shares, codesI n0.comps, arrI encB 1 a12 oneB, arrI encComp 2 m.ca m.comps, arrI encLink 3 m.la m.links, arrI encShare 2 m.sa m.shares, codesI m.comps]) (i := 15) hi)), (fun i hi => hs97.r i (List.mem_of_mem_drop (l := [arrI encPair 12 a94 oneP, arrI encCap 6 a87 oneG, arrI encComp 2 n2.ca n2.comps, arrI encLink 3 n2.la n2.links, arrI encShare 2 n2.sa n2.shares, codesI n2.comps, arrI encComp 2 n1.ca n1.comps, arrI encLink 3 n1.la n1.links, arrI encShare 2 n1.sa n1.shares, codesI n1.comps, arrI encComp 2 n0.ca n0.comps, arrI encLink 3 n0.la n0.links, arrI encShare 2 n0.sa n0.shares, codesI n0.comps, arrI encB 1 a12 oneB, arrI encComp 2 m.ca m.comps, arrI encLink 3 m.la m.links, arrI encShare 2 m.sa m.shares, codesI m.comps]) (i := 10) (List.mem_append_left [arrI encB 1 a12 oneB, arrI encComp 2 m.ca m.comps, arrI encLink 3 m.la m.links, arrI encShare 2 m.sa m.shares, codesI m.comps] hi)))⟩) hb n0b) ?_)
 rintro _ w101 ⟨⟨b104, rfl, hb105⟩, hk103⟩
 obtain rfl : b104 = true := hb105.2 (hcan.trans n0c.symm)
 have hs102 := hs97.keep hk103
 refine L_cons rfl (O_move (v := .bool true) rfl rfl ?_)
 refine L_guard_yes rfl rfl (O_move (v := .int .i64 0) rfl rfl ?_)
 refine L_guard_yes rfl rfl (O_bin (k := .i64) (k' := .i64) (a := 0) (b := 0) (v := .bool true) rfl rfl rfl (fun w => (b_eql w).trans (by first | rfl | decide)) ?_)
 refine L_cons rfl (O_pick (v := .bool true) rfl rfl rfl ?_)
 refine L_cons rfl (O_move (v := .bool true) rfl rfl ?_)
 refine L_guard_yes rfl rfl (O_move (v := .int .i64 1) rfl rfl ?_)
 refine L_guard_yes rfl rfl (O_bin (k := .i64) (k' := .i64) (a := 1) (b := 1) (v := .bool true) rfl rfl rfl (fun w => (b_eql w).trans (by first | rfl | decide)) ?_)
 refine L_cons rfl (O_pick (v := .bool true) rfl rfl rfl ?_)
 refine L_cons rfl (O_move (v := .bool true) rfl rfl ?_)
 refine L_guard_yes rfl rfl (O_move (v := .int .i64 151) rfl rfl ?_)
 refine L_guard_yes rfl rfl (O_bin (k := .i64) (k' := .i64) (a := 151) (b := 151) (v := .bool true) rfl rfl rfl (fun w => (b_eql w).trans (by first | rfl | decide)) ?_)
 refine L_cons rfl (O_pick (v := .bool true) rfl rfl rfl ?_)
 refine L_cons rfl (O_move (v := .bool true) rfl rfl ?_)
 refine L_guard_yes rfl rfl (O_fieldAddr rfl fd45_4 rfl (o' := 4) rfl rfl ?_)
 refine L_guard_yes rfl rfl (O_load (v := .int .i64 11) rfl ag3 (cell_of_blk (hs102.get 0 rfl) rfl) rfl ?_)
 refine L_guard_yes rfl rfl (O_bin (k := .i64) (k' := .i64) (a := 11) (b := 11) (v := .bool true) rfl rfl rfl (fun w => (b_eql w).trans (by first | rfl | decide)) ?_)
 refine L_cons rfl (O_pick (v := .bool true) rfl rfl rfl ?_)
 refine L_cons rfl (O_move (v := .bool true) rfl rfl ?_)
 refine L_guard_yes rfl rfl (O_move (v := .slice a87 4 c88) rfl rfl ?_)
 refine L_guard_yes rfl rfl (O_len_slice (len := 4) rfl un48 rfl ?_)
 refine L_guard_yes rfl rfl (O_bin (k := .i64) (k' := .i64) (a := 4) (b := 4) (v := .bool true) rfl rfl rfl (fun w => (b_eql w).trans (by first | rfl | decide)) ?_)
 refine L_cons rfl (O_pick (v := .bool true) rfl rfl rfl ?_)
 refine L_cons rfl (O_move (v := .bool true) rfl rfl ?_)
 refine L_guard_yes rfl rfl (O_move (v := .slice a87 4 c88) rfl rfl ?_)
 obtain ⟨b106, o107, ha108, hs109⟩ := hs102.elem 1 rfl 1 (by decide)
 refine L_guard_yes rfl rfl (O_indexAddr_at rfl ha108 rfl un48 sz39 (by omega) (by decide) (o' := o107 + 1 * 6) (by omega) rfl ?_)
 refine L_guard_yes rfl rfl (O_load_agg (vs := [.bool true, .int .i64 1536, .int .i64 2048, .int .i64 1536, .int .i64 27, .int .i64 0]) rfl ag39 sz39 ((hs109.getR 0 rfl).2) rfl rfl ?_)
 refine L_guard_yes rfl rfl (O_build (ps := [(0, [.bool true]), (1, [.int .i64 1536]), (2, [.int .i64 2048]), (3, [.int .i64 1536]), (4, [.int .i64 27])]) (cells := [.bool true, .int .i64 1536, .int .i64 2048, .int .i64 1536, .int .i64 27, .int .i64 0]) bt39 rfl rfl rfl ?_)
 refine L_guard_yes rfl rfl (O_binv (a := .agg #[.bool true, .int .i64 1536, .int .i64 2048, .int .i64 1536, .int .i64 27, .int .i64 0]) (b := .agg #[.bool true, .int .i64 1536, .int .i64 2048, .int .i64 1536, .int .i64 27, .int .i64 0]) rfl rfl rfl (eg_agg eqg39) (b_eql_agg (d := 2) (EqV.to (b' := true) (EqV.struct Try.underlying39 stood39 (EF.cons (by decide) ag4 rfl rfl (EqV.bool un4) (EF.cons (by decide) ag3 rfl rfl (EqV.int un3) (EF.cons (by decide) ag3 rfl rfl (EqV.int un3) (EF.cons (by decide) ag3 rfl rfl (EqV.int un3) (EF.cons (by decide) ag3 rfl rfl (EqV.int un3) (EF.cons (by decide) ag3 rfl rfl (EqV.int un3) EF.nil))))))) (by decide)) rfl) ?_)
 refine L_cons rfl (O_pick (v := .bool true) rfl rfl rfl ?_)
 refine L_cons rfl (O_move (v := .bool true) rfl rfl ?_)
 refine L_guard_yes rfl rfl (O_move (v := .slice a87 4 c88) rfl rfl ?_)
 obtain ⟨b110, o111, ha112, hs113⟩ := hs109.elem 2 rfl 3 (by decide)
 refine L_guard_yes rfl rfl (O_indexAddr_at rfl ha112 rfl un48 sz39 (by omega) (by decide) (o' := o111 + 3 * 6) (by omega) rfl ?_)
 refine L_guard_yes rfl rfl (O_fieldAddr rfl fd39_4 rfl (o' := o111 + 3 * 6 + 4) rfl rfl ?_)
 refine L_guard_yes rfl rfl (O_load (v := .int .i64 1) rfl ag3 ((hs113.getR 0 rfl).2 4 _ rfl) rfl ?_)
 refine L_guard_yes rfl rfl (O_bin (k := .i64) (k' := .i64) (a := 1) (b := 1) (v := .bool true) rfl rfl rfl (fun w => (b_eql w).trans (by first | rfl | decide)) ?_)
 refine L_cons rfl (O_pick (v := .bool true) rfl rfl rfl ?_)
 refine L_cons rfl (O_move (v := .bool true) rfl rfl ?_)
 refine L_guard_yes rfl rfl (O_move (v := .slice a94 1 c95) rfl rfl ?_)
 refine L_guard_yes rfl rfl (O_len_slice (len := 1) rfl un36 rfl ?_)
 refine L_guard_yes rfl rfl (O_bin (k := .i64) (k' := .i64) (a := 1) (b := 1) (v := .bool true) rfl rfl rfl (fun w => (b_eql w).trans (by first | rfl | decide)) ?_)
 refine L_cons rfl (O_pick (v := .bool true) rfl rfl rfl ?_)
 refine L_cons rfl (O_move (v := .bool true) rfl rfl ?_)
 refine L_guard_yes rfl rfl (O_move (v := .slice a94 1 c95) rfl rfl ?_)
 obtain ⟨b114, o115, ha116, hs117⟩ := hs113.elem 2 rfl 0 (by decide)
 refine L_guard_yes rfl rfl (O_indexAddr_at rfl ha116 rfl un36 sz40 (by omega) (by decide) (o' := o115 + 0 * 12) (by omega) rfl ?_)
 refine L_guard_yes rfl rfl (O_indexAddr_arr rfl rfl un40 sz39 (by omega) (by omega) (o' := o115 + 0 * 12) (by omega) rfl ?_)
 refine L_guard_yes rfl rfl (O_load_agg (vs := [.bool true, .int .i64 256, .int .i64 264, .int .i64 260, .int .i64 5, .int .i64 2]) rfl ag39 sz39 (Rd.part ((hs117.getR 0 rfl).2) 0 6) rfl rfl ?_)
 refine L_guard_yes rfl rfl (O_build (ps := [(0, [.bool true]), (1, [.int .i64 256]), (2, [.int .i64 264]), (3, [.int .i64 260]), (4, [.int .i64 5]), (5, [.int .i64 2])]) (cells := [.bool true, .int .i64 256, .int .i64 264, .int .i64 260, .int .i64 5, .int .i64 2]) bt39 rfl rfl rfl ?_)
 refine L_guard_yes rfl rfl (O_binv (a := .agg #[.bool true, .int .i64 256, .int .i64 264, .int .i64 260, .int .i64 5, .int .i64 2]) (b := .agg #[.bool true, .int .i64 256, .int .i64 264, .int .i64 260, .int .i64 5, .int .i64 2]) rfl rfl rfl (eg_agg eqg39) (b_eql_agg (d := 2) (EqV.to (b' := true) (EqV.struct Try.underlying39 stood39 (EF.cons (by decide) ag4 rfl rfl (EqV.bool un4) (EF.cons (by decide) ag3 rfl rfl (EqV.int un3) (EF.cons (by decide) ag3 rfl rfl (EqV.int un3) (EF.cons (by decide) ag3 rfl rfl (EqV.int un3) (EF.cons (by decide) ag3 rfl rfl (EqV.int un3) (EF.cons (by decide) ag3 rfl rfl (EqV.int un3) EF.nil))))))) (by decide)) rfl) ?_)
 refine L_cons rfl (O_pick (v := .bool true) rfl rfl rfl ?_)
 refine L_cons rfl (O_move (v := .bool true) rfl rfl ?_)
 refine L_guard_yes rfl rfl (O_move (v := .slice a94 1 c95) rfl rfl ?_)
 refine L_guard_yes rfl rfl (O_indexAddr_at rfl ha116 rfl un36 sz40 (by omega) (by decide) (o' := o115 + 0 * 12) (by omega) rfl ?_)
 refine L_guard_yes rfl rfl (O_indexAddr_arr rfl rfl un40 sz39 (by omega) (by omega) (o' := o115 + 0 * 12 + 6) (by omega) rfl ?_)
 refine L_guard_yes rfl rfl (O_fieldAddr rfl fd39_1 rfl (o' := o115 + 0 * 12 + 7) rfl rfl ?_)
 refine L_guard_yes rfl rfl (O_load (v := .int .i64 512) rfl ag3 ((hs117.getR 0 rfl).2 7 _ rfl) rfl ?_)
 refine L_guard_yes rfl rfl (O_bin (k := .i64) (k' := .i64) (a := 512) (b := 512) (v := .bool true) rfl rfl rfl (fun w => (b_eql w).trans (by first | rfl | decide)) ?_)
 refine L_cons rfl (O_pick (v := .bool true) rfl rfl rfl ?_)
 refine L_cons rfl (O_move (v := .bool true) rfl rfl ?_)
 refine L_guard_yes rfl rfl (O_load_agg (vs := (imgCells m)) rfl ag26 sz26 (Rd.of_blk (hs117.get 5 rfl) 0 6) rfl rfl ?_)
 refine L_guard_yes rfl rfl (O_call (args := [.agg (imgCells m).toArray]) rfl rfl rfl en14 (C.vb (b := rightS m) (iright_c m _ (fun i hi => hs117.r i (List.mem_of_mem_drop (l := [rdI b114 (o115 + 0 * 12) (encPair (oneP[0])), rdI b110 (o111 + 3 * 6) (encCap (oneG[3])), rdI b106 (o107 + 1 * 6) (encCap (oneG[1])), arrI encPair 12 a94 oneP, arrI encCap 6 a87 oneG, arrI encComp 2 n2.ca n2.comps, arrI encLink 3 n2.la n2.links, arrI encShare 2 n2.sa n2.shares, codesI n2.comps, arrI encComp 2 n1.ca n1.comps, arrI encLink 3 n1.la n1.links, arrI encShare 2 n1.sa n1.shares, codesI n1.comps, arrI encComp 2 n0.ca n0.comps, arrI encLink 3 n0.la n0.links, arrI encShare 2 n0.sa n0.shares, codesI n0.comps, arrI encB 1 a12 oneB, arrI encComp 2 m.ca m.comps, arrI encLink 3 m.la m.links, arrI encShare 2 m.sa m.shares, codesI m.comps]) (i := 18) hi)) hb) hright) ?_)
 rintro _ w118 ⟨rfl, hk120⟩
 have hs119 := hs117.keep hk120
 refine L_cons rfl (O_pick (v := .bool true) rfl rfl rfl ?_)
 refine L_cons rfl (O_move (v := .bool true) rfl rfl ?_)
 refine L_guard_yes rfl rfl (O_build (ps := []) (cells := [.bool false, .int .i64 0, .int .i64 0, .slice none 0 0, .slice none 0 0, .slice none 0 0]) bt26 rfl rfl rfl ?_)
 refine L_guard_yes rfl rfl (O_call (args := [.agg #[.bool false, .int .i64 0, .int .i64 0, .slice none 0 0, .slice none 0 0, .slice none 0 0]]) rfl rfl rfl en14 (C.vb (b := rightS noImg) (iright_c noImg _ noImg_ok noImg_B) no_right) ?_)
 rintro _ w121 ⟨rfl, hk123⟩
 have hs122 := hs119.keep hk123
 refine L_guard_yes rfl rfl (O_not (b := false) rfl rfl ?_)
 refine L_cons rfl (O_pick (v := .bool true) rfl rfl rfl ?_)
 refine L_cons rfl (O_assign (v := .bool true) rfl rfl ?_)
 refine L_nil (thenQ_n (W_ret ?_))
 refine ⟨.bool true, res1 rfl, ?_⟩
 exact ⟨rfl, hs122.base⟩

theorem en10 : ∀ args w, (callFunc 10 args).run Try.prog w = .ok (.enter 10 args) w := fun args w => callFunc_run Try.func10 (by kernel_rfl) rfl args w
theorem en11 : ∀ args w, (callFunc 11 args).run Try.prog w = .ok (.enter 11 args) w := fun args w => callFunc_run Try.func11 (by kernel_rfl) rfl args w

theorem imgB_of {m : ImageV} (h : ImgI m) (g : GreatOk m) : ImgB m := ⟨by have := g.c; omega, g.l, g.s, h.cc, h.lc, h.sc, h.cn, h.ln, h.sn, fun c hc => ⟨g.code c hc, h.co c hc⟩⟩
theorem imgB_st {m : ImageV} {b : Bool} (h : ImgB m) : ImgB (withSt m b) := ⟨h.cl, h.ll, h.sl, h.cc, h.lc, h.sc, h.cn, h.ln, h.sn, h.co⟩
theorem ask_step {code : List UInt8} {q q2 : Bool} {j : Nat} (h : 4 * j < code.length) (hq : q2 = (q || (List.range j).any fun t => decide ((((code[4 * t]?).getD 0).toNat : Int) = 28))) :
  (q2 || decide (((code[4 * j]).toNat : Int) = 28)) = (q || (List.range (j + 1)).any fun t => decide ((((code[4 * t]?).getD 0).toNat : Int) = 28)) := by
 rw [hq, List.range_succ, List.any_append, Bool.or_assoc, List.any_cons, List.any_nil, Bool.or_false, List.getElem?_eq_getElem h]; rfl
theorem ask_snoc {m : ImageV} {i j : Nat} {q q2 : Bool} (hi : i < m.comps.length) (hq : q = (m.comps.take i).any askC) (hq2 : q2 = (q || (List.range j).any fun t => decide (((((m.comps[i]).code[4 * t]?).getD 0).toNat : Int) = 28))) (h1 : 4 * j ≤ (m.comps[i]).code.length) (h2 : (m.comps[i]).code.length < 4 * j + 4) :
  q2 = (m.comps.take (i + 1)).any askC := by
 have e : j = (m.comps[i]).code.length / 4 := by omega
 rw [List.take_succ_eq_append_getElem hi, List.any_append, List.any_cons, List.any_nil, Bool.or_false, ← hq, hq2]
 unfold askC
 rw [← e]
theorem strict_end {m : ImageV} {q : Bool} {i : Nat} (hq : q = (m.comps.take i).any askC) (hi : m.comps.length ≤ i) : rightS (withSt m true) = (rightS (withSt m false) && !q) := by
 rw [hq, List.take_of_length_le hi]; exact strict_law m
theorem put_right {m : ImageV} (h : 0 < (putS m).length) : rightS m = true := by
 cases hr : rightS m
 ·rw [putS_no hr] at h; cases h
 ·rfl
theorem put_small {m : ImageV} (h : ImgB m) : (putS m).length ≤ 18000 := by
 cases hr : rightS m
 ·rw [putS_no hr]; exact Nat.zero_le _
 ·rw [putS_all hr]
  have hok := rightS_ok hr
  have := put4_len (m := m) (c := 4096) (fun x hx => (hok.comp x hx).lm) m.comps.length
  have := hok.n4; have := hok.l16; have := hok.s4
  have := Nat.mul_le_mul_right 4096 hok.n4
  show (put4 m m.comps.length).length ≤ _
  omega
theorem _root_.Go.Vg.St.arrTake {w0 w : World} {S : Nat → Prop} {M R : List Vg.Item} (h : St w0 S w M R) (k : Nat) {α : Type} {enc : α → List Value} {m : Nat} {a : Option Addr} {l : List α} (hk : R[k]? = some (arrI enc m a l)) (n : Nat) : St w0 S w M (arrI enc m a (l.take n) :: R) := by
 have h1 := h.arrSub k hk 0 n (n + 1) (.inr (by omega))
 rw [subA_zero, List.drop_zero] at h1
 exact h1

theorem getI_at (a : Option Addr) (cap n : Nat) (l : List UInt8) (hn : l.length = n) (w : World) (h : (arrI encB 1 a l).φ w) (hl : l.length ≤ 20000) (hcap : n ≤ cap) (hnil : a = none → cap = 0) :
  C Try.prog 12 [.slice a n cap] w fun v w' => (∃ (m : ImageV) (e : Int), v = .tuple #[.agg (imgCells m).toArray, .int .i64 e] ∧ (∀ i ∈ imgIs m, i.φ w') ∧ (∀ i ∈ imgIs m, ∀ b, i.fp b → w.heap.size ≤ b) ∧ ImgB m ∧ m.canon = (getI l).1 ∧ e = (getI l).2) ∧ Grow w w' := by
 subst hn; exact getI_c a cap l w h hl hcap hnil



end Go.Proofs.Ytgddigkdldnmdaa
