import Derived.Test.YtgddigkdldnmdaaCOwn8
namespace Go.Proofs.Ytgddigkdldnmdaa
open Go Go.Vg Go.Img
set_option linter.unusedSimpArgs false
set_option maxHeartbeats 4000000
theorem en27 : ∀ args w, (callFunc 27 args).run Try.prog w = .ok (.enter 27 args) w := fun args w => callFunc_run Try.func27 (by kernel_rfl) rfl args w
theorem en28 : ∀ args w, (callFunc 28 args).run Try.prog w = .ok (.enter 28 args) w := fun args w => callFunc_run Try.func28 (by kernel_rfl) rfl args w
theorem en20 : ∀ args w, (callFunc 20 args).run Try.prog w = .ok (.enter 20 args) w := fun args w => callFunc_run Try.func20 (by kernel_rfl) rfl args w
theorem ag40 : Ag Try.prog 40 true := fun _ => by kernel_rfl
theorem eqg40 : Try.prog.eqGuardType Try.prog.depth 40 = false := by kernel_rfl
theorem en21 : ∀ args w, (callFunc 21 args).run Try.prog w = .ok (.enter 21 args) w := fun args w => callFunc_run Try.func21 (by kernel_rfl) rfl args w
theorem en24 : ∀ args w, (callFunc 24 args).run Try.prog w = .ok (.enter 24 args) w := fun args w => callFunc_run Try.func24 (by kernel_rfl) rfl args w
def RgB (c : CapV) : Prop := (0 ≤ c.base ∧ c.base ≤ 1000000) ∧ (0 ≤ c.top ∧ c.top ≤ 1000000) ∧ (0 ≤ c.pos ∧ c.pos ≤ 1000000)
theorem gr_at {m : ImageV} {k : Int} {n j : Nat} (h : j < (grTo m k n).length) : (j = 0 ∧ (grTo m k n)[j] = grantV (codeAt m k.toNat) 5) ∨ (j = 1 ∧ (grTo m k n)[j] = grantV (dataAt m k.toNat) 27) ∨ (j = 2 ∧ (grTo m k n)[j] = grantV (16 + k, 16 + k + 1) 96) ∨
  (3 ≤ j ∧ ∃ s p, s < n ∧ (p = 1 ∨ p = 3) ∧ (grTo m k n)[j] = grantV (shAt m s, shAt m s + 256) p) := by
 match j, h with
 | 0, _ => exact .inl ⟨rfl, rfl⟩
 | 1, _ => exact .inr (.inl ⟨rfl, rfl⟩)
 | 2, _ => exact .inr (.inr (.inl ⟨rfl, rfl⟩))
 | j + 3, h =>
  refine .inr (.inr (.inr ⟨by omega, ?_⟩))
  have h' : j < ((List.range n).flatMap (grSh m k)).length := by
   unfold grTo at h; simp only [List.length_append, List.length_cons, List.length_nil] at h; omega
  have e0 : grTo m k n = [grantV (codeAt m k.toNat) 5, grantV (dataAt m k.toNat) 27, grantV (16 + k, 16 + k + 1) 96] ++ (List.range n).flatMap (grSh m k) := rfl
  have e : (grTo m k n)[j + 3] = ((List.range n).flatMap (grSh m k))[j] := by
   rw [List.getElem_of_eq e0 h, List.getElem_append_right (by simp)]; simp
  rw [e]
  obtain ⟨s, hs, hm⟩ := List.mem_flatMap.1 (List.getElem_mem h')
  unfold grSh at hm
  split at hm
  ·rw [List.mem_singleton] at hm
   refine ⟨s, shPerm (shareAt m s) k, by simpa using hs, ?_, hm⟩
   unfold shPerm; split <;> simp
  ·cases hm
structure OwnOk (c : CapV) : Prop where
 r : capR ⟨c.tag, c.base, c.top, c.pos, c.perms, c.ty⟩ = true
 t : c.tag = true
 y : c.ty = 0
 p : c.pos = c.base
theorem grant_ok {x : Int × Int} {p : Int} (h0 : 0 ≤ x.1) (h1 : x.1 ≤ x.2) (h2 : x.2 ≤ 1000000) (hp : 0 ≤ p ∧ p ≤ 127) : OwnOk (grantV x p) ∧ RgB (grantV x p) := by
 refine ⟨⟨?_, rfl, rfl, rfl⟩, ⟨⟨h0, ?_⟩, ⟨?_, h2⟩, ⟨h0, ?_⟩⟩⟩
 ·show capR ⟨true, x.1, x.2, x.1, p, 0⟩ = true
  unfold capR capA
  simp only [Bool.and_eq_true, Bool.not_eq_true', Bool.or_eq_false_iff, Bool.not_eq_false', decide_eq_true_eq, decide_eq_false_iff_not, Bool.not_true, Bool.false_or]
  omega
 ·show x.1 ≤ _; omega
 ·show 0 ≤ x.2; omega
 ·show x.1 ≤ _; omega
theorem code_r {m : ImageV} (h : RightOk m) {i : Nat} (hi : i < m.comps.length) : 256 ≤ (codeAt m i).1 ∧ (codeAt m i).1 < (codeAt m i).2 ∧ (codeAt m i).2 ≤ pgEnd m * 256 ∧ 256 ≤ (dataAt m i).1 ∧ (dataAt m i).1 < (dataAt m i).2 ∧ (dataAt m i).2 ≤ pgEnd m * 256 := by
 have h1 := code_ps h hi; have h2 := data_ps h hi
 have := h1.a; have := h1.b; have := h1.c; have := h2.a; have := h2.b; have := h2.c
 have hp := pgAt_b h i (by omega); have := end_ge h hi; have hc := cmpOk h hi; have := hc.g1; have := hc.d1; have := h.h1
 omega
theorem grants_ok {m : ImageV} (hr : rightS m = true) {i : Nat} (hi : i < m.comps.length) {c : CapV} (hc : c ∈ grantsS m (i : Int)) : OwnOk c ∧ RgB c := by
 have h := rightS_ok hr
 rw [grants_yes hr (by omega) (by omega)] at hc
 obtain ⟨j, hj, rfl⟩ := List.getElem_of_mem hc
 have hb := code_r h hi
 have hp := pgEnd_b h; have := h.s4; have := h.n4
 rcases gr_at hj with ⟨_, e⟩ | ⟨_, e⟩ | ⟨_, e⟩ | ⟨_, s, p, hs, hp, e⟩
 ·rw [e]; exact grant_ok (by rw [Int.toNat_natCast]; omega) (by rw [Int.toNat_natCast]; omega) (by rw [Int.toNat_natCast]; omega) (by decide)
 ·rw [e]; exact grant_ok (by rw [Int.toNat_natCast]; omega) (by rw [Int.toNat_natCast]; omega) (by rw [Int.toNat_natCast]; omega) (by decide)
 ·rw [e]; exact grant_ok (by show 0 ≤ 16 + (i : Int); omega) (by show 16 + (i : Int) ≤ 16 + (i : Int) + 1; omega) (by show 16 + (i : Int) + 1 ≤ _; omega) (by decide)
 ·rw [e]
  have : 0 ≤ shAt m s ∧ shAt m s + 256 ≤ 1000000 := by unfold shAt; omega
  exact grant_ok this.1 (by show shAt m s ≤ shAt m s + 256; omega) this.2 (by rcases hp with rfl | rfl <;> decide)
theorem own_3 {m : ImageV} (hr : rightS m = true) {i k : Nat} (hi : i < m.comps.length) (hk : k < m.comps.length) (hne : i ≠ k) {j l : Nat} (hj : j < (grantsS m (i : Int)).length) (hl : l < (grantsS m (k : Int)).length) :
  ¬ ((grantsS m (i : Int))[j]).base < ((grantsS m (k : Int))[l]).top ∨ (((grantsS m (i : Int))[j]).base < ((grantsS m (k : Int))[l]).top ∧ ¬ ((grantsS m (k : Int))[l]).base < ((grantsS m (i : Int))[j]).top) ∨
   (((grantsS m (i : Int))[j]).base < ((grantsS m (k : Int))[l]).top ∧ ((grantsS m (k : Int))[l]).base < ((grantsS m (i : Int))[j]).top ∧ 3 ≤ j ∧ 3 ≤ l) := by
 have h := rightS_ok hr
 have e1 := grants_yes hr (k := (i : Int)) (by omega) (by omega)
 have e2 := grants_yes hr (k := (k : Int)) (by omega) (by omega)
 have hj' : j < (grTo m (i : Int) m.shares.length).length := by rw [← e1]; exact hj
 have hl' : l < (grTo m (k : Int) m.shares.length).length := by rw [← e2]; exact hl
 have g1 : (grantsS m (i : Int))[j] = (grTo m (i : Int) m.shares.length)[j] := List.getElem_of_eq e1 hj
 have g2 : (grantsS m (k : Int))[l] = (grTo m (k : Int) m.shares.length)[l] := List.getElem_of_eq e2 hl
 rw [g1, g2]
 have b1 := code_r h hi; have b2 := code_r h hk; have hp := pgEnd_b h; have := h.n4
 have hd : (pgAt m i + cpg (compAt m i) + (compAt m i).data + m.heap ≤ pgAt m k ∨ pgAt m k + cpg (compAt m k) + (compAt m k).data + m.heap ≤ pgAt m i) := by
  rcases Nat.lt_or_gt_of_ne hne with h1 | h1
  ·exact .inl (pg_mono h h1 (by omega))
  ·exact .inr (pg_mono h h1 (by omega))
 have c1 := code_ps h hi; have c2 := code_ps h hk; have d1 := data_ps h hi; have d2 := data_ps h hk
 have := c1.a; have := c1.c; have := c2.a; have := c2.c; have := d1.a; have := d1.c; have := d2.a; have := d2.c
 have hc1 := cmpOk h hi; have hc2 := cmpOk h hk; have := hc1.g1; have := hc1.d1; have := hc2.g1; have := hc2.d1; have := h.h1
 have sh : ∀ s, pgEnd m * 256 ≤ shAt m s := fun s => by unfold shAt; omega
 rcases gr_at hj' with ⟨_, e⟩ | ⟨_, e⟩ | ⟨_, e⟩ | ⟨hj3, s, p, hs, _, e⟩ <;> rcases gr_at hl' with ⟨_, f⟩ | ⟨_, f⟩ | ⟨_, f⟩ | ⟨hl3, s2, p2, hs2, _, f⟩ <;> rw [e, f] <;>
  simp only [grantV, Int.toNat_natCast] <;> (try have := sh s) <;> (try have := sh s2) <;> omega
structure PairOk (x : CapV × CapV) : Prop where
 r1 : capR ⟨x.1.tag, x.1.base, x.1.top, x.1.pos, x.1.perms, x.1.ty⟩ = true
 r2 : capR ⟨x.2.tag, x.2.base, x.2.top, x.2.pos, x.2.perms, x.2.ty⟩ = true
 t2 : 2 ≤ x.1.ty
 t5 : x.1.ty ≤ 5
 te : x.2.ty = x.1.ty
 pm : x.2.perms < 32
 ci : capIn ⟨x.1.tag, x.1.base, x.1.top, x.1.pos, x.1.perms, x.1.ty⟩ x.1.pos 4 = true
 rg : RgB x.1
 tg : x.1.tag = true ∧ x.2.tag = true
theorem pairs_ok {m : ImageV} (hr : rightS m = true) {k : Int} {x : CapV × CapV} (hx : x ∈ pairsS m k) : PairOk x := by
 have h := rightS_ok hr
 unfold pairsS prTo at hx
 rw [if_pos hr] at hx
 obtain ⟨l, hl, hm⟩ := List.mem_flatMap.1 hx
 have hl := List.mem_of_mem_take hl
 unfold prL at hm
 split at hm
 ·rw [List.mem_singleton] at hm
  subst hm
  have hk := linkS_ok (h.link l hl)
  have hi : l.to.toNat < m.comps.length := by omega
  have b := code_r h hi; have hp := pgEnd_b h; have := h.n4
  have e := codeLen_at (m := m) (t := l.to) (by omega) (by omega)
  have hlen : (codeAt m l.to.toNat).2 = (codeAt m l.to.toNat).1 + (((m.comps[l.to.toNat]).code.length : Nat) : Int) := by unfold codeAt; rw [compAt_get hi]
  have hc := h.comp _ (List.getElem_mem hi)
  have := hc.l0; have := hc.lm
  have hq : 4 * l.ad + 4 ≤ (((m.comps[l.to.toNat]).code.length : Nat) : Int) := by omega
  refine ⟨?_, ?_, ?_, ?_, rfl, by show (27 : Int) < 32; decide, ?_, ?_, rfl, rfl⟩
  ·show capR ⟨true, (codeAt m l.to.toNat).1, (codeAt m l.to.toNat).2, (codeAt m l.to.toNat).1 + 4 * l.ad, 5, 2 + l.to⟩ = true
   unfold capR capA
   simp only [Bool.and_eq_true, Bool.not_eq_true', Bool.or_eq_false_iff, Bool.not_eq_false', decide_eq_true_eq, decide_eq_false_iff_not, Bool.not_true, Bool.false_or]
   omega
  ·show capR ⟨true, (dataAt m l.to.toNat).1, (dataAt m l.to.toNat).2, (dataAt m l.to.toNat).1, 27, 2 + l.to⟩ = true
   unfold capR capA
   simp only [Bool.and_eq_true, Bool.not_eq_true', Bool.or_eq_false_iff, Bool.not_eq_false', decide_eq_true_eq, decide_eq_false_iff_not, Bool.not_true, Bool.false_or]
   omega
  ·show 2 ≤ 2 + l.to; omega
  ·show 2 + l.to ≤ 5; omega
  ·show capIn ⟨true, (codeAt m l.to.toNat).1, (codeAt m l.to.toNat).2, (codeAt m l.to.toNat).1 + 4 * l.ad, 5, 2 + l.to⟩ ((codeAt m l.to.toNat).1 + 4 * l.ad) 4 = true
   unfold capIn
   simp only [Bool.and_eq_true, decide_eq_true_eq]
   omega
  ·show (0 ≤ (codeAt m l.to.toNat).1 ∧ (codeAt m l.to.toNat).1 ≤ 1000000) ∧ (0 ≤ (codeAt m l.to.toNat).2 ∧ (codeAt m l.to.toNat).2 ≤ 1000000) ∧ (0 ≤ (codeAt m l.to.toNat).1 + 4 * l.ad ∧ (codeAt m l.to.toNat).1 + 4 * l.ad ≤ 1000000)
   omega
 ·cases hm
theorem own_Q {m : ImageV} (hr : rightS m = true) {k : Nat} (hk : k < m.comps.length) {y : CapV} (hy : y ∈ grantsS m (k : Int)) {t : Int} (ht : t ≤ 5) : (decide (32 ≤ y.perms) && capIn ⟨y.tag, y.base, y.top, y.pos, y.perms, y.ty⟩ t 1) = false := by
 rw [grants_yes hr (by omega) (by omega)] at hy
 obtain ⟨j, hj, rfl⟩ := List.getElem_of_mem hy
 rcases gr_at hj with ⟨_, e⟩ | ⟨_, e⟩ | ⟨_, e⟩ | ⟨_, s, p, hs, hp, e⟩
 ·rw [e]; rfl
 ·rw [e]; rfl
 ·rw [e]
  have : capIn ⟨(grantV (16 + (k : Int), 16 + (k : Int) + 1) 96).tag, 16 + (k : Int), 16 + (k : Int) + 1, 16 + (k : Int), 96, 0⟩ t 1 = false := by
   unfold capIn
   simp only [Bool.and_eq_false_iff, decide_eq_false_iff_not]
   omega
  show (decide ((32 : Int) ≤ 96) && _) = false
  rw [Bool.and_eq_false_iff]; exact .inr this
 ·rw [e]; rcases hp with rfl | rfl <;> rfl
theorem own_split {c : CapV} (h : OwnOk c ∧ RgB c) : ∃ xb xt xp, c = ⟨true, xb, xt, xb, xp, 0⟩ ∧ capR ⟨true, xb, xt, xb, xp, 0⟩ = true ∧ ((0 ≤ xb ∧ xb ≤ 1000000) ∧ 0 ≤ xt ∧ xt ≤ 1000000) := by
 obtain ⟨⟨r, t, y, p⟩, g⟩ := h
 obtain ⟨t', b, tp, ps, pm, ty⟩ := c
 simp only at t y p
 subst t; subst y; subst p
 exact ⟨_, tp, pm, rfl, r, g.1, g.2.1⟩
theorem cap_split (c : CapV) : ∃ g b t a p y, c = ⟨g, b, t, a, p, y⟩ := ⟨_, _, _, _, _, _, rfl⟩
theorem pair_split {x : CapV × CapV} (h : PairOk x) : ∃ xb xt xa xp xy zb zt za zp, x = (⟨true, xb, xt, xa, xp, xy⟩, ⟨true, zb, zt, za, zp, xy⟩) ∧ capR ⟨true, xb, xt, xa, xp, xy⟩ = true ∧ capR ⟨true, zb, zt, za, zp, xy⟩ = true ∧ 2 ≤ xy ∧ xy ≤ 5 ∧ zp < 32 ∧ capIn ⟨true, xb, xt, xa, xp, xy⟩ xa 4 = true ∧
  ((0 ≤ xb ∧ xb ≤ 1000000) ∧ (0 ≤ xt ∧ xt ≤ 1000000) ∧ (0 ≤ xa ∧ xa ≤ 1000000)) := by
 obtain ⟨r1, r2, t2, t5, te, pm, ci, rg, tg⟩ := h
 obtain ⟨⟨g1, b1, tp1, a1, p1, y1⟩, ⟨g2, b2, tp2, a2, p2, y2⟩⟩ := x
 simp only at te tg
 obtain ⟨rfl, rfl⟩ := tg
 subst te
 exact ⟨_, _, _, _, _, _, _, _, _, rfl, r1, r2, t2, t5, pm, ci, rg⟩

theorem grants_le (m : ImageV) (k : Int) : (grantsS m k).length ≤ 100000 := by
 unfold grantsS
 split
 ·rename_i h
  have := (grTo_len m k m.shares.length).2; have := (rightS_ok h.1).s4; omega
 ·exact Nat.zero_le _
theorem grants_max {m : ImageV} {k : Int} (_h : rightS m = true) : (grantsS m k).length ≤ 100000 := grants_le m k
theorem pairs_le (m : ImageV) (k : Int) (hb : ImgB m) : (pairsS m k).length ≤ 20000 := by
 unfold pairsS
 split
 ·have := prTo_len m k m.links.length; have := hb.ll; omega
 ·exact Nat.zero_le _
theorem pairs_max {m : ImageV} {k : Int} (h : rightS m = true) : (pairsS m k).length ≤ 100000 := by
 unfold pairsS
 rw [if_pos h]
 have := prTo_len m k m.links.length; have := (rightS_ok h).l16; omega
theorem where_le (m : ImageV) : (whereS m).codes.length ≤ 100000 ∧ (whereS m).datas.length ≤ 100000 ∧ (whereS m).heaps.length ≤ 100000 ∧ (whereS m).shs.length ≤ 100000 := by
 cases h : rightS m
 ·have he : whereS m = ⟨[], [], [], [], 0⟩ := by unfold whereS; rw [h]; rfl
  rw [he]; exact ⟨Nat.zero_le _, Nat.zero_le _, Nat.zero_le _, Nat.zero_le _⟩
 ·rw [whereS_yes h]
  have := (rightS_ok h).n4; have := (rightS_ok h).s4
  simp only [codesTo_len, datasTo_len, heapsTo_len, shsTo_len]; omega

set_option maxHeartbeats 4000000 in
/-- seizin/seizinlaw17.ImageOwn -/
theorem own_c (m : ImageV) (ua ub : UInt8) (w : World) (hm : ∀ i ∈ imgIs m, i.φ w) (hI : ImgI m) :
  C Try.prog 7 [.agg (imgCells m).toArray, .int .u8 (ua.toNat : Int), .int .u8 (ub.toNat : Int)] w fun v w' => v = .bool true ∧ Grow w w' := by
 have hs0 : St w (fun _ => False) w [] (imgIs m) := St.start w _ hm
 refine C_of_W [.tmp 6] 231 Try.func7 rfl Try.ntmps7 rfl rfl ?_
 refine W_seq (W_region ?_)
 refine L_cons rfl (O_box (v := .agg (imgCells m).toArray) (cs := (imgCells m)) hs0 rfl rfl rfl ?_)
 intro b1 w2 hb4 hs3
 refine L_cons rfl (O_assign (v := .bool false) rfl rfl ?_)
 refine L_nil (thenQ_n (W_seq (W_region ?_)))
 refine L_cons rfl (O_call (args := []) rfl rfl rfl en10 (head_c _) ?_)
 rintro _ w5 ⟨rfl, hk7⟩
 have hs6 := hs3.keep hk7
 refine L_cons rfl (O_assign (v := .bool true) rfl rfl ?_)
 refine L_nil (thenQ_n (W_seq (W_seq (W_region ?_))))
 refine L_cons rfl (O_load_agg (vs := (imgCells m)) rfl ag26 sz26 (Rd.of_blk (hs6.get 0 rfl) 0 6) rfl rfl ?_)
 refine L_cons rfl (O_call (args := [.agg (imgCells m).toArray]) rfl rfl rfl en11 (great_c m _ (hs6.r) hI.cl hI.ll hI.sl) ?_)
 rintro _ w8 ⟨⟨bg, rfl, hg⟩, hk10⟩
 have hs9 := hs6.keep hk10
 refine L_cons rfl (O_move (v := .bool bg) rfl rfl ?_)
 refine L_guard_fp (v := .agg (imgCells m).toArray) rfl rfl rfl rfl (fun hg11 => O_load_agg (vs := (imgCells m)) rfl ag26 sz26 (Rd.of_blk (hs9.get 0 rfl) 0 6) rfl rfl ⟨rfl, rfl⟩) ?_
 refine L_guard_f (v := .bool (rightS m)) rfl rfl rfl rfl hs9 (fun hg12 => ?_) (fun w16 hs17 => ?_)
 ·refine O_call (args := [.agg (imgCells m).toArray]) rfl (cons2 (if_pos hg12) rfl) rfl en14 (iright_c m _ (hs9.r) (imgB_of hI (hg hg12))) ?_
  rintro _ w13 ⟨rfl, hk15⟩
  have hs14 := hs9.keep hk15
  exact ⟨rfl, hs14⟩
 refine L_guard_fp (v := .bool (!(rightS m))) rfl rfl rfl rfl (fun hg18 => O_not (b := (rightS m)) (show ev _ _ = .bool (rightS m) from if_pos hg18) rfl ⟨rfl, rfl⟩) ?_
 refine L_cons rfl (O_pick rfl (pick_or _ _) rfl ?_)
 refine L_nil (thenQ_n ?_)
 refine W_cond (t := (bg || (!(rightS m)))) rfl (fun hc19 => ?_) (fun hc19 => ?_)
 ·refine W_seq (W_region ?_)
  refine L_cons rfl (O_move (v := .bool true) rfl rfl ?_)
  refine L_cons rfl (O_assign (v := .bool true) rfl rfl ?_)
  refine L_nil (thenQ_n (W_ret (thenQ_r ?_)))
  refine ⟨.bool true, res1 rfl, ?_⟩
  exact ⟨rfl, hs17.base⟩
 ·refine W_skip (thenQ_n (W_seq ?_))
  have hgg := Bool.or_eq_false_iff.1 hc19
  have hb := imgB_of hI (hg hgg.1)
  have hright : rightS m = true := by simpa using hgg.2
  have hok := rightS_ok hright
  have := hok.n4; have hn1 := hok.n1; have := hok.s4; have := hok.l16
  obtain ⟨i, hid⟩ : ∃ i : Nat, ua.toNat % m.comps.length = i := ⟨_, rfl⟩
  have hil : i < m.comps.length := hid ▸ Nat.mod_lt _ (by omega)
  obtain ⟨k, hkd⟩ : ∃ k : Nat, ub.toNat % m.comps.length = k := ⟨_, rfl⟩
  have hkl : k < m.comps.length := hkd ▸ Nat.mod_lt _ (by omega)
  refine W_region ?_
  refine L_cons rfl (O_fieldAddr rfl fd26_3 rfl (o' := 3) rfl rfl ?_)
  refine L_cons rfl (O_load (v := .slice m.ca m.comps.length m.ccap) rfl ag22 (cell_of_blk (hs17.get 0 rfl) rfl) rfl ?_)
  refine L_cons rfl (O_len_slice (len := m.comps.length) rfl un22 rfl ?_)
  refine L_cons rfl (O_assign (v := .int .i64 ((m.comps.length : Nat) : Int)) rfl rfl ?_)
  refine L_nil (thenQ_n (W_seq (W_region ?_)))
  refine L_cons rfl (O_move (v := .int .u8 (ua.toNat : Int)) rfl rfl ?_)
  refine L_cons rfl (O_conv_int rfl un5 un3 rfl (c := (ua.toNat : Int)) (conv_u8_i64 _) ?_)
  refine L_cons rfl (O_move (v := .int .i64 ((m.comps.length : Nat) : Int)) rfl rfl ?_)
  refine L_cons rfl (O_bin (v := .int .i64 ((i : Nat) : Int)) rfl rfl rfl (b_rem (by omega) ((rem_nn (by omega) (by omega)).trans (by rw [← hid]; exact (Int.natCast_emod _ _).symm))) ?_)
  refine L_cons rfl (O_assign (v := .int .i64 ((i : Nat) : Int)) rfl rfl ?_)
  refine L_nil (thenQ_n (W_seq (W_region ?_)))
  refine L_cons rfl (O_move (v := .int .u8 (ub.toNat : Int)) rfl rfl ?_)
  refine L_cons rfl (O_conv_int rfl un5 un3 rfl (c := (ub.toNat : Int)) (conv_u8_i64 _) ?_)
  refine L_cons rfl (O_move (v := .int .i64 ((m.comps.length : Nat) : Int)) rfl rfl ?_)
  refine L_cons rfl (O_bin (v := .int .i64 ((k : Nat) : Int)) rfl rfl rfl (b_rem (by omega) ((rem_nn (by omega) (by omega)).trans (by rw [← hkd]; exact (Int.natCast_emod _ _).symm))) ?_)
  refine L_cons rfl (O_assign (v := .int .i64 ((k : Nat) : Int)) rfl rfl ?_)
  refine L_nil (thenQ_n (W_seq (W_region ?_)))
  refine L_cons rfl (O_load_agg (vs := (imgCells m)) rfl ag26 sz26 (Rd.of_blk (hs17.get 0 rfl) 0 6) rfl rfl ?_)
  refine L_cons rfl (O_move (v := .int .i64 ((i : Nat) : Int)) rfl rfl ?_)
  refine L_cons rfl (O_call (args := [.agg (imgCells m).toArray, .int .i64 ((i : Nat) : Int)]) rfl rfl rfl en25 (grants_c m ((i : Nat) : Int) _ (hs17.r) hb) ?_)
  rintro _ w22 ⟨⟨a20, c21, rfl, ha24, hn25⟩, hk26⟩
  generalize hG : grantsS m ((i : Nat) : Int) = G at *
  have hs23 := hs17.addRf hk26 [arrI encCap 6 a20 G] (List.forall_mem_cons.2 ⟨⟨arr_of_own (m := 6) (fun _ => rfl) (by decide) ha24, fun b hb => hn25 b hb.2⟩, fun _ h => by cases h⟩)
  clear ha24 hn25
  refine L_cons rfl (O_assign (v := .slice a20 G.length c21) rfl rfl ?_)
  refine L_nil (thenQ_n (W_seq (W_region ?_)))
  refine L_cons rfl (O_load_agg (vs := (imgCells m)) rfl ag26 sz26 (Rd.of_blk (hs23.get 0 rfl) 0 6) rfl rfl ?_)
  refine L_cons rfl (O_move (v := .int .i64 ((k : Nat) : Int)) rfl rfl ?_)
  refine L_cons rfl (O_call (args := [.agg (imgCells m).toArray, .int .i64 ((k : Nat) : Int)]) rfl rfl rfl en25 (grants_c m ((k : Nat) : Int) _ (hs23.popR.r) hb) ?_)
  rintro _ w29 ⟨⟨a27, c28, rfl, ha31, hn32⟩, hk33⟩
  generalize hH : grantsS m ((k : Nat) : Int) = H at *
  have hs30 := hs23.addRf hk33 [arrI encCap 6 a27 H] (List.forall_mem_cons.2 ⟨⟨arr_of_own (m := 6) (fun _ => rfl) (by decide) ha31, fun b hb => hn32 b hb.2⟩, fun _ h => by cases h⟩)
  clear ha31 hn32
  refine L_cons rfl (O_assign (v := .slice a27 H.length c28) rfl rfl ?_)
  refine L_nil (thenQ_n (W_seq (W_region ?_)))
  refine L_cons rfl (O_load_agg (vs := (imgCells m)) rfl ag26 sz26 (Rd.of_blk (hs30.get 0 rfl) 0 6) rfl rfl ?_)
  refine L_cons rfl (O_move (v := .int .i64 ((i : Nat) : Int)) rfl rfl ?_)
  refine L_cons rfl (O_call (args := [.agg (imgCells m).toArray, .int .i64 ((i : Nat) : Int)]) rfl rfl rfl en19 (pairs_c m ((i : Nat) : Int) _ (hs30.popR.popR.r) hb) ?_)
  rintro _ w36 ⟨⟨a34, c35, rfl, ha38, hn39⟩, hk40⟩
  generalize hPp : pairsS m ((i : Nat) : Int) = Pp at *
  have hs37 := hs30.addRf hk40 [arrI encPair 12 a34 Pp] (List.forall_mem_cons.2 ⟨⟨arr_of_own (m := 12) (encPair_len) (by decide) ha38, fun b hb => hn39 b hb.2⟩, fun _ h => by cases h⟩)
  clear ha38 hn39
  refine L_cons rfl (O_assign (v := .slice a34 Pp.length c35) rfl rfl ?_)
  refine L_nil (thenQ_n (W_seq (W_seq ?_)))
  have hg3 : 3 ≤ G.length := by rw [← hG]; exact grants_len hright (by omega) (by omega)
  have hh3 : 3 ≤ H.length := by rw [← hH]; exact grants_len hright (by omega) (by omega)
  have hgx : G.length ≤ 100000 := by rw [← hG]; exact grants_le _ _
  have hhx : H.length ≤ 100000 := by rw [← hH]; exact grants_le _ _
  have hpx0 : Pp.length ≤ 100000 := by rw [← hPp]; exact pairs_max hright
  have hGo : ∀ c ∈ G, OwnOk c ∧ RgB c := by rw [← hG]; exact fun c hc => grants_ok hright hil hc
  have hHo : ∀ c ∈ H, RgB c := by rw [← hH]; exact fun c hc => (grants_ok hright hkl hc).2
  have hPo : ∀ c ∈ Pp, PairOk c := by rw [← hPp]; exact fun c hc => pairs_ok hright hc
  have hQo : ∀ y ∈ H, ∀ t : Int, t ≤ 5 → (decide (32 ≤ y.perms) && capIn ⟨y.tag, y.base, y.top, y.pos, y.perms, y.ty⟩ t 1) = false := by rw [← hH]; exact fun y hy t ht => own_Q hright hkl hy ht
  have h3o : i ≠ k → ∀ (j l : Nat) (hj : j < G.length) (hl : l < H.length), ¬ (G[j]).base < (H[l]).top ∨ ((G[j]).base < (H[l]).top ∧ ¬ (H[l]).base < (G[j]).top) ∨ ((G[j]).base < (H[l]).top ∧ (H[l]).base < (G[j]).top ∧ 3 ≤ j ∧ 3 ≤ l) := by subst hG; subst hH; exact fun hne j l hj hl => own_3 hright hil hkl hne hj hl
  clear hG hH hPp
  refine W_region ?_
  refine L_cons rfl (O_move (v := .slice a20 G.length c21) rfl rfl ?_)
  refine L_cons rfl (O_len_slice (len := G.length) rfl un48 rfl ?_)
  refine L_cons rfl (O_bin (k := .i64) (k' := .i64) (a := ((G.length : Nat) : Int)) (b := 3) (v := .bool false) rfl rfl rfl (fun w => (b_lss w).trans (by rw [show decide (((G.length : Nat) : Int) < 3) = false from by simp; omega])) ?_)
  refine L_cons rfl (O_move (v := .bool false) rfl rfl ?_)
  refine L_guard_yes rfl rfl (O_move (v := .slice a27 H.length c28) rfl rfl ?_)
  refine L_guard_yes rfl rfl (O_len_slice (len := H.length) rfl un48 rfl ?_)
  refine L_guard_yes rfl rfl (O_bin (k := .i64) (k' := .i64) (a := ((H.length : Nat) : Int)) (b := 3) (v := .bool false) rfl rfl rfl (fun w => (b_lss w).trans (by rw [show decide (((H.length : Nat) : Int) < 3) = false from by simp; omega])) ?_)
  refine L_cons rfl (O_pick (v := .bool false) rfl rfl rfl ?_)
  refine L_nil (thenQ_n ?_)
  refine W_cond_f rfl ?_
  refine W_skip (thenQ_n (W_seq (W_seq (W_region ?_))))
  refine L_cons rfl (O_assign (v := .int .i64 0) rfl rfl ?_)
  refine L_nil (thenQ_n (W_block ?_))
  refine W_loopm (fun m_ f_ w_ => ∃ j : Nat, m_ = G.length - j ∧ (j ≤ G.length) ∧ f_ 7 = .bool true ∧ f_ 9 = .int .i64 ((i : Nat) : Int) ∧ f_ 10 = .int .i64 ((k : Nat) : Int) ∧ f_ 11 = .slice a20 G.length c21 ∧ f_ 12 = .slice a27 H.length c28 ∧ f_ 13 = .slice a34 Pp.length c35 ∧ f_ 14 = .int .i64 ((j : Nat) : Int) ∧ St w (fun _ => False) w_ [blk b1 (imgCells m) 26] [arrI encPair 12 a34 Pp, arrI encCap 6 a27 H, arrI encCap 6 a20 G, arrI encComp 2 m.ca m.comps, arrI encLink 3 m.la m.links, arrI encShare 2 m.sa m.shares, codesI m.comps]) ?_ ?_
  ·exact ⟨_, 0, rfl, by omega, rfl, rfl, rfl, rfl, rfl, rfl, rfl, hs37⟩
  ·intro m44 f41 w42; rintro ⟨j, rfl, hj, e45, e46, e47, e48, e49, e50, e51, hs43⟩
   rewrite [upd_id e45]
   rewrite [upd_id e46]
   rewrite [upd_id e47]
   rewrite [upd_id e48]
   rewrite [upd_id e49]
   rewrite [upd_id e50]
   rewrite [upd_id e51]
   refine W_seq (W_seq (W_region ?_))
   refine L_cons rfl (O_move (v := .int .i64 ((j : Nat) : Int)) rfl rfl ?_)
   refine L_cons rfl (O_move (v := .slice a20 G.length c21) rfl rfl ?_)
   refine L_cons rfl (O_len_slice (len := G.length) rfl un48 rfl ?_)
   refine L_cons rfl (O_bin (k := .i64) (k' := .i64) (a := ((j : Nat) : Int)) (b := ((G.length : Nat) : Int)) rfl rfl rfl b_lss ?_)
   refine L_nil (thenQ_n ?_)
   refine W_cond_d rfl (fun hc52 => ?_) (fun hc52 => ?_)
   ·refine W_skip (thenQ_n (W_seq (W_block (W_seq (W_seq ?_)))))
    obtain ⟨xb, xt, xp, hX, hxr, hxg⟩ := own_split (hGo _ (List.getElem_mem (by omega : j < G.length)))
    obtain ⟨b53, o54, ha55, hs56⟩ := hs43.elem 2 rfl j (by omega)
    rw [hX] at hs56
    refine W_par' mixed (show St _ _ _ [blk b1 (imgCells m) 26] _ from hs56) (fun i_ => match i_ with | _ => none) (fun i_ => match i_ with | _ => []) (fun i_ => match i_ with | _ => []) (fun i_ => match i_ with | 2 => [0, 1] | 3 => [2] | 4 => [3] | 5 => [4] | 6 => [5] | 7 => [6] | 8 => [6] | 9 => [6, 7, 8] | 10 => [6, 9] | 11 => [6, 10] | 12 => [6, 11] | 13 => [6, 12] | 14 => [13] | 15 => [14] | 16 => [14] | 17 => [14, 15, 16] | 18 => [14, 17] | 19 => [14, 18] | 20 => [14, 19] | 21 => [14, 20] | 22 => [21] | 23 => [22] | 24 => [22] | 25 => [22, 23, 24] | 26 => [22, 25] | 27 => [22, 26] | 28 => [22] | 29 => [22] | 30 => [22, 28, 29] | 31 => [22, 30] | 32 => [22, 31] | 33 => [22, 27, 32] | 34 => [22, 33] | _ => []) [35, 0, 1, 2, 3, 4, 5, 6, 7, 8, 9, 10, 11, 12, 13, 14, 15, 16, 17, 18, 19, 20, 21, 22, 23, 24, 25, 26, 27, 28, 29, 30, 31, 32, 33, 34, 36, 37, 38, 39, 40, 41, 42, 43, 44, 45, 46, 47, 48, 49, 50, 51, 52, 53, 54, 55, 56, 57, 58, 59, 60, 61, 62, 63, 64, 65, 66, 67, 68, 69, 70] [34] (fun i_ v_ => match i_ with | 0 => v_ = .slice a20 G.length c21 | 1 => v_ = .int .i64 ((j : Nat) : Int) | 2 => v_ = .pointer (some ⟨b53, o54 + j * 6, none⟩) | 3 => v_ = .agg #[.bool true, .int .i64 xb, .int .i64 xt, .int .i64 xb, .int .i64 xp, .int .i64 0] | 4 => v_ = .bool true | 5 => v_ = .bool false | 6 => v_ = .bool false | 7 => v_ = .slice a20 G.length c21 | 8 => v_ = .int .i64 ((j : Nat) : Int) | 9 => v_ = .pointer (some ⟨b53, o54 + j * 6, none⟩) | 10 => v_ = .pointer (some ⟨b53, o54 + j * 6, none⟩) | 11 => v_ = .bool true | 12 => v_ = .bool false | 13 => v_ = .bool false | 14 => v_ = .bool false | 15 => v_ = .slice a20 G.length c21 | 16 => v_ = .int .i64 ((j : Nat) : Int) | 17 => v_ = .pointer (some ⟨b53, o54 + j * 6, none⟩) | 18 => v_ = .pointer (some ⟨b53, o54 + j * 6 + 5, none⟩) | 19 => v_ = .int .i64 0 | 20 => v_ = .bool false | 21 => v_ = .bool false | 22 => v_ = .bool false | 23 => v_ = .slice a20 G.length c21 | 24 => v_ = .int .i64 ((j : Nat) : Int) | 25 => v_ = .pointer (some ⟨b53, o54 + j * 6, none⟩) | 26 => v_ = .pointer (some ⟨b53, o54 + j * 6 + 3, none⟩) | 27 => v_ = .int .i64 xb | 28 => v_ = .slice a20 G.length c21 | 29 => v_ = .int .i64 ((j : Nat) : Int) | 30 => v_ = .pointer (some ⟨b53, o54 + j * 6, none⟩) | 31 => v_ = .pointer (some ⟨b53, o54 + j * 6 + 1, none⟩) | 32 => v_ = .int .i64 xb | 33 => v_ = .bool false | 34 => v_ = .bool false | _ => True) (by kernel_rfl) (by kernel_rfl) ⟨?_, ?_, ?_, ?_, ?_, ?_, ?_, ?_, ?_, ?_, ?_, ?_, ?_, ?_, ?_, ?_, ?_, ?_, ?_, ?_, ?_, ?_, ?_, ?_, ?_, ?_, ?_, ?_, ?_, ?_, ?_, ?_, ?_, ?_, ?_, trivial⟩ ?_
    ·intro f0_ w0_ X0_ hfr hus hrd hst
     have hb11 : f0_ 11 = .slice a20 G.length c21 := (hfr 11 rfl)
     refine og_none rfl (O_move (v := .slice a20 G.length c21) hb11 rfl ?_)
     exact ⟨.slice a20 G.length c21, rfl, rfl, hst⟩
    ·intro f1_ w1_ X1_ hfr hus hrd hst
     have hb14 : f1_ 14 = .int .i64 ((j : Nat) : Int) := (hfr 14 rfl)
     refine og_none rfl (O_move (v := .int .i64 ((j : Nat) : Int)) hb14 rfl ?_)
     exact ⟨.int .i64 ((j : Nat) : Int), rfl, rfl, hst⟩
    ·intro f2_ w2_ X2_ hfr hus hrd hst
     obtain ⟨hu0, hu1, -⟩ := hus
     have hu0 : f2_ 62 = .slice a20 G.length c21 := hu0
     have hu1 : f2_ 63 = .int .i64 ((j : Nat) : Int) := hu1
     refine og_none rfl (O_indexAddr_at hu0 ha55 hu1 un48 sz39 (by omega) (by omega) (o' := o54 + j * 6) (by omega) rfl ?_)
     exact ⟨.pointer (some ⟨b53, o54 + j * 6, none⟩), rfl, rfl, hst⟩
    ·intro f3_ w3_ X3_ hfr hus hrd hst
     obtain ⟨hu2, -⟩ := hus
     have hu2 : f3_ 64 = .pointer (some ⟨b53, o54 + j * 6, none⟩) := hu2
     refine og_none rfl (O_load_agg (vs := [.bool true, .int .i64 xb, .int .i64 xt, .int .i64 xb, .int .i64 xp, .int .i64 0]) hu2 ag39 sz39 ((hst.getR 0 rfl).2) rfl rfl ?_)
     exact ⟨.agg #[.bool true, .int .i64 xb, .int .i64 xt, .int .i64 xb, .int .i64 xp, .int .i64 0], rfl, rfl, hst⟩
    ·intro f4_ w4_ X4_ hfr hus hrd hst
     obtain ⟨hu3, -⟩ := hus
     have hu3 : f4_ 65 = .agg #[.bool true, .int .i64 xb, .int .i64 xt, .int .i64 xb, .int .i64 xp, .int .i64 0] := hu3
     refine og_none rfl (O_call (args := [.agg #[.bool true, .int .i64 xb, .int .i64 xt, .int .i64 xb, .int .i64 xp, .int .i64 0]]) rfl (by simp only [List.map_cons, List.map_nil, List.nil_append, List.cons_append, List.append_nil, ev, Value.cells, hu3]) rfl en27 (C.vb (b' := true) (capright_c true xb xt xb xp 0 _) hxr) ?_)
     rintro _ w57 ⟨rfl, hk59⟩
     have hs58 := hst.keep hk59
     exact ⟨.bool true, rfl, rfl, hs58⟩
    ·intro f5_ w5_ X5_ hfr hus hrd hst
     obtain ⟨hu4, -⟩ := hus
     have hu4 : f5_ 66 = .bool true := hu4
     refine og_none rfl (O_not (b := true) hu4 rfl ?_)
     exact ⟨.bool false, rfl, rfl, hst⟩
    ·intro f6_ w6_ X6_ hfr hus hrd hst
     obtain ⟨hu5, -⟩ := hus
     have hu5 : f6_ 67 = .bool false := hu5
     refine og_none rfl (O_move (v := .bool false) hu5 rfl ?_)
     exact ⟨.bool false, rfl, rfl, hst⟩
    ·intro f7_ w7_ X7_ hfr hus hrd hst
     obtain ⟨hu6, -⟩ := hus
     have hu6 : f7_ 68 = .bool false := hu6
     have hb11 : f7_ 11 = .slice a20 G.length c21 := (hfr 11 rfl)
     refine og_yes rfl hu6 (O_move (v := .slice a20 G.length c21) hb11 rfl ?_)
     exact ⟨.slice a20 G.length c21, rfl, rfl, hst⟩
    ·intro f8_ w8_ X8_ hfr hus hrd hst
     obtain ⟨hu6, -⟩ := hus
     have hu6 : f8_ 68 = .bool false := hu6
     have hb14 : f8_ 14 = .int .i64 ((j : Nat) : Int) := (hfr 14 rfl)
     refine og_yes rfl hu6 (O_move (v := .int .i64 ((j : Nat) : Int)) hb14 rfl ?_)
     exact ⟨.int .i64 ((j : Nat) : Int), rfl, rfl, hst⟩
    ·intro f9_ w9_ X9_ hfr hus hrd hst
     obtain ⟨hu6, hu7, hu8, -⟩ := hus
     have hu6 : f9_ 68 = .bool false := hu6
     have hu7 : f9_ 69 = .slice a20 G.length c21 := hu7
     have hu8 : f9_ 70 = .int .i64 ((j : Nat) : Int) := hu8
     refine og_yes rfl hu6 (O_indexAddr_at hu7 ha55 hu8 un48 sz39 (by omega) (by omega) (o' := o54 + j * 6) (by omega) rfl ?_)
     exact ⟨.pointer (some ⟨b53, o54 + j * 6, none⟩), rfl, rfl, hst⟩
    ·intro f10_ w10_ X10_ hfr hus hrd hst
     obtain ⟨hu6, hu9, -⟩ := hus
     have hu6 : f10_ 68 = .bool false := hu6
     have hu9 : f10_ 71 = .pointer (some ⟨b53, o54 + j * 6, none⟩) := hu9
     refine og_yes rfl hu6 (O_fieldAddr hu9 fd39_0 rfl (o' := o54 + j * 6) rfl rfl ?_)
     exact ⟨.pointer (some ⟨b53, o54 + j * 6, none⟩), rfl, rfl, hst⟩
    ·intro f11_ w11_ X11_ hfr hus hrd hst
     obtain ⟨hu6, hu10, -⟩ := hus
     have hu6 : f11_ 68 = .bool false := hu6
     have hu10 : f11_ 72 = .pointer (some ⟨b53, o54 + j * 6, none⟩) := hu10
     refine og_yes rfl hu6 (O_load (v := .bool true) hu10 ag4 ((hst.getR 0 rfl).2 0 _ rfl) rfl ?_)
     exact ⟨.bool true, rfl, rfl, hst⟩
    ·intro f12_ w12_ X12_ hfr hus hrd hst
     obtain ⟨hu6, hu11, -⟩ := hus
     have hu6 : f12_ 68 = .bool false := hu6
     have hu11 : f12_ 73 = .bool true := hu11
     refine og_yes rfl hu6 (O_not (b := true) hu11 rfl ?_)
     exact ⟨.bool false, rfl, rfl, hst⟩
    ·intro f13_ w13_ X13_ hfr hus hrd hst
     obtain ⟨hu6, hu12, -⟩ := hus
     have hu6 : f13_ 68 = .bool false := hu6
     have hu12 : f13_ 74 = .bool false := hu12
     refine og_none rfl (O_pick (v := .bool false) hu6 (Eq.trans (if_neg (by decide)) hu12) rfl ?_)
     exact ⟨.bool false, rfl, rfl, hst⟩
    ·intro f14_ w14_ X14_ hfr hus hrd hst
     obtain ⟨hu13, -⟩ := hus
     have hu13 : f14_ 75 = .bool false := hu13
     refine og_none rfl (O_move (v := .bool false) hu13 rfl ?_)
     exact ⟨.bool false, rfl, rfl, hst⟩
    ·intro f15_ w15_ X15_ hfr hus hrd hst
     obtain ⟨hu14, -⟩ := hus
     have hu14 : f15_ 76 = .bool false := hu14
     have hb11 : f15_ 11 = .slice a20 G.length c21 := (hfr 11 rfl)
     refine og_yes rfl hu14 (O_move (v := .slice a20 G.length c21) hb11 rfl ?_)
     exact ⟨.slice a20 G.length c21, rfl, rfl, hst⟩
    ·intro f16_ w16_ X16_ hfr hus hrd hst
     obtain ⟨hu14, -⟩ := hus
     have hu14 : f16_ 76 = .bool false := hu14
     have hb14 : f16_ 14 = .int .i64 ((j : Nat) : Int) := (hfr 14 rfl)
     refine og_yes rfl hu14 (O_move (v := .int .i64 ((j : Nat) : Int)) hb14 rfl ?_)
     exact ⟨.int .i64 ((j : Nat) : Int), rfl, rfl, hst⟩
    ·intro f17_ w17_ X17_ hfr hus hrd hst
     obtain ⟨hu14, hu15, hu16, -⟩ := hus
     have hu14 : f17_ 76 = .bool false := hu14
     have hu15 : f17_ 77 = .slice a20 G.length c21 := hu15
     have hu16 : f17_ 78 = .int .i64 ((j : Nat) : Int) := hu16
     refine og_yes rfl hu14 (O_indexAddr_at hu15 ha55 hu16 un48 sz39 (by omega) (by omega) (o' := o54 + j * 6) (by omega) rfl ?_)
     exact ⟨.pointer (some ⟨b53, o54 + j * 6, none⟩), rfl, rfl, hst⟩
    ·intro f18_ w18_ X18_ hfr hus hrd hst
     obtain ⟨hu14, hu17, -⟩ := hus
     have hu14 : f18_ 76 = .bool false := hu14
     have hu17 : f18_ 79 = .pointer (some ⟨b53, o54 + j * 6, none⟩) := hu17
     refine og_yes rfl hu14 (O_fieldAddr hu17 fd39_5 rfl (o' := o54 + j * 6 + 5) rfl rfl ?_)
     exact ⟨.pointer (some ⟨b53, o54 + j * 6 + 5, none⟩), rfl, rfl, hst⟩
    ·intro f19_ w19_ X19_ hfr hus hrd hst
     obtain ⟨hu14, hu18, -⟩ := hus
     have hu14 : f19_ 76 = .bool false := hu14
     have hu18 : f19_ 80 = .pointer (some ⟨b53, o54 + j * 6 + 5, none⟩) := hu18
     refine og_yes rfl hu14 (O_load (v := .int .i64 0) hu18 ag3 ((hst.getR 0 rfl).2 5 _ rfl) rfl ?_)
     exact ⟨.int .i64 0, rfl, rfl, hst⟩
    ·intro f20_ w20_ X20_ hfr hus hrd hst
     obtain ⟨hu14, hu19, -⟩ := hus
     have hu14 : f20_ 76 = .bool false := hu14
     have hu19 : f20_ 81 = .int .i64 0 := hu19
     refine og_yes rfl hu14 (O_bin (k := .i64) (k' := .i64) (a := 0) (b := 0) (v := .bool false) hu19 rfl rfl (fun w => (b_neq w).trans (by first | rfl | decide)) ?_)
     exact ⟨.bool false, rfl, rfl, hst⟩
    ·intro f21_ w21_ X21_ hfr hus hrd hst
     obtain ⟨hu14, hu20, -⟩ := hus
     have hu14 : f21_ 76 = .bool false := hu14
     have hu20 : f21_ 82 = .bool false := hu20
     refine og_none rfl (O_pick (v := .bool false) hu14 (Eq.trans (if_neg (by decide)) hu20) rfl ?_)
     exact ⟨.bool false, rfl, rfl, hst⟩
    ·intro f22_ w22_ X22_ hfr hus hrd hst
     obtain ⟨hu21, -⟩ := hus
     have hu21 : f22_ 83 = .bool false := hu21
     refine og_none rfl (O_move (v := .bool false) hu21 rfl ?_)
     exact ⟨.bool false, rfl, rfl, hst⟩
    ·intro f23_ w23_ X23_ hfr hus hrd hst
     obtain ⟨hu22, -⟩ := hus
     have hu22 : f23_ 84 = .bool false := hu22
     have hb11 : f23_ 11 = .slice a20 G.length c21 := (hfr 11 rfl)
     refine og_yes rfl hu22 (O_move (v := .slice a20 G.length c21) hb11 rfl ?_)
     exact ⟨.slice a20 G.length c21, rfl, rfl, hst⟩
    ·intro f24_ w24_ X24_ hfr hus hrd hst
     obtain ⟨hu22, -⟩ := hus
     have hu22 : f24_ 84 = .bool false := hu22
     have hb14 : f24_ 14 = .int .i64 ((j : Nat) : Int) := (hfr 14 rfl)
     refine og_yes rfl hu22 (O_move (v := .int .i64 ((j : Nat) : Int)) hb14 rfl ?_)
     exact ⟨.int .i64 ((j : Nat) : Int), rfl, rfl, hst⟩
    ·intro f25_ w25_ X25_ hfr hus hrd hst
     obtain ⟨hu22, hu23, hu24, -⟩ := hus
     have hu22 : f25_ 84 = .bool false := hu22
     have hu23 : f25_ 85 = .slice a20 G.length c21 := hu23
     have hu24 : f25_ 86 = .int .i64 ((j : Nat) : Int) := hu24
     refine og_yes rfl hu22 (O_indexAddr_at hu23 ha55 hu24 un48 sz39 (by omega) (by omega) (o' := o54 + j * 6) (by omega) rfl ?_)
     exact ⟨.pointer (some ⟨b53, o54 + j * 6, none⟩), rfl, rfl, hst⟩
    ·intro f26_ w26_ X26_ hfr hus hrd hst
     obtain ⟨hu22, hu25, -⟩ := hus
     have hu22 : f26_ 84 = .bool false := hu22
     have hu25 : f26_ 87 = .pointer (some ⟨b53, o54 + j * 6, none⟩) := hu25
     refine og_yes rfl hu22 (O_fieldAddr hu25 fd39_3 rfl (o' := o54 + j * 6 + 3) rfl rfl ?_)
     exact ⟨.pointer (some ⟨b53, o54 + j * 6 + 3, none⟩), rfl, rfl, hst⟩
    ·intro f27_ w27_ X27_ hfr hus hrd hst
     obtain ⟨hu22, hu26, -⟩ := hus
     have hu22 : f27_ 84 = .bool false := hu22
     have hu26 : f27_ 88 = .pointer (some ⟨b53, o54 + j * 6 + 3, none⟩) := hu26
     refine og_yes rfl hu22 (O_load (v := .int .i64 xb) hu26 ag3 ((hst.getR 0 rfl).2 3 _ rfl) rfl ?_)
     exact ⟨.int .i64 xb, rfl, rfl, hst⟩
    ·intro f28_ w28_ X28_ hfr hus hrd hst
     obtain ⟨hu22, -⟩ := hus
     have hu22 : f28_ 84 = .bool false := hu22
     have hb11 : f28_ 11 = .slice a20 G.length c21 := (hfr 11 rfl)
     refine og_yes rfl hu22 (O_move (v := .slice a20 G.length c21) hb11 rfl ?_)
     exact ⟨.slice a20 G.length c21, rfl, rfl, hst⟩
    ·intro f29_ w29_ X29_ hfr hus hrd hst
     obtain ⟨hu22, -⟩ := hus
     have hu22 : f29_ 84 = .bool false := hu22
     have hb14 : f29_ 14 = .int .i64 ((j : Nat) : Int) := (hfr 14 rfl)
     refine og_yes rfl hu22 (O_move (v := .int .i64 ((j : Nat) : Int)) hb14 rfl ?_)
     exact ⟨.int .i64 ((j : Nat) : Int), rfl, rfl, hst⟩
    ·intro f30_ w30_ X30_ hfr hus hrd hst
     obtain ⟨hu22, hu28, hu29, -⟩ := hus
     have hu22 : f30_ 84 = .bool false := hu22
     have hu28 : f30_ 90 = .slice a20 G.length c21 := hu28
     have hu29 : f30_ 91 = .int .i64 ((j : Nat) : Int) := hu29
     refine og_yes rfl hu22 (O_indexAddr_at hu28 ha55 hu29 un48 sz39 (by omega) (by omega) (o' := o54 + j * 6) (by omega) rfl ?_)
     exact ⟨.pointer (some ⟨b53, o54 + j * 6, none⟩), rfl, rfl, hst⟩
    ·intro f31_ w31_ X31_ hfr hus hrd hst
     obtain ⟨hu22, hu30, -⟩ := hus
     have hu22 : f31_ 84 = .bool false := hu22
     have hu30 : f31_ 92 = .pointer (some ⟨b53, o54 + j * 6, none⟩) := hu30
     refine og_yes rfl hu22 (O_fieldAddr hu30 fd39_1 rfl (o' := o54 + j * 6 + 1) rfl rfl ?_)
     exact ⟨.pointer (some ⟨b53, o54 + j * 6 + 1, none⟩), rfl, rfl, hst⟩
    ·intro f32_ w32_ X32_ hfr hus hrd hst
     obtain ⟨hu22, hu31, -⟩ := hus
     have hu22 : f32_ 84 = .bool false := hu22
     have hu31 : f32_ 93 = .pointer (some ⟨b53, o54 + j * 6 + 1, none⟩) := hu31
     refine og_yes rfl hu22 (O_load (v := .int .i64 xb) hu31 ag3 ((hst.getR 0 rfl).2 1 _ rfl) rfl ?_)
     exact ⟨.int .i64 xb, rfl, rfl, hst⟩
    ·intro f33_ w33_ X33_ hfr hus hrd hst
     obtain ⟨hu22, hu27, hu32, -⟩ := hus
     have hu22 : f33_ 84 = .bool false := hu22
     have hu27 : f33_ 89 = .int .i64 xb := hu27
     have hu32 : f33_ 94 = .int .i64 xb := hu32
     refine og_yes rfl hu22 (O_bin (k := .i64) (k' := .i64) (a := xb) (b := xb) (v := .bool false) hu27 hu32 rfl (fun w => (b_neq w).trans (by rw [show decide (xb ≠ xb) = false from by simp])) ?_)
     exact ⟨.bool false, rfl, rfl, hst⟩
    ·intro f34_ w34_ X34_ hfr hus hrd hst
     obtain ⟨hu22, hu33, -⟩ := hus
     have hu22 : f34_ 84 = .bool false := hu22
     have hu33 : f34_ 95 = .bool false := hu33
     refine og_none rfl (O_pick (v := .bool false) hu22 (Eq.trans (if_neg (by decide)) hu33) rfl ?_)
     exact ⟨.bool false, rfl, rfl, hst⟩
    intro f83 w84 hfr hus hs85
    obtain ⟨hu34, -⟩ := hus
    have hu34 : f83 96 = .bool false := hu34
    have hs85 : St _ _ _ [blk b1 (imgCells m) 26] _ := hs85
    have e86 : f83 7 = .bool true := (hfr 7 rfl)
    rewrite [upd_id e86]
    have e87 : f83 9 = .int .i64 ((i : Nat) : Int) := (hfr 9 rfl)
    rewrite [upd_id e87]
    have e88 : f83 10 = .int .i64 ((k : Nat) : Int) := (hfr 10 rfl)
    rewrite [upd_id e88]
    have e89 : f83 11 = .slice a20 G.length c21 := (hfr 11 rfl)
    rewrite [upd_id e89]
    have e90 : f83 12 = .slice a27 H.length c28 := (hfr 12 rfl)
    rewrite [upd_id e90]
    have e91 : f83 13 = .slice a34 Pp.length c35 := (hfr 13 rfl)
    rewrite [upd_id e91]
    have e92 : f83 14 = .int .i64 ((j : Nat) : Int) := (hfr 14 rfl)
    rewrite [upd_id e92]
    rewrite [upd_id hu34]
    refine thenQ_n ?_
    refine W_cond_f rfl ?_
    refine W_skip (thenQ_n (W_seq (W_region ?_)))
    refine L_cons rfl (O_assign (v := .int .i64 0) rfl rfl ?_)
    refine L_nil (thenQ_n (W_block ?_))
    refine W_loopm (fun m_ f_ w_ => ∃ l : Nat, m_ = H.length - l ∧ (l ≤ H.length) ∧ f_ 7 = .bool true ∧ f_ 9 = .int .i64 ((i : Nat) : Int) ∧ f_ 10 = .int .i64 ((k : Nat) : Int) ∧ f_ 11 = .slice a20 G.length c21 ∧ f_ 12 = .slice a27 H.length c28 ∧ f_ 13 = .slice a34 Pp.length c35 ∧ f_ 14 = .int .i64 ((j : Nat) : Int) ∧ f_ 15 = .int .i64 ((l : Nat) : Int) ∧ St w (fun _ => False) w_ [blk b1 (imgCells m) 26] [rdI b53 (o54 + j * 6) (encCap ⟨true, xb, xt, xb, xp, 0⟩), arrI encPair 12 a34 Pp, arrI encCap 6 a27 H, arrI encCap 6 a20 G, arrI encComp 2 m.ca m.comps, arrI encLink 3 m.la m.links, arrI encShare 2 m.sa m.shares, codesI m.comps]) ?_ ?_
    ·exact ⟨_, 0, rfl, by omega, rfl, rfl, rfl, rfl, rfl, rfl, rfl, rfl, hs85⟩
    ·intro m96 f93 w94; rintro ⟨l, rfl, hl, e97, e98, e99, e100, e101, e102, e103, e104, hs95⟩
     rewrite [upd_id e97]
     rewrite [upd_id e98]
     rewrite [upd_id e99]
     rewrite [upd_id e100]
     rewrite [upd_id e101]
     rewrite [upd_id e102]
     rewrite [upd_id e103]
     rewrite [upd_id e104]
     refine W_seq (W_seq (W_region ?_))
     refine L_cons rfl (O_move (v := .int .i64 ((l : Nat) : Int)) rfl rfl ?_)
     refine L_cons rfl (O_move (v := .slice a27 H.length c28) rfl rfl ?_)
     refine L_cons rfl (O_len_slice (len := H.length) rfl un48 rfl ?_)
     refine L_cons rfl (O_bin (k := .i64) (k' := .i64) (a := ((l : Nat) : Int)) (b := ((H.length : Nat) : Int)) rfl rfl rfl b_lss ?_)
     refine L_cons rfl (O_move (v := .bool (decide (((l : Nat) : Int) < ((H.length : Nat) : Int)))) rfl rfl ?_)
     refine L_guard_tp (v := .int .i64 ((i : Nat) : Int)) rfl rfl rfl rfl (fun hg105 => O_move (v := .int .i64 ((i : Nat) : Int)) rfl rfl ⟨rfl, rfl⟩) ?_
     refine L_guard_tp (v := .int .i64 ((k : Nat) : Int)) rfl rfl rfl rfl (fun hg106 => O_move (v := .int .i64 ((k : Nat) : Int)) rfl rfl ⟨rfl, rfl⟩) ?_
     refine L_guard_tp (v := .bool (decide (((i : Nat) : Int) ≠ ((k : Nat) : Int)))) rfl rfl rfl rfl (fun hg107 => O_bin (k := .i64) (k' := .i64) (a := ((i : Nat) : Int)) (b := ((k : Nat) : Int)) (show ev _ _ = .int .i64 ((i : Nat) : Int) from if_pos hg107) (show ev _ _ = .int .i64 ((k : Nat) : Int) from if_pos hg107) rfl b_neq ⟨rfl, rfl⟩) ?_
     refine L_cons rfl (O_pick rfl (pick_and _ _) rfl ?_)
     refine L_nil (thenQ_n ?_)
     refine W_cond (t := ((decide (((l : Nat) : Int) < ((H.length : Nat) : Int))) && (decide (((i : Nat) : Int) ≠ ((k : Nat) : Int))))) rfl (fun hc108 => ?_) (fun hc108 => ?_)
     ·refine W_skip (thenQ_n (W_seq (W_block (W_seq ?_))))
      have hne : i ≠ k := (by have := of_decide_eq_true (Bool.and_eq_true _ _ ▸ hc108 : _ ∧ _).2; omega); have hll : l < H.length := (by have := of_decide_eq_true (Bool.and_eq_true _ _ ▸ hc108 : _ ∧ _).1; omega); have hv := h3o hne j l (by omega) hll; obtain ⟨yg, yb, yt, ya, yp, yy, hY⟩ := cap_split (H[l]'(by omega)); rw [hX, hY] at hv; simp only at hv; rcases hv with hv | hv | hv
      ·obtain ⟨b109, o110, ha111, hs112⟩ := hs95.elem 2 rfl l (by omega)
       rw [hY] at hs112
       refine W_par' mixed (show St _ _ _ [blk b1 (imgCells m) 26] _ from hs112) (fun i_ => match i_ with | _ => none) (fun i_ => match i_ with | _ => []) (fun i_ => match i_ with | _ => []) (fun i_ => match i_ with | 2 => [0, 1] | 3 => [2] | 4 => [3] | 7 => [5, 6] | 8 => [7] | 9 => [8] | 10 => [4, 9] | 11 => [10] | 12 => [11] | 13 => [11] | 14 => [11] | 15 => [11] | 16 => [11] | 17 => [11] | 18 => [11] | 19 => [11] | 20 => [11] | 21 => [11] | 22 => [11] | 23 => [11, 22] | 24 => [23] | 25 => [24] | 26 => [24] | 27 => [24] | 28 => [27] | 29 => [27] | 30 => [24] | 31 => [24, 30] | _ => []) [32, 0, 1, 2, 3, 4, 5, 6, 7, 8, 9, 10, 11, 12, 13, 14, 15, 16, 17, 18, 19, 20, 21, 22, 23, 24, 25, 26, 27, 28, 29, 30, 31, 33, 34, 35, 36, 37, 38, 39, 40, 41, 42, 43, 44, 45, 46, 47, 48, 49, 50, 51, 52, 53, 54, 55, 56, 57, 58, 59, 60, 61, 62, 63, 64] [31] (fun i_ v_ => match i_ with | 0 => v_ = .slice a20 G.length c21 | 1 => v_ = .int .i64 ((j : Nat) : Int) | 2 => v_ = .pointer (some ⟨b53, o54 + j * 6, none⟩) | 3 => v_ = .pointer (some ⟨b53, o54 + j * 6 + 1, none⟩) | 4 => v_ = .int .i64 xb | 5 => v_ = .slice a27 H.length c28 | 6 => v_ = .int .i64 ((l : Nat) : Int) | 7 => v_ = .pointer (some ⟨b109, o110 + l * 6, none⟩) | 8 => v_ = .pointer (some ⟨b109, o110 + l * 6 + 2, none⟩) | 9 => v_ = .int .i64 yt | 10 => v_ = .bool false | 11 => v_ = .bool false | 12 => v_ = undef | 13 => v_ = undef | 14 => v_ = undef | 15 => v_ = undef | 16 => v_ = undef | 17 => v_ = undef | 18 => v_ = undef | 19 => v_ = undef | 20 => v_ = undef | 21 => v_ = undef | 22 => v_ = undef | 23 => v_ = .bool false | 24 => v_ = .bool false | 25 => v_ = undef | 26 => v_ = undef | 27 => v_ = undef | 28 => v_ = undef | 29 => v_ = undef | 30 => v_ = undef | 31 => v_ = .bool false | _ => True) (by kernel_rfl) (by kernel_rfl) ⟨?_, ?_, ?_, ?_, ?_, ?_, ?_, ?_, ?_, ?_, ?_, ?_, ?_, ?_, ?_, ?_, ?_, ?_, ?_, ?_, ?_, ?_, ?_, ?_, ?_, ?_, ?_, ?_, ?_, ?_, ?_, ?_, trivial⟩ ?_
       ·intro f0_ w0_ X0_ hfr hus hrd hst
        have hb11 : f0_ 11 = .slice a20 G.length c21 := (hfr 11 rfl)
        refine og_none rfl (O_move (v := .slice a20 G.length c21) hb11 rfl ?_)
        exact ⟨.slice a20 G.length c21, rfl, rfl, hst⟩
       ·intro f1_ w1_ X1_ hfr hus hrd hst
        have hb14 : f1_ 14 = .int .i64 ((j : Nat) : Int) := (hfr 14 rfl)
        refine og_none rfl (O_move (v := .int .i64 ((j : Nat) : Int)) hb14 rfl ?_)
        exact ⟨.int .i64 ((j : Nat) : Int), rfl, rfl, hst⟩
       ·intro f2_ w2_ X2_ hfr hus hrd hst
        obtain ⟨hu0, hu1, -⟩ := hus
        have hu0 : f2_ 108 = .slice a20 G.length c21 := hu0
        have hu1 : f2_ 109 = .int .i64 ((j : Nat) : Int) := hu1
        refine og_none rfl (O_indexAddr_at hu0 ha55 hu1 un48 sz39 (by omega) (by omega) (o' := o54 + j * 6) (by omega) rfl ?_)
        exact ⟨.pointer (some ⟨b53, o54 + j * 6, none⟩), rfl, rfl, hst⟩
       ·intro f3_ w3_ X3_ hfr hus hrd hst
        obtain ⟨hu2, -⟩ := hus
        have hu2 : f3_ 110 = .pointer (some ⟨b53, o54 + j * 6, none⟩) := hu2
        refine og_none rfl (O_fieldAddr hu2 fd39_1 rfl (o' := o54 + j * 6 + 1) rfl rfl ?_)
        exact ⟨.pointer (some ⟨b53, o54 + j * 6 + 1, none⟩), rfl, rfl, hst⟩
       ·intro f4_ w4_ X4_ hfr hus hrd hst
        obtain ⟨hu3, -⟩ := hus
        have hu3 : f4_ 111 = .pointer (some ⟨b53, o54 + j * 6 + 1, none⟩) := hu3
        refine og_none rfl (O_load (v := .int .i64 xb) hu3 ag3 ((hst.getR 1 rfl).2 1 _ rfl) rfl ?_)
        exact ⟨.int .i64 xb, rfl, rfl, hst⟩
       ·intro f5_ w5_ X5_ hfr hus hrd hst
        have hb12 : f5_ 12 = .slice a27 H.length c28 := (hfr 12 rfl)
        refine og_none rfl (O_move (v := .slice a27 H.length c28) hb12 rfl ?_)
        exact ⟨.slice a27 H.length c28, rfl, rfl, hst⟩
       ·intro f6_ w6_ X6_ hfr hus hrd hst
        have hb15 : f6_ 15 = .int .i64 ((l : Nat) : Int) := (hfr 15 rfl)
        refine og_none rfl (O_move (v := .int .i64 ((l : Nat) : Int)) hb15 rfl ?_)
        exact ⟨.int .i64 ((l : Nat) : Int), rfl, rfl, hst⟩
       ·intro f7_ w7_ X7_ hfr hus hrd hst
        obtain ⟨hu5, hu6, -⟩ := hus
        have hu5 : f7_ 113 = .slice a27 H.length c28 := hu5
        have hu6 : f7_ 114 = .int .i64 ((l : Nat) : Int) := hu6
        refine og_none rfl (O_indexAddr_at hu5 ha111 hu6 un48 sz39 (by omega) (by omega) (o' := o110 + l * 6) (by omega) rfl ?_)
        exact ⟨.pointer (some ⟨b109, o110 + l * 6, none⟩), rfl, rfl, hst⟩
       ·intro f8_ w8_ X8_ hfr hus hrd hst
        obtain ⟨hu7, -⟩ := hus
        have hu7 : f8_ 115 = .pointer (some ⟨b109, o110 + l * 6, none⟩) := hu7
        refine og_none rfl (O_fieldAddr hu7 fd39_2 rfl (o' := o110 + l * 6 + 2) rfl rfl ?_)
        exact ⟨.pointer (some ⟨b109, o110 + l * 6 + 2, none⟩), rfl, rfl, hst⟩
       ·intro f9_ w9_ X9_ hfr hus hrd hst
        obtain ⟨hu8, -⟩ := hus
        have hu8 : f9_ 116 = .pointer (some ⟨b109, o110 + l * 6 + 2, none⟩) := hu8
        refine og_none rfl (O_load (v := .int .i64 yt) hu8 ag3 ((hst.getR 0 rfl).2 2 _ rfl) rfl ?_)
        exact ⟨.int .i64 yt, rfl, rfl, hst⟩
       ·intro f10_ w10_ X10_ hfr hus hrd hst
        obtain ⟨hu4, hu9, -⟩ := hus
        have hu4 : f10_ 112 = .int .i64 xb := hu4
        have hu9 : f10_ 117 = .int .i64 yt := hu9
        refine og_none rfl (O_bin (k := .i64) (k' := .i64) (a := xb) (b := yt) (v := .bool false) hu4 hu9 rfl (fun w => (b_lss w).trans (by rw [show decide (xb < yt) = false from by simp; omega])) ?_)
        exact ⟨.bool false, rfl, rfl, hst⟩
       ·intro f11_ w11_ X11_ hfr hus hrd hst
        obtain ⟨hu10, -⟩ := hus
        have hu10 : f11_ 118 = .bool false := hu10
        refine og_none rfl (O_move (v := .bool false) hu10 rfl ?_)
        exact ⟨.bool false, rfl, rfl, hst⟩
       ·intro f12_ w12_ X12_ hfr hus hrd hst
        obtain ⟨hu11, -⟩ := hus
        have hu11 : f12_ 119 = .bool false := hu11
        exact og_some rfl (c := false) hu11 (fun h => absurd h (by decide)) (fun _ => ⟨undef, rfl, rfl, hst⟩)
       ·intro f13_ w13_ X13_ hfr hus hrd hst
        obtain ⟨hu11, -⟩ := hus
        have hu11 : f13_ 119 = .bool false := hu11
        exact og_some rfl (c := false) hu11 (fun h => absurd h (by decide)) (fun _ => ⟨undef, rfl, rfl, hst⟩)
       ·intro f14_ w14_ X14_ hfr hus hrd hst
        obtain ⟨hu11, -⟩ := hus
        have hu11 : f14_ 119 = .bool false := hu11
        exact og_some rfl (c := false) hu11 (fun h => absurd h (by decide)) (fun _ => ⟨undef, rfl, rfl, hst⟩)
       ·intro f15_ w15_ X15_ hfr hus hrd hst
        obtain ⟨hu11, -⟩ := hus
        have hu11 : f15_ 119 = .bool false := hu11
        exact og_some rfl (c := false) hu11 (fun h => absurd h (by decide)) (fun _ => ⟨undef, rfl, rfl, hst⟩)
       ·intro f16_ w16_ X16_ hfr hus hrd hst
        obtain ⟨hu11, -⟩ := hus
        have hu11 : f16_ 119 = .bool false := hu11
        exact og_some rfl (c := false) hu11 (fun h => absurd h (by decide)) (fun _ => ⟨undef, rfl, rfl, hst⟩)
       ·intro f17_ w17_ X17_ hfr hus hrd hst
        obtain ⟨hu11, -⟩ := hus
        have hu11 : f17_ 119 = .bool false := hu11
        exact og_some rfl (c := false) hu11 (fun h => absurd h (by decide)) (fun _ => ⟨undef, rfl, rfl, hst⟩)
       ·intro f18_ w18_ X18_ hfr hus hrd hst
        obtain ⟨hu11, -⟩ := hus
        have hu11 : f18_ 119 = .bool false := hu11
        exact og_some rfl (c := false) hu11 (fun h => absurd h (by decide)) (fun _ => ⟨undef, rfl, rfl, hst⟩)
       ·intro f19_ w19_ X19_ hfr hus hrd hst
        obtain ⟨hu11, -⟩ := hus
        have hu11 : f19_ 119 = .bool false := hu11
        exact og_some rfl (c := false) hu11 (fun h => absurd h (by decide)) (fun _ => ⟨undef, rfl, rfl, hst⟩)
       ·intro f20_ w20_ X20_ hfr hus hrd hst
        obtain ⟨hu11, -⟩ := hus
        have hu11 : f20_ 119 = .bool false := hu11
        exact og_some rfl (c := false) hu11 (fun h => absurd h (by decide)) (fun _ => ⟨undef, rfl, rfl, hst⟩)
       ·intro f21_ w21_ X21_ hfr hus hrd hst
        obtain ⟨hu11, -⟩ := hus
        have hu11 : f21_ 119 = .bool false := hu11
        exact og_some rfl (c := false) hu11 (fun h => absurd h (by decide)) (fun _ => ⟨undef, rfl, rfl, hst⟩)
       ·intro f22_ w22_ X22_ hfr hus hrd hst
        obtain ⟨hu11, -⟩ := hus
        have hu11 : f22_ 119 = .bool false := hu11
        exact og_some rfl (c := false) hu11 (fun h => absurd h (by decide)) (fun _ => ⟨undef, rfl, rfl, hst⟩)
       ·intro f23_ w23_ X23_ hfr hus hrd hst
        obtain ⟨hu11, hu22, -⟩ := hus
        have hu11 : f23_ 119 = .bool false := hu11
        have hu22 : f23_ 130 = undef := hu22
        refine og_none rfl (O_pick (v := .bool false) hu11 rfl rfl ?_)
        exact ⟨.bool false, rfl, rfl, hst⟩
       ·intro f24_ w24_ X24_ hfr hus hrd hst
        obtain ⟨hu23, -⟩ := hus
        have hu23 : f24_ 131 = .bool false := hu23
        refine og_none rfl (O_move (v := .bool false) hu23 rfl ?_)
        exact ⟨.bool false, rfl, rfl, hst⟩
       ·intro f25_ w25_ X25_ hfr hus hrd hst
        obtain ⟨hu24, -⟩ := hus
        have hu24 : f25_ 132 = .bool false := hu24
        exact og_some rfl (c := false) hu24 (fun h => absurd h (by decide)) (fun _ => ⟨undef, rfl, rfl, hst⟩)
       ·intro f26_ w26_ X26_ hfr hus hrd hst
        obtain ⟨hu24, -⟩ := hus
        have hu24 : f26_ 132 = .bool false := hu24
        exact og_some rfl (c := false) hu24 (fun h => absurd h (by decide)) (fun _ => ⟨undef, rfl, rfl, hst⟩)
       ·intro f27_ w27_ X27_ hfr hus hrd hst
        obtain ⟨hu24, -⟩ := hus
        have hu24 : f27_ 132 = .bool false := hu24
        exact og_some rfl (c := false) hu24 (fun h => absurd h (by decide)) (fun _ => ⟨undef, rfl, rfl, hst⟩)
       ·intro f28_ w28_ X28_ hfr hus hrd hst
        obtain ⟨hu27, -⟩ := hus
        have hu27 : f28_ 135 = undef := hu27
        exact og_undef rfl hu27 ⟨undef, rfl, rfl, hst⟩
       ·intro f29_ w29_ X29_ hfr hus hrd hst
        obtain ⟨hu27, -⟩ := hus
        have hu27 : f29_ 135 = undef := hu27
        exact og_undef rfl hu27 ⟨undef, rfl, rfl, hst⟩
       ·intro f30_ w30_ X30_ hfr hus hrd hst
        obtain ⟨hu24, -⟩ := hus
        have hu24 : f30_ 132 = .bool false := hu24
        exact og_some rfl (c := false) hu24 (fun h => absurd h (by decide)) (fun _ => ⟨undef, rfl, rfl, hst⟩)
       ·intro f31_ w31_ X31_ hfr hus hrd hst
        obtain ⟨hu24, hu30, -⟩ := hus
        have hu24 : f31_ 132 = .bool false := hu24
        have hu30 : f31_ 138 = undef := hu30
        refine og_none rfl (O_pick (v := .bool false) hu24 rfl rfl ?_)
        exact ⟨.bool false, rfl, rfl, hst⟩
       intro f130 w131 hfr hus hs132
       obtain ⟨hu31, -⟩ := hus
       have hu31 : f130 139 = .bool false := hu31
       have hs132 : St _ _ _ [blk b1 (imgCells m) 26] _ := hs132
       have e133 : f130 7 = .bool true := (hfr 7 rfl)
       rewrite [upd_id e133]
       have e134 : f130 9 = .int .i64 ((i : Nat) : Int) := (hfr 9 rfl)
       rewrite [upd_id e134]
       have e135 : f130 10 = .int .i64 ((k : Nat) : Int) := (hfr 10 rfl)
       rewrite [upd_id e135]
       have e136 : f130 11 = .slice a20 G.length c21 := (hfr 11 rfl)
       rewrite [upd_id e136]
       have e137 : f130 12 = .slice a27 H.length c28 := (hfr 12 rfl)
       rewrite [upd_id e137]
       have e138 : f130 13 = .slice a34 Pp.length c35 := (hfr 13 rfl)
       rewrite [upd_id e138]
       have e139 : f130 14 = .int .i64 ((j : Nat) : Int) := (hfr 14 rfl)
       rewrite [upd_id e139]
       have e140 : f130 15 = .int .i64 ((l : Nat) : Int) := (hfr 15 rfl)
       rewrite [upd_id e140]
       rewrite [upd_id hu31]
       refine thenQ_n ?_
       refine W_cond_f rfl ?_
       refine W_skip (blockQ_n (thenQ_n (W_region ?_)))
       refine L_cons rfl (O_move (v := .int .i64 ((l : Nat) : Int)) rfl rfl ?_)
       refine L_cons rfl (O_bin (v := .int .i64 ((l + 1 : Nat) : Int)) rfl rfl rfl (b_add (wrap_i64e (by omega) (by omega))) ?_)
       refine L_cons rfl (O_assign (v := .int .i64 ((l + 1 : Nat) : Int)) rfl rfl ?_)
       refine L_nil (thenQ_n ?_)
       refine ⟨_, ?_, l + 1, rfl, by omega, rfl, rfl, rfl, rfl, rfl, rfl, rfl, rfl, hs132.popR⟩
       omega
      ·obtain ⟨b141, o142, ha143, hs144⟩ := hs95.elem 2 rfl l (by omega)
       rw [hY] at hs144
       refine W_par' mixed (show St _ _ _ [blk b1 (imgCells m) 26] _ from hs144) (fun i_ => match i_ with | _ => none) (fun i_ => match i_ with | _ => []) (fun i_ => match i_ with | _ => []) (fun i_ => match i_ with | 2 => [0, 1] | 3 => [2] | 4 => [3] | 7 => [5, 6] | 8 => [7] | 9 => [8] | 10 => [4, 9] | 11 => [10] | 12 => [11] | 13 => [11] | 14 => [11, 12, 13] | 15 => [11, 14] | 16 => [11, 15] | 17 => [11] | 18 => [11] | 19 => [11, 17, 18] | 20 => [11, 19] | 21 => [11, 20] | 22 => [11, 16, 21] | 23 => [11, 22] | 24 => [23] | 25 => [24] | 26 => [24] | 27 => [24] | 28 => [27] | 29 => [27] | 30 => [24] | 31 => [24, 30] | _ => []) [32, 0, 1, 2, 3, 4, 5, 6, 7, 8, 9, 10, 11, 12, 13, 14, 15, 16, 17, 18, 19, 20, 21, 22, 23, 24, 25, 26, 27, 28, 29, 30, 31, 33, 34, 35, 36, 37, 38, 39, 40, 41, 42, 43, 44, 45, 46, 47, 48, 49, 50, 51, 52, 53, 54, 55, 56, 57, 58, 59, 60, 61, 62, 63, 64] [31] (fun i_ v_ => match i_ with | 0 => v_ = .slice a20 G.length c21 | 1 => v_ = .int .i64 ((j : Nat) : Int) | 2 => v_ = .pointer (some ⟨b53, o54 + j * 6, none⟩) | 3 => v_ = .pointer (some ⟨b53, o54 + j * 6 + 1, none⟩) | 4 => v_ = .int .i64 xb | 5 => v_ = .slice a27 H.length c28 | 6 => v_ = .int .i64 ((l : Nat) : Int) | 7 => v_ = .pointer (some ⟨b141, o142 + l * 6, none⟩) | 8 => v_ = .pointer (some ⟨b141, o142 + l * 6 + 2, none⟩) | 9 => v_ = .int .i64 yt | 10 => v_ = .bool true | 11 => v_ = .bool true | 12 => v_ = .slice a27 H.length c28 | 13 => v_ = .int .i64 ((l : Nat) : Int) | 14 => v_ = .pointer (some ⟨b141, o142 + l * 6, none⟩) | 15 => v_ = .pointer (some ⟨b141, o142 + l * 6 + 1, none⟩) | 16 => v_ = .int .i64 yb | 17 => v_ = .slice a20 G.length c21 | 18 => v_ = .int .i64 ((j : Nat) : Int) | 19 => v_ = .pointer (some ⟨b53, o54 + j * 6, none⟩) | 20 => v_ = .pointer (some ⟨b53, o54 + j * 6 + 2, none⟩) | 21 => v_ = .int .i64 xt | 22 => v_ = .bool false | 23 => v_ = .bool false | 24 => v_ = .bool false | 25 => v_ = undef | 26 => v_ = undef | 27 => v_ = undef | 28 => v_ = undef | 29 => v_ = undef | 30 => v_ = undef | 31 => v_ = .bool false | _ => True) (by kernel_rfl) (by kernel_rfl) ⟨?_, ?_, ?_, ?_, ?_, ?_, ?_, ?_, ?_, ?_, ?_, ?_, ?_, ?_, ?_, ?_, ?_, ?_, ?_, ?_, ?_, ?_, ?_, ?_, ?_, ?_, ?_, ?_, ?_, ?_, ?_, ?_, trivial⟩ ?_
       ·intro f0_ w0_ X0_ hfr hus hrd hst
        have hb11 : f0_ 11 = .slice a20 G.length c21 := (hfr 11 rfl)
        refine og_none rfl (O_move (v := .slice a20 G.length c21) hb11 rfl ?_)
        exact ⟨.slice a20 G.length c21, rfl, rfl, hst⟩
       ·intro f1_ w1_ X1_ hfr hus hrd hst
        have hb14 : f1_ 14 = .int .i64 ((j : Nat) : Int) := (hfr 14 rfl)
        refine og_none rfl (O_move (v := .int .i64 ((j : Nat) : Int)) hb14 rfl ?_)
        exact ⟨.int .i64 ((j : Nat) : Int), rfl, rfl, hst⟩
       ·intro f2_ w2_ X2_ hfr hus hrd hst
        obtain ⟨hu0, hu1, -⟩ := hus
        have hu0 : f2_ 108 = .slice a20 G.length c21 := hu0
        have hu1 : f2_ 109 = .int .i64 ((j : Nat) : Int) := hu1
        refine og_none rfl (O_indexAddr_at hu0 ha55 hu1 un48 sz39 (by omega) (by omega) (o' := o54 + j * 6) (by omega) rfl ?_)
        exact ⟨.pointer (some ⟨b53, o54 + j * 6, none⟩), rfl, rfl, hst⟩
       ·intro f3_ w3_ X3_ hfr hus hrd hst
        obtain ⟨hu2, -⟩ := hus
        have hu2 : f3_ 110 = .pointer (some ⟨b53, o54 + j * 6, none⟩) := hu2
        refine og_none rfl (O_fieldAddr hu2 fd39_1 rfl (o' := o54 + j * 6 + 1) rfl rfl ?_)
        exact ⟨.pointer (some ⟨b53, o54 + j * 6 + 1, none⟩), rfl, rfl, hst⟩
       ·intro f4_ w4_ X4_ hfr hus hrd hst
        obtain ⟨hu3, -⟩ := hus
        have hu3 : f4_ 111 = .pointer (some ⟨b53, o54 + j * 6 + 1, none⟩) := hu3
        refine og_none rfl (O_load (v := .int .i64 xb) hu3 ag3 ((hst.getR 1 rfl).2 1 _ rfl) rfl ?_)
        exact ⟨.int .i64 xb, rfl, rfl, hst⟩
       ·intro f5_ w5_ X5_ hfr hus hrd hst
        have hb12 : f5_ 12 = .slice a27 H.length c28 := (hfr 12 rfl)
        refine og_none rfl (O_move (v := .slice a27 H.length c28) hb12 rfl ?_)
        exact ⟨.slice a27 H.length c28, rfl, rfl, hst⟩
       ·intro f6_ w6_ X6_ hfr hus hrd hst
        have hb15 : f6_ 15 = .int .i64 ((l : Nat) : Int) := (hfr 15 rfl)
        refine og_none rfl (O_move (v := .int .i64 ((l : Nat) : Int)) hb15 rfl ?_)
        exact ⟨.int .i64 ((l : Nat) : Int), rfl, rfl, hst⟩
       ·intro f7_ w7_ X7_ hfr hus hrd hst
        obtain ⟨hu5, hu6, -⟩ := hus
        have hu5 : f7_ 113 = .slice a27 H.length c28 := hu5
        have hu6 : f7_ 114 = .int .i64 ((l : Nat) : Int) := hu6
        refine og_none rfl (O_indexAddr_at hu5 ha143 hu6 un48 sz39 (by omega) (by omega) (o' := o142 + l * 6) (by omega) rfl ?_)
        exact ⟨.pointer (some ⟨b141, o142 + l * 6, none⟩), rfl, rfl, hst⟩
       ·intro f8_ w8_ X8_ hfr hus hrd hst
        obtain ⟨hu7, -⟩ := hus
        have hu7 : f8_ 115 = .pointer (some ⟨b141, o142 + l * 6, none⟩) := hu7
        refine og_none rfl (O_fieldAddr hu7 fd39_2 rfl (o' := o142 + l * 6 + 2) rfl rfl ?_)
        exact ⟨.pointer (some ⟨b141, o142 + l * 6 + 2, none⟩), rfl, rfl, hst⟩
       ·intro f9_ w9_ X9_ hfr hus hrd hst
        obtain ⟨hu8, -⟩ := hus
        have hu8 : f9_ 116 = .pointer (some ⟨b141, o142 + l * 6 + 2, none⟩) := hu8
        refine og_none rfl (O_load (v := .int .i64 yt) hu8 ag3 ((hst.getR 0 rfl).2 2 _ rfl) rfl ?_)
        exact ⟨.int .i64 yt, rfl, rfl, hst⟩
       ·intro f10_ w10_ X10_ hfr hus hrd hst
        obtain ⟨hu4, hu9, -⟩ := hus
        have hu4 : f10_ 112 = .int .i64 xb := hu4
        have hu9 : f10_ 117 = .int .i64 yt := hu9
        refine og_none rfl (O_bin (k := .i64) (k' := .i64) (a := xb) (b := yt) (v := .bool true) hu4 hu9 rfl (fun w => (b_lss w).trans (by rw [show decide (xb < yt) = true from by simp; omega])) ?_)
        exact ⟨.bool true, rfl, rfl, hst⟩
       ·intro f11_ w11_ X11_ hfr hus hrd hst
        obtain ⟨hu10, -⟩ := hus
        have hu10 : f11_ 118 = .bool true := hu10
        refine og_none rfl (O_move (v := .bool true) hu10 rfl ?_)
        exact ⟨.bool true, rfl, rfl, hst⟩
       ·intro f12_ w12_ X12_ hfr hus hrd hst
        obtain ⟨hu11, -⟩ := hus
        have hu11 : f12_ 119 = .bool true := hu11
        have hb12 : f12_ 12 = .slice a27 H.length c28 := (hfr 12 rfl)
        refine og_yes rfl hu11 (O_move (v := .slice a27 H.length c28) hb12 rfl ?_)
        exact ⟨.slice a27 H.length c28, rfl, rfl, hst⟩
       ·intro f13_ w13_ X13_ hfr hus hrd hst
        obtain ⟨hu11, -⟩ := hus
        have hu11 : f13_ 119 = .bool true := hu11
        have hb15 : f13_ 15 = .int .i64 ((l : Nat) : Int) := (hfr 15 rfl)
        refine og_yes rfl hu11 (O_move (v := .int .i64 ((l : Nat) : Int)) hb15 rfl ?_)
        exact ⟨.int .i64 ((l : Nat) : Int), rfl, rfl, hst⟩
       ·intro f14_ w14_ X14_ hfr hus hrd hst
        obtain ⟨hu11, hu12, hu13, -⟩ := hus
        have hu11 : f14_ 119 = .bool true := hu11
        have hu12 : f14_ 120 = .slice a27 H.length c28 := hu12
        have hu13 : f14_ 121 = .int .i64 ((l : Nat) : Int) := hu13
        refine og_yes rfl hu11 (O_indexAddr_at hu12 ha143 hu13 un48 sz39 (by omega) (by omega) (o' := o142 + l * 6) (by omega) rfl ?_)
        exact ⟨.pointer (some ⟨b141, o142 + l * 6, none⟩), rfl, rfl, hst⟩
       ·intro f15_ w15_ X15_ hfr hus hrd hst
        obtain ⟨hu11, hu14, -⟩ := hus
        have hu11 : f15_ 119 = .bool true := hu11
        have hu14 : f15_ 122 = .pointer (some ⟨b141, o142 + l * 6, none⟩) := hu14
        refine og_yes rfl hu11 (O_fieldAddr hu14 fd39_1 rfl (o' := o142 + l * 6 + 1) rfl rfl ?_)
        exact ⟨.pointer (some ⟨b141, o142 + l * 6 + 1, none⟩), rfl, rfl, hst⟩
       ·intro f16_ w16_ X16_ hfr hus hrd hst
        obtain ⟨hu11, hu15, -⟩ := hus
        have hu11 : f16_ 119 = .bool true := hu11
        have hu15 : f16_ 123 = .pointer (some ⟨b141, o142 + l * 6 + 1, none⟩) := hu15
        refine og_yes rfl hu11 (O_load (v := .int .i64 yb) hu15 ag3 ((hst.getR 0 rfl).2 1 _ rfl) rfl ?_)
        exact ⟨.int .i64 yb, rfl, rfl, hst⟩
       ·intro f17_ w17_ X17_ hfr hus hrd hst
        obtain ⟨hu11, -⟩ := hus
        have hu11 : f17_ 119 = .bool true := hu11
        have hb11 : f17_ 11 = .slice a20 G.length c21 := (hfr 11 rfl)
        refine og_yes rfl hu11 (O_move (v := .slice a20 G.length c21) hb11 rfl ?_)
        exact ⟨.slice a20 G.length c21, rfl, rfl, hst⟩
       ·intro f18_ w18_ X18_ hfr hus hrd hst
        obtain ⟨hu11, -⟩ := hus
        have hu11 : f18_ 119 = .bool true := hu11
        have hb14 : f18_ 14 = .int .i64 ((j : Nat) : Int) := (hfr 14 rfl)
        refine og_yes rfl hu11 (O_move (v := .int .i64 ((j : Nat) : Int)) hb14 rfl ?_)
        exact ⟨.int .i64 ((j : Nat) : Int), rfl, rfl, hst⟩
       ·intro f19_ w19_ X19_ hfr hus hrd hst
        obtain ⟨hu11, hu17, hu18, -⟩ := hus
        have hu11 : f19_ 119 = .bool true := hu11
        have hu17 : f19_ 125 = .slice a20 G.length c21 := hu17
        have hu18 : f19_ 126 = .int .i64 ((j : Nat) : Int) := hu18
        refine og_yes rfl hu11 (O_indexAddr_at hu17 ha55 hu18 un48 sz39 (by omega) (by omega) (o' := o54 + j * 6) (by omega) rfl ?_)
        exact ⟨.pointer (some ⟨b53, o54 + j * 6, none⟩), rfl, rfl, hst⟩
       ·intro f20_ w20_ X20_ hfr hus hrd hst
        obtain ⟨hu11, hu19, -⟩ := hus
        have hu11 : f20_ 119 = .bool true := hu11
        have hu19 : f20_ 127 = .pointer (some ⟨b53, o54 + j * 6, none⟩) := hu19
        refine og_yes rfl hu11 (O_fieldAddr hu19 fd39_2 rfl (o' := o54 + j * 6 + 2) rfl rfl ?_)
        exact ⟨.pointer (some ⟨b53, o54 + j * 6 + 2, none⟩), rfl, rfl, hst⟩
       ·intro f21_ w21_ X21_ hfr hus hrd hst
        obtain ⟨hu11, hu20, -⟩ := hus
        have hu11 : f21_ 119 = .bool true := hu11
        have hu20 : f21_ 128 = .pointer (some ⟨b53, o54 + j * 6 + 2, none⟩) := hu20
        refine og_yes rfl hu11 (O_load (v := .int .i64 xt) hu20 ag3 ((hst.getR 1 rfl).2 2 _ rfl) rfl ?_)
        exact ⟨.int .i64 xt, rfl, rfl, hst⟩
       ·intro f22_ w22_ X22_ hfr hus hrd hst
        obtain ⟨hu11, hu16, hu21, -⟩ := hus
        have hu11 : f22_ 119 = .bool true := hu11
        have hu16 : f22_ 124 = .int .i64 yb := hu16
        have hu21 : f22_ 129 = .int .i64 xt := hu21
        refine og_yes rfl hu11 (O_bin (k := .i64) (k' := .i64) (a := yb) (b := xt) (v := .bool false) hu16 hu21 rfl (fun w => (b_lss w).trans (by rw [show decide (yb < xt) = false from by simp; omega])) ?_)
        exact ⟨.bool false, rfl, rfl, hst⟩
       ·intro f23_ w23_ X23_ hfr hus hrd hst
        obtain ⟨hu11, hu22, -⟩ := hus
        have hu11 : f23_ 119 = .bool true := hu11
        have hu22 : f23_ 130 = .bool false := hu22
        refine og_none rfl (O_pick (v := .bool false) hu11 (Eq.trans (if_pos rfl) hu22) rfl ?_)
        exact ⟨.bool false, rfl, rfl, hst⟩
       ·intro f24_ w24_ X24_ hfr hus hrd hst
        obtain ⟨hu23, -⟩ := hus
        have hu23 : f24_ 131 = .bool false := hu23
        refine og_none rfl (O_move (v := .bool false) hu23 rfl ?_)
        exact ⟨.bool false, rfl, rfl, hst⟩
       ·intro f25_ w25_ X25_ hfr hus hrd hst
        obtain ⟨hu24, -⟩ := hus
        have hu24 : f25_ 132 = .bool false := hu24
        exact og_some rfl (c := false) hu24 (fun h => absurd h (by decide)) (fun _ => ⟨undef, rfl, rfl, hst⟩)
       ·intro f26_ w26_ X26_ hfr hus hrd hst
        obtain ⟨hu24, -⟩ := hus
        have hu24 : f26_ 132 = .bool false := hu24
        exact og_some rfl (c := false) hu24 (fun h => absurd h (by decide)) (fun _ => ⟨undef, rfl, rfl, hst⟩)
       ·intro f27_ w27_ X27_ hfr hus hrd hst
        obtain ⟨hu24, -⟩ := hus
        have hu24 : f27_ 132 = .bool false := hu24
        exact og_some rfl (c := false) hu24 (fun h => absurd h (by decide)) (fun _ => ⟨undef, rfl, rfl, hst⟩)
       ·intro f28_ w28_ X28_ hfr hus hrd hst
        obtain ⟨hu27, -⟩ := hus
        have hu27 : f28_ 135 = undef := hu27
        exact og_undef rfl hu27 ⟨undef, rfl, rfl, hst⟩
       ·intro f29_ w29_ X29_ hfr hus hrd hst
        obtain ⟨hu27, -⟩ := hus
        have hu27 : f29_ 135 = undef := hu27
        exact og_undef rfl hu27 ⟨undef, rfl, rfl, hst⟩
       ·intro f30_ w30_ X30_ hfr hus hrd hst
        obtain ⟨hu24, -⟩ := hus
        have hu24 : f30_ 132 = .bool false := hu24
        exact og_some rfl (c := false) hu24 (fun h => absurd h (by decide)) (fun _ => ⟨undef, rfl, rfl, hst⟩)
       ·intro f31_ w31_ X31_ hfr hus hrd hst
        obtain ⟨hu24, hu30, -⟩ := hus
        have hu24 : f31_ 132 = .bool false := hu24
        have hu30 : f31_ 138 = undef := hu30
        refine og_none rfl (O_pick (v := .bool false) hu24 rfl rfl ?_)
        exact ⟨.bool false, rfl, rfl, hst⟩
       intro f162 w163 hfr hus hs164
       obtain ⟨hu31, -⟩ := hus
       have hu31 : f162 139 = .bool false := hu31
       have hs164 : St _ _ _ [blk b1 (imgCells m) 26] _ := hs164
       have e165 : f162 7 = .bool true := (hfr 7 rfl)
       rewrite [upd_id e165]
       have e166 : f162 9 = .int .i64 ((i : Nat) : Int) := (hfr 9 rfl)
       rewrite [upd_id e166]
       have e167 : f162 10 = .int .i64 ((k : Nat) : Int) := (hfr 10 rfl)
       rewrite [upd_id e167]
       have e168 : f162 11 = .slice a20 G.length c21 := (hfr 11 rfl)
       rewrite [upd_id e168]
       have e169 : f162 12 = .slice a27 H.length c28 := (hfr 12 rfl)
       rewrite [upd_id e169]
       have e170 : f162 13 = .slice a34 Pp.length c35 := (hfr 13 rfl)
       rewrite [upd_id e170]
       have e171 : f162 14 = .int .i64 ((j : Nat) : Int) := (hfr 14 rfl)
       rewrite [upd_id e171]
       have e172 : f162 15 = .int .i64 ((l : Nat) : Int) := (hfr 15 rfl)
       rewrite [upd_id e172]
       rewrite [upd_id hu31]
       refine thenQ_n ?_
       refine W_cond_f rfl ?_
       refine W_skip (blockQ_n (thenQ_n (W_region ?_)))
       refine L_cons rfl (O_move (v := .int .i64 ((l : Nat) : Int)) rfl rfl ?_)
       refine L_cons rfl (O_bin (v := .int .i64 ((l + 1 : Nat) : Int)) rfl rfl rfl (b_add (wrap_i64e (by omega) (by omega))) ?_)
       refine L_cons rfl (O_assign (v := .int .i64 ((l + 1 : Nat) : Int)) rfl rfl ?_)
       refine L_nil (thenQ_n ?_)
       refine ⟨_, ?_, l + 1, rfl, by omega, rfl, rfl, rfl, rfl, rfl, rfl, rfl, rfl, hs164.popR⟩
       omega
      ·obtain ⟨b173, o174, ha175, hs176⟩ := hs95.elem 2 rfl l (by omega)
       rw [hY] at hs176
       refine W_par' mixed (show St _ _ _ [blk b1 (imgCells m) 26] _ from hs176) (fun i_ => match i_ with | _ => none) (fun i_ => match i_ with | _ => []) (fun i_ => match i_ with | _ => []) (fun i_ => match i_ with | 2 => [0, 1] | 3 => [2] | 4 => [3] | 7 => [5, 6] | 8 => [7] | 9 => [8] | 10 => [4, 9] | 11 => [10] | 12 => [11] | 13 => [11] | 14 => [11, 12, 13] | 15 => [11, 14] | 16 => [11, 15] | 17 => [11] | 18 => [11] | 19 => [11, 17, 18] | 20 => [11, 19] | 21 => [11, 20] | 22 => [11, 16, 21] | 23 => [11, 22] | 24 => [23] | 25 => [24] | 26 => [24, 25] | 27 => [24, 26] | 28 => [27] | 29 => [27, 28] | 30 => [24, 27, 29] | 31 => [24, 30] | _ => []) [32, 0, 1, 2, 3, 4, 5, 6, 7, 8, 9, 10, 11, 12, 13, 14, 15, 16, 17, 18, 19, 20, 21, 22, 23, 24, 25, 26, 27, 28, 29, 30, 31, 33, 34, 35, 36, 37, 38, 39, 40, 41, 42, 43, 44, 45, 46, 47, 48, 49, 50, 51, 52, 53, 54, 55, 56, 57, 58, 59, 60, 61, 62, 63, 64] [31] (fun i_ v_ => match i_ with | 0 => v_ = .slice a20 G.length c21 | 1 => v_ = .int .i64 ((j : Nat) : Int) | 2 => v_ = .pointer (some ⟨b53, o54 + j * 6, none⟩) | 3 => v_ = .pointer (some ⟨b53, o54 + j * 6 + 1, none⟩) | 4 => v_ = .int .i64 xb | 5 => v_ = .slice a27 H.length c28 | 6 => v_ = .int .i64 ((l : Nat) : Int) | 7 => v_ = .pointer (some ⟨b173, o174 + l * 6, none⟩) | 8 => v_ = .pointer (some ⟨b173, o174 + l * 6 + 2, none⟩) | 9 => v_ = .int .i64 yt | 10 => v_ = .bool true | 11 => v_ = .bool true | 12 => v_ = .slice a27 H.length c28 | 13 => v_ = .int .i64 ((l : Nat) : Int) | 14 => v_ = .pointer (some ⟨b173, o174 + l * 6, none⟩) | 15 => v_ = .pointer (some ⟨b173, o174 + l * 6 + 1, none⟩) | 16 => v_ = .int .i64 yb | 17 => v_ = .slice a20 G.length c21 | 18 => v_ = .int .i64 ((j : Nat) : Int) | 19 => v_ = .pointer (some ⟨b53, o54 + j * 6, none⟩) | 20 => v_ = .pointer (some ⟨b53, o54 + j * 6 + 2, none⟩) | 21 => v_ = .int .i64 xt | 22 => v_ = .bool true | 23 => v_ = .bool true | 24 => v_ = .bool true | 25 => v_ = .int .i64 ((j : Nat) : Int) | 26 => v_ = .bool false | 27 => v_ = .bool false | 28 => v_ = .int .i64 ((l : Nat) : Int) | 29 => v_ = .bool false | 30 => v_ = .bool false | 31 => v_ = .bool false | _ => True) (by kernel_rfl) (by kernel_rfl) ⟨?_, ?_, ?_, ?_, ?_, ?_, ?_, ?_, ?_, ?_, ?_, ?_, ?_, ?_, ?_, ?_, ?_, ?_, ?_, ?_, ?_, ?_, ?_, ?_, ?_, ?_, ?_, ?_, ?_, ?_, ?_, ?_, trivial⟩ ?_
       ·intro f0_ w0_ X0_ hfr hus hrd hst
        have hb11 : f0_ 11 = .slice a20 G.length c21 := (hfr 11 rfl)
        refine og_none rfl (O_move (v := .slice a20 G.length c21) hb11 rfl ?_)
        exact ⟨.slice a20 G.length c21, rfl, rfl, hst⟩
       ·intro f1_ w1_ X1_ hfr hus hrd hst
        have hb14 : f1_ 14 = .int .i64 ((j : Nat) : Int) := (hfr 14 rfl)
        refine og_none rfl (O_move (v := .int .i64 ((j : Nat) : Int)) hb14 rfl ?_)
        exact ⟨.int .i64 ((j : Nat) : Int), rfl, rfl, hst⟩
       ·intro f2_ w2_ X2_ hfr hus hrd hst
        obtain ⟨hu0, hu1, -⟩ := hus
        have hu0 : f2_ 108 = .slice a20 G.length c21 := hu0
        have hu1 : f2_ 109 = .int .i64 ((j : Nat) : Int) := hu1
        refine og_none rfl (O_indexAddr_at hu0 ha55 hu1 un48 sz39 (by omega) (by omega) (o' := o54 + j * 6) (by omega) rfl ?_)
        exact ⟨.pointer (some ⟨b53, o54 + j * 6, none⟩), rfl, rfl, hst⟩
       ·intro f3_ w3_ X3_ hfr hus hrd hst
        obtain ⟨hu2, -⟩ := hus
        have hu2 : f3_ 110 = .pointer (some ⟨b53, o54 + j * 6, none⟩) := hu2
        refine og_none rfl (O_fieldAddr hu2 fd39_1 rfl (o' := o54 + j * 6 + 1) rfl rfl ?_)
        exact ⟨.pointer (some ⟨b53, o54 + j * 6 + 1, none⟩), rfl, rfl, hst⟩
       ·intro f4_ w4_ X4_ hfr hus hrd hst
        obtain ⟨hu3, -⟩ := hus
        have hu3 : f4_ 111 = .pointer (some ⟨b53, o54 + j * 6 + 1, none⟩) := hu3
        refine og_none rfl (O_load (v := .int .i64 xb) hu3 ag3 ((hst.getR 1 rfl).2 1 _ rfl) rfl ?_)
        exact ⟨.int .i64 xb, rfl, rfl, hst⟩
       ·intro f5_ w5_ X5_ hfr hus hrd hst
        have hb12 : f5_ 12 = .slice a27 H.length c28 := (hfr 12 rfl)
        refine og_none rfl (O_move (v := .slice a27 H.length c28) hb12 rfl ?_)
        exact ⟨.slice a27 H.length c28, rfl, rfl, hst⟩
       ·intro f6_ w6_ X6_ hfr hus hrd hst
        have hb15 : f6_ 15 = .int .i64 ((l : Nat) : Int) := (hfr 15 rfl)
        refine og_none rfl (O_move (v := .int .i64 ((l : Nat) : Int)) hb15 rfl ?_)
        exact ⟨.int .i64 ((l : Nat) : Int), rfl, rfl, hst⟩
       ·intro f7_ w7_ X7_ hfr hus hrd hst
        obtain ⟨hu5, hu6, -⟩ := hus
        have hu5 : f7_ 113 = .slice a27 H.length c28 := hu5
        have hu6 : f7_ 114 = .int .i64 ((l : Nat) : Int) := hu6
        refine og_none rfl (O_indexAddr_at hu5 ha175 hu6 un48 sz39 (by omega) (by omega) (o' := o174 + l * 6) (by omega) rfl ?_)
        exact ⟨.pointer (some ⟨b173, o174 + l * 6, none⟩), rfl, rfl, hst⟩
       ·intro f8_ w8_ X8_ hfr hus hrd hst
        obtain ⟨hu7, -⟩ := hus
        have hu7 : f8_ 115 = .pointer (some ⟨b173, o174 + l * 6, none⟩) := hu7
        refine og_none rfl (O_fieldAddr hu7 fd39_2 rfl (o' := o174 + l * 6 + 2) rfl rfl ?_)
        exact ⟨.pointer (some ⟨b173, o174 + l * 6 + 2, none⟩), rfl, rfl, hst⟩
       ·intro f9_ w9_ X9_ hfr hus hrd hst
        obtain ⟨hu8, -⟩ := hus
        have hu8 : f9_ 116 = .pointer (some ⟨b173, o174 + l * 6 + 2, none⟩) := hu8
        refine og_none rfl (O_load (v := .int .i64 yt) hu8 ag3 ((hst.getR 0 rfl).2 2 _ rfl) rfl ?_)
        exact ⟨.int .i64 yt, rfl, rfl, hst⟩
       ·intro f10_ w10_ X10_ hfr hus hrd hst
        obtain ⟨hu4, hu9, -⟩ := hus
        have hu4 : f10_ 112 = .int .i64 xb := hu4
        have hu9 : f10_ 117 = .int .i64 yt := hu9
        refine og_none rfl (O_bin (k := .i64) (k' := .i64) (a := xb) (b := yt) (v := .bool true) hu4 hu9 rfl (fun w => (b_lss w).trans (by rw [show decide (xb < yt) = true from by simp; omega])) ?_)
        exact ⟨.bool true, rfl, rfl, hst⟩
       ·intro f11_ w11_ X11_ hfr hus hrd hst
        obtain ⟨hu10, -⟩ := hus
        have hu10 : f11_ 118 = .bool true := hu10
        refine og_none rfl (O_move (v := .bool true) hu10 rfl ?_)
        exact ⟨.bool true, rfl, rfl, hst⟩
       ·intro f12_ w12_ X12_ hfr hus hrd hst
        obtain ⟨hu11, -⟩ := hus
        have hu11 : f12_ 119 = .bool true := hu11
        have hb12 : f12_ 12 = .slice a27 H.length c28 := (hfr 12 rfl)
        refine og_yes rfl hu11 (O_move (v := .slice a27 H.length c28) hb12 rfl ?_)
        exact ⟨.slice a27 H.length c28, rfl, rfl, hst⟩
       ·intro f13_ w13_ X13_ hfr hus hrd hst
        obtain ⟨hu11, -⟩ := hus
        have hu11 : f13_ 119 = .bool true := hu11
        have hb15 : f13_ 15 = .int .i64 ((l : Nat) : Int) := (hfr 15 rfl)
        refine og_yes rfl hu11 (O_move (v := .int .i64 ((l : Nat) : Int)) hb15 rfl ?_)
        exact ⟨.int .i64 ((l : Nat) : Int), rfl, rfl, hst⟩
       ·intro f14_ w14_ X14_ hfr hus hrd hst
        obtain ⟨hu11, hu12, hu13, -⟩ := hus
        have hu11 : f14_ 119 = .bool true := hu11
        have hu12 : f14_ 120 = .slice a27 H.length c28 := hu12
        have hu13 : f14_ 121 = .int .i64 ((l : Nat) : Int) := hu13
        refine og_yes rfl hu11 (O_indexAddr_at hu12 ha175 hu13 un48 sz39 (by omega) (by omega) (o' := o174 + l * 6) (by omega) rfl ?_)
        exact ⟨.pointer (some ⟨b173, o174 + l * 6, none⟩), rfl, rfl, hst⟩
       ·intro f15_ w15_ X15_ hfr hus hrd hst
        obtain ⟨hu11, hu14, -⟩ := hus
        have hu11 : f15_ 119 = .bool true := hu11
        have hu14 : f15_ 122 = .pointer (some ⟨b173, o174 + l * 6, none⟩) := hu14
        refine og_yes rfl hu11 (O_fieldAddr hu14 fd39_1 rfl (o' := o174 + l * 6 + 1) rfl rfl ?_)
        exact ⟨.pointer (some ⟨b173, o174 + l * 6 + 1, none⟩), rfl, rfl, hst⟩
       ·intro f16_ w16_ X16_ hfr hus hrd hst
        obtain ⟨hu11, hu15, -⟩ := hus
        have hu11 : f16_ 119 = .bool true := hu11
        have hu15 : f16_ 123 = .pointer (some ⟨b173, o174 + l * 6 + 1, none⟩) := hu15
        refine og_yes rfl hu11 (O_load (v := .int .i64 yb) hu15 ag3 ((hst.getR 0 rfl).2 1 _ rfl) rfl ?_)
        exact ⟨.int .i64 yb, rfl, rfl, hst⟩
       ·intro f17_ w17_ X17_ hfr hus hrd hst
        obtain ⟨hu11, -⟩ := hus
        have hu11 : f17_ 119 = .bool true := hu11
        have hb11 : f17_ 11 = .slice a20 G.length c21 := (hfr 11 rfl)
        refine og_yes rfl hu11 (O_move (v := .slice a20 G.length c21) hb11 rfl ?_)
        exact ⟨.slice a20 G.length c21, rfl, rfl, hst⟩
       ·intro f18_ w18_ X18_ hfr hus hrd hst
        obtain ⟨hu11, -⟩ := hus
        have hu11 : f18_ 119 = .bool true := hu11
        have hb14 : f18_ 14 = .int .i64 ((j : Nat) : Int) := (hfr 14 rfl)
        refine og_yes rfl hu11 (O_move (v := .int .i64 ((j : Nat) : Int)) hb14 rfl ?_)
        exact ⟨.int .i64 ((j : Nat) : Int), rfl, rfl, hst⟩
       ·intro f19_ w19_ X19_ hfr hus hrd hst
        obtain ⟨hu11, hu17, hu18, -⟩ := hus
        have hu11 : f19_ 119 = .bool true := hu11
        have hu17 : f19_ 125 = .slice a20 G.length c21 := hu17
        have hu18 : f19_ 126 = .int .i64 ((j : Nat) : Int) := hu18
        refine og_yes rfl hu11 (O_indexAddr_at hu17 ha55 hu18 un48 sz39 (by omega) (by omega) (o' := o54 + j * 6) (by omega) rfl ?_)
        exact ⟨.pointer (some ⟨b53, o54 + j * 6, none⟩), rfl, rfl, hst⟩
       ·intro f20_ w20_ X20_ hfr hus hrd hst
        obtain ⟨hu11, hu19, -⟩ := hus
        have hu11 : f20_ 119 = .bool true := hu11
        have hu19 : f20_ 127 = .pointer (some ⟨b53, o54 + j * 6, none⟩) := hu19
        refine og_yes rfl hu11 (O_fieldAddr hu19 fd39_2 rfl (o' := o54 + j * 6 + 2) rfl rfl ?_)
        exact ⟨.pointer (some ⟨b53, o54 + j * 6 + 2, none⟩), rfl, rfl, hst⟩
       ·intro f21_ w21_ X21_ hfr hus hrd hst
        obtain ⟨hu11, hu20, -⟩ := hus
        have hu11 : f21_ 119 = .bool true := hu11
        have hu20 : f21_ 128 = .pointer (some ⟨b53, o54 + j * 6 + 2, none⟩) := hu20
        refine og_yes rfl hu11 (O_load (v := .int .i64 xt) hu20 ag3 ((hst.getR 1 rfl).2 2 _ rfl) rfl ?_)
        exact ⟨.int .i64 xt, rfl, rfl, hst⟩
       ·intro f22_ w22_ X22_ hfr hus hrd hst
        obtain ⟨hu11, hu16, hu21, -⟩ := hus
        have hu11 : f22_ 119 = .bool true := hu11
        have hu16 : f22_ 124 = .int .i64 yb := hu16
        have hu21 : f22_ 129 = .int .i64 xt := hu21
        refine og_yes rfl hu11 (O_bin (k := .i64) (k' := .i64) (a := yb) (b := xt) (v := .bool true) hu16 hu21 rfl (fun w => (b_lss w).trans (by rw [show decide (yb < xt) = true from by simp; omega])) ?_)
        exact ⟨.bool true, rfl, rfl, hst⟩
       ·intro f23_ w23_ X23_ hfr hus hrd hst
        obtain ⟨hu11, hu22, -⟩ := hus
        have hu11 : f23_ 119 = .bool true := hu11
        have hu22 : f23_ 130 = .bool true := hu22
        refine og_none rfl (O_pick (v := .bool true) hu11 (Eq.trans (if_pos rfl) hu22) rfl ?_)
        exact ⟨.bool true, rfl, rfl, hst⟩
       ·intro f24_ w24_ X24_ hfr hus hrd hst
        obtain ⟨hu23, -⟩ := hus
        have hu23 : f24_ 131 = .bool true := hu23
        refine og_none rfl (O_move (v := .bool true) hu23 rfl ?_)
        exact ⟨.bool true, rfl, rfl, hst⟩
       ·intro f25_ w25_ X25_ hfr hus hrd hst
        obtain ⟨hu24, -⟩ := hus
        have hu24 : f25_ 132 = .bool true := hu24
        have hb14 : f25_ 14 = .int .i64 ((j : Nat) : Int) := (hfr 14 rfl)
        refine og_yes rfl hu24 (O_move (v := .int .i64 ((j : Nat) : Int)) hb14 rfl ?_)
        exact ⟨.int .i64 ((j : Nat) : Int), rfl, rfl, hst⟩
       ·intro f26_ w26_ X26_ hfr hus hrd hst
        obtain ⟨hu24, hu25, -⟩ := hus
        have hu24 : f26_ 132 = .bool true := hu24
        have hu25 : f26_ 133 = .int .i64 ((j : Nat) : Int) := hu25
        refine og_yes rfl hu24 (O_bin (k := .i64) (k' := .i64) (a := ((j : Nat) : Int)) (b := 3) (v := .bool false) hu25 rfl rfl (fun w => (b_lss w).trans (by rw [show decide (((j : Nat) : Int) < 3) = false from by simp; omega])) ?_)
        exact ⟨.bool false, rfl, rfl, hst⟩
       ·intro f27_ w27_ X27_ hfr hus hrd hst
        obtain ⟨hu24, hu26, -⟩ := hus
        have hu24 : f27_ 132 = .bool true := hu24
        have hu26 : f27_ 134 = .bool false := hu26
        refine og_yes rfl hu24 (O_move (v := .bool false) hu26 rfl ?_)
        exact ⟨.bool false, rfl, rfl, hst⟩
       ·intro f28_ w28_ X28_ hfr hus hrd hst
        obtain ⟨hu27, -⟩ := hus
        have hu27 : f28_ 135 = .bool false := hu27
        have hb15 : f28_ 15 = .int .i64 ((l : Nat) : Int) := (hfr 15 rfl)
        refine og_yes rfl hu27 (O_move (v := .int .i64 ((l : Nat) : Int)) hb15 rfl ?_)
        exact ⟨.int .i64 ((l : Nat) : Int), rfl, rfl, hst⟩
       ·intro f29_ w29_ X29_ hfr hus hrd hst
        obtain ⟨hu27, hu28, -⟩ := hus
        have hu27 : f29_ 135 = .bool false := hu27
        have hu28 : f29_ 136 = .int .i64 ((l : Nat) : Int) := hu28
        refine og_yes rfl hu27 (O_bin (k := .i64) (k' := .i64) (a := ((l : Nat) : Int)) (b := 3) (v := .bool false) hu28 rfl rfl (fun w => (b_lss w).trans (by rw [show decide (((l : Nat) : Int) < 3) = false from by simp; omega])) ?_)
        exact ⟨.bool false, rfl, rfl, hst⟩
       ·intro f30_ w30_ X30_ hfr hus hrd hst
        obtain ⟨hu24, hu27, hu29, -⟩ := hus
        have hu24 : f30_ 132 = .bool true := hu24
        have hu27 : f30_ 135 = .bool false := hu27
        have hu29 : f30_ 137 = .bool false := hu29
        refine og_yes rfl hu24 (O_pick (v := .bool false) hu27 (Eq.trans (if_neg (by decide)) hu29) rfl ?_)
        exact ⟨.bool false, rfl, rfl, hst⟩
       ·intro f31_ w31_ X31_ hfr hus hrd hst
        obtain ⟨hu24, hu30, -⟩ := hus
        have hu24 : f31_ 132 = .bool true := hu24
        have hu30 : f31_ 138 = .bool false := hu30
        refine og_none rfl (O_pick (v := .bool false) hu24 (Eq.trans (if_pos rfl) hu30) rfl ?_)
        exact ⟨.bool false, rfl, rfl, hst⟩
       intro f194 w195 hfr hus hs196
       obtain ⟨hu31, -⟩ := hus
       have hu31 : f194 139 = .bool false := hu31
       have hs196 : St _ _ _ [blk b1 (imgCells m) 26] _ := hs196
       have e197 : f194 7 = .bool true := (hfr 7 rfl)
       rewrite [upd_id e197]
       have e198 : f194 9 = .int .i64 ((i : Nat) : Int) := (hfr 9 rfl)
       rewrite [upd_id e198]
       have e199 : f194 10 = .int .i64 ((k : Nat) : Int) := (hfr 10 rfl)
       rewrite [upd_id e199]
       have e200 : f194 11 = .slice a20 G.length c21 := (hfr 11 rfl)
       rewrite [upd_id e200]
       have e201 : f194 12 = .slice a27 H.length c28 := (hfr 12 rfl)
       rewrite [upd_id e201]
       have e202 : f194 13 = .slice a34 Pp.length c35 := (hfr 13 rfl)
       rewrite [upd_id e202]
       have e203 : f194 14 = .int .i64 ((j : Nat) : Int) := (hfr 14 rfl)
       rewrite [upd_id e203]
       have e204 : f194 15 = .int .i64 ((l : Nat) : Int) := (hfr 15 rfl)
       rewrite [upd_id e204]
       rewrite [upd_id hu31]
       refine thenQ_n ?_
       refine W_cond_f rfl ?_
       refine W_skip (blockQ_n (thenQ_n (W_region ?_)))
       refine L_cons rfl (O_move (v := .int .i64 ((l : Nat) : Int)) rfl rfl ?_)
       refine L_cons rfl (O_bin (v := .int .i64 ((l + 1 : Nat) : Int)) rfl rfl rfl (b_add (wrap_i64e (by omega) (by omega))) ?_)
       refine L_cons rfl (O_assign (v := .int .i64 ((l + 1 : Nat) : Int)) rfl rfl ?_)
       refine L_nil (thenQ_n ?_)
       refine ⟨_, ?_, l + 1, rfl, by omega, rfl, rfl, rfl, rfl, rfl, rfl, rfl, rfl, hs196.popR⟩
       omega
     ·refine W_exit (thenQ_e (thenQ_e (blockQ_x (blockQ_n (thenQ_n (W_region ?_))))))
      refine L_cons rfl (O_move (v := .int .i64 ((j : Nat) : Int)) rfl rfl ?_)
      refine L_cons rfl (O_bin (v := .int .i64 ((j + 1 : Nat) : Int)) rfl rfl rfl (b_add (wrap_i64e (by omega) (by omega))) ?_)
      refine L_cons rfl (O_assign (v := .int .i64 ((j + 1 : Nat) : Int)) rfl rfl ?_)
      refine L_nil (thenQ_n ?_)
      refine ⟨_, ?_, j + 1, rfl, by omega, rfl, rfl, rfl, rfl, rfl, rfl, rfl, hs95.popR⟩
      omega
   ·refine W_exit (thenQ_e (thenQ_e (blockQ_x (thenQ_n (W_seq (W_seq (W_region ?_)))))))
    refine L_cons rfl (O_assign (v := .int .i64 0) rfl rfl ?_)
    refine L_nil (thenQ_n (W_block ?_))
    refine W_loopm (fun m_ f_ w_ => ∃ q : Nat, m_ = Pp.length - q ∧ (q ≤ Pp.length) ∧ f_ 7 = .bool true ∧ f_ 12 = .slice a27 H.length c28 ∧ f_ 13 = .slice a34 Pp.length c35 ∧ f_ 16 = .int .i64 ((q : Nat) : Int) ∧ St w (fun _ => False) w_ [blk b1 (imgCells m) 26] [arrI encPair 12 a34 Pp, arrI encCap 6 a27 H, arrI encCap 6 a20 G, arrI encComp 2 m.ca m.comps, arrI encLink 3 m.la m.links, arrI encShare 2 m.sa m.shares, codesI m.comps]) ?_ ?_
    ·exact ⟨_, 0, rfl, by omega, rfl, rfl, rfl, rfl, hs43⟩
    ·intro m208 f205 w206; rintro ⟨q, rfl, hq, e209, e210, e211, e212, hs207⟩
     rewrite [upd_id e209]
     rewrite [upd_id e210]
     rewrite [upd_id e211]
     rewrite [upd_id e212]
     refine W_seq (W_seq (W_region ?_))
     refine L_cons rfl (O_move (v := .int .i64 ((q : Nat) : Int)) rfl rfl ?_)
     refine L_cons rfl (O_move (v := .slice a34 Pp.length c35) rfl rfl ?_)
     refine L_cons rfl (O_len_slice (len := Pp.length) rfl un36 rfl ?_)
     refine L_cons rfl (O_bin (k := .i64) (k' := .i64) (a := ((q : Nat) : Int)) (b := ((Pp.length : Nat) : Int)) rfl rfl rfl b_lss ?_)
     refine L_nil (thenQ_n ?_)
     refine W_cond_d rfl (fun hc213 => ?_) (fun hc213 => ?_)
     ·refine W_skip (thenQ_n (W_seq (W_block (W_seq ?_))))
      obtain ⟨xb, xt, xa, xp, xy, zb, zt, za, zp, hX, hr1, hr2, ht2, ht5, hpm, hci, hpb⟩ := pair_split (hPo _ (List.getElem_mem (by omega : q < Pp.length)))
      refine W_region ?_
      refine L_cons rfl (O_move (v := .slice a34 Pp.length c35) rfl rfl ?_)
      refine L_cons rfl (O_move (v := .int .i64 ((q : Nat) : Int)) rfl rfl ?_)
      obtain ⟨b214, o215, ha216, hs217⟩ := hs207.elem 0 rfl q (by omega)
      rw [hX] at hs217
      refine L_cons rfl (O_indexAddr_at rfl ha216 rfl un36 sz40 (by omega) (by omega) (o' := o215 + q * 12) (by omega) rfl ?_)
      refine L_cons rfl (O_indexAddr_arr rfl rfl un40 sz39 (by omega) (by omega) (o' := o215 + q * 12) (by omega) rfl ?_)
      refine L_cons rfl (O_fieldAddr rfl fd39_5 rfl (o' := o215 + q * 12 + 5) rfl rfl ?_)
      refine L_cons rfl (O_load (v := .int .i64 xy) rfl ag3 ((hs217.getR 0 rfl).2 5 _ rfl) rfl ?_)
      refine L_cons rfl (O_assign (v := .int .i64 xy) rfl rfl ?_)
      refine L_nil (thenQ_n (W_seq (W_seq ?_)))
      refine W_par' mixed (show St _ _ _ [blk b1 (imgCells m) 26] _ from hs217) (fun i_ => match i_ with | _ => none) (fun i_ => match i_ with | _ => []) (fun i_ => match i_ with | _ => []) (fun i_ => match i_ with | 2 => [0, 1] | 3 => [2] | 4 => [3] | 5 => [4] | 6 => [5] | 7 => [6] | 8 => [7] | 9 => [7] | 10 => [7, 8, 9] | 11 => [7, 10] | 12 => [7, 11] | 13 => [7, 12] | 14 => [7, 13] | 15 => [7, 14] | 16 => [15] | 17 => [16] | 18 => [16, 17] | 19 => [16, 18] | 20 => [19] | 21 => [20] | 22 => [20, 21] | 23 => [20, 22] | 24 => [23] | 25 => [24] | 26 => [24] | 27 => [24, 25, 26] | 28 => [24, 27] | 29 => [24, 28] | 30 => [24, 29] | 31 => [24] | 32 => [24, 30, 31] | 33 => [24, 32] | 34 => [33] | 35 => [34] | 36 => [34] | 37 => [34, 35, 36] | 38 => [34, 37] | 39 => [34, 38] | 40 => [34, 39] | 41 => [34, 40] | 42 => [34, 41] | 43 => [42] | 44 => [43] | 45 => [43] | 46 => [43, 44, 45] | 47 => [43, 46] | 48 => [43, 47] | 49 => [43] | 50 => [43] | 51 => [43, 49, 50] | 52 => [43, 51] | 53 => [43, 52] | 54 => [43, 53] | 55 => [43, 48, 54] | 56 => [43, 55] | 57 => [43, 56] | _ => []) [58, 0, 1, 2, 3, 4, 5, 6, 7, 8, 9, 10, 11, 12, 13, 14, 15, 16, 17, 18, 19, 20, 21, 22, 23, 24, 25, 26, 27, 28, 29, 30, 31, 32, 33, 34, 35, 36, 37, 38, 39, 40, 41, 42, 43, 44, 45, 46, 47, 48, 49, 50, 51, 52, 53, 54, 55, 56, 57, 59, 60, 61, 62, 63, 64, 65, 66, 67, 68, 69, 70, 71, 72, 73, 74, 75, 76, 77, 78, 79, 80, 81, 82, 83, 84, 85, 86, 87, 88, 89, 90, 91, 92, 93, 94, 95, 96, 97, 98, 99, 100, 101, 102, 103, 104, 105, 106, 107, 108, 109, 110, 111, 112, 113, 114, 115, 116] [57] (fun i_ v_ => match i_ with | 0 => v_ = .slice a34 Pp.length c35 | 1 => v_ = .int .i64 ((q : Nat) : Int) | 2 => v_ = .pointer (some ⟨b214, o215 + q * 12, none⟩) | 3 => v_ = .pointer (some ⟨b214, o215 + q * 12, none⟩) | 4 => v_ = .agg #[.bool true, .int .i64 xb, .int .i64 xt, .int .i64 xa, .int .i64 xp, .int .i64 xy] | 5 => v_ = .bool true | 6 => v_ = .bool false | 7 => v_ = .bool false | 8 => v_ = .slice a34 Pp.length c35 | 9 => v_ = .int .i64 ((q : Nat) : Int) | 10 => v_ = .pointer (some ⟨b214, o215 + q * 12, none⟩) | 11 => v_ = .pointer (some ⟨b214, o215 + q * 12 + 6, none⟩) | 12 => v_ = .agg #[.bool true, .int .i64 zb, .int .i64 zt, .int .i64 za, .int .i64 zp, .int .i64 xy] | 13 => v_ = .bool true | 14 => v_ = .bool false | 15 => v_ = .bool false | 16 => v_ = .bool false | 17 => v_ = .int .i64 xy | 18 => v_ = .bool false | 19 => v_ = .bool false | 20 => v_ = .bool false | 21 => v_ = .int .i64 xy | 22 => v_ = .bool false | 23 => v_ = .bool false | 24 => v_ = .bool false | 25 => v_ = .slice a34 Pp.length c35 | 26 => v_ = .int .i64 ((q : Nat) : Int) | 27 => v_ = .pointer (some ⟨b214, o215 + q * 12, none⟩) | 28 => v_ = .pointer (some ⟨b214, o215 + q * 12 + 6, none⟩) | 29 => v_ = .pointer (some ⟨b214, o215 + q * 12 + 11, none⟩) | 30 => v_ = .int .i64 xy | 31 => v_ = .int .i64 xy | 32 => v_ = .bool false | 33 => v_ = .bool false | 34 => v_ = .bool false | 35 => v_ = .slice a34 Pp.length c35 | 36 => v_ = .int .i64 ((q : Nat) : Int) | 37 => v_ = .pointer (some ⟨b214, o215 + q * 12, none⟩) | 38 => v_ = .pointer (some ⟨b214, o215 + q * 12 + 6, none⟩) | 39 => v_ = .pointer (some ⟨b214, o215 + q * 12 + 10, none⟩) | 40 => v_ = .int .i64 zp | 41 => v_ = .bool false | 42 => v_ = .bool false | 43 => v_ = .bool false | 44 => v_ = .slice a34 Pp.length c35 | 45 => v_ = .int .i64 ((q : Nat) : Int) | 46 => v_ = .pointer (some ⟨b214, o215 + q * 12, none⟩) | 47 => v_ = .pointer (some ⟨b214, o215 + q * 12, none⟩) | 48 => v_ = .agg #[.bool true, .int .i64 xb, .int .i64 xt, .int .i64 xa, .int .i64 xp, .int .i64 xy] | 49 => v_ = .slice a34 Pp.length c35 | 50 => v_ = .int .i64 ((q : Nat) : Int) | 51 => v_ = .pointer (some ⟨b214, o215 + q * 12, none⟩) | 52 => v_ = .pointer (some ⟨b214, o215 + q * 12, none⟩) | 53 => v_ = .pointer (some ⟨b214, o215 + q * 12 + 3, none⟩) | 54 => v_ = .int .i64 xa | 55 => v_ = .bool true | 56 => v_ = .bool false | 57 => v_ = .bool false | _ => True) (by kernel_rfl) (by kernel_rfl) ⟨?_, ?_, ?_, ?_, ?_, ?_, ?_, ?_, ?_, ?_, ?_, ?_, ?_, ?_, ?_, ?_, ?_, ?_, ?_, ?_, ?_, ?_, ?_, ?_, ?_, ?_, ?_, ?_, ?_, ?_, ?_, ?_, ?_, ?_, ?_, ?_, ?_, ?_, ?_, ?_, ?_, ?_, ?_, ?_, ?_, ?_, ?_, ?_, ?_, ?_, ?_, ?_, ?_, ?_, ?_, ?_, ?_, ?_, trivial⟩ ?_
      ·intro f0_ w0_ X0_ hfr hus hrd hst
       have hb13 : f0_ 13 = .slice a34 Pp.length c35 := (hfr 13 rfl)
       refine og_none rfl (O_move (v := .slice a34 Pp.length c35) hb13 rfl ?_)
       exact ⟨.slice a34 Pp.length c35, rfl, rfl, hst⟩
      ·intro f1_ w1_ X1_ hfr hus hrd hst
       have hb16 : f1_ 16 = .int .i64 ((q : Nat) : Int) := (hfr 16 rfl)
       refine og_none rfl (O_move (v := .int .i64 ((q : Nat) : Int)) hb16 rfl ?_)
       exact ⟨.int .i64 ((q : Nat) : Int), rfl, rfl, hst⟩
      ·intro f2_ w2_ X2_ hfr hus hrd hst
       obtain ⟨hu0, hu1, -⟩ := hus
       have hu0 : f2_ 152 = .slice a34 Pp.length c35 := hu0
       have hu1 : f2_ 153 = .int .i64 ((q : Nat) : Int) := hu1
       refine og_none rfl (O_indexAddr_at hu0 ha216 hu1 un36 sz40 (by omega) (by omega) (o' := o215 + q * 12) (by omega) rfl ?_)
       exact ⟨.pointer (some ⟨b214, o215 + q * 12, none⟩), rfl, rfl, hst⟩
      ·intro f3_ w3_ X3_ hfr hus hrd hst
       obtain ⟨hu2, -⟩ := hus
       have hu2 : f3_ 154 = .pointer (some ⟨b214, o215 + q * 12, none⟩) := hu2
       refine og_none rfl (O_indexAddr_arr hu2 rfl un40 sz39 (by omega) (by omega) (o' := o215 + q * 12) (by omega) rfl ?_)
       exact ⟨.pointer (some ⟨b214, o215 + q * 12, none⟩), rfl, rfl, hst⟩
      ·intro f4_ w4_ X4_ hfr hus hrd hst
       obtain ⟨hu3, -⟩ := hus
       have hu3 : f4_ 155 = .pointer (some ⟨b214, o215 + q * 12, none⟩) := hu3
       refine og_none rfl (O_load_agg (vs := [.bool true, .int .i64 xb, .int .i64 xt, .int .i64 xa, .int .i64 xp, .int .i64 xy]) hu3 ag39 sz39 (Rd.part ((hst.getR 0 rfl).2) 0 6) rfl rfl ?_)
       exact ⟨.agg #[.bool true, .int .i64 xb, .int .i64 xt, .int .i64 xa, .int .i64 xp, .int .i64 xy], rfl, rfl, hst⟩
      ·intro f5_ w5_ X5_ hfr hus hrd hst
       obtain ⟨hu4, -⟩ := hus
       have hu4 : f5_ 156 = .agg #[.bool true, .int .i64 xb, .int .i64 xt, .int .i64 xa, .int .i64 xp, .int .i64 xy] := hu4
       refine og_none rfl (O_call (args := [.agg #[.bool true, .int .i64 xb, .int .i64 xt, .int .i64 xa, .int .i64 xp, .int .i64 xy]]) rfl (by simp only [List.map_cons, List.map_nil, List.nil_append, List.cons_append, List.append_nil, ev, Value.cells, hu4]) rfl en27 (C.vb (b' := true) (capright_c true xb xt xa xp xy _) hr1) ?_)
       rintro _ w218 ⟨rfl, hk220⟩
       have hs219 := hst.keep hk220
       exact ⟨.bool true, rfl, rfl, hs219⟩
      ·intro f6_ w6_ X6_ hfr hus hrd hst
       obtain ⟨hu5, -⟩ := hus
       have hu5 : f6_ 157 = .bool true := hu5
       refine og_none rfl (O_not (b := true) hu5 rfl ?_)
       exact ⟨.bool false, rfl, rfl, hst⟩
      ·intro f7_ w7_ X7_ hfr hus hrd hst
       obtain ⟨hu6, -⟩ := hus
       have hu6 : f7_ 158 = .bool false := hu6
       refine og_none rfl (O_move (v := .bool false) hu6 rfl ?_)
       exact ⟨.bool false, rfl, rfl, hst⟩
      ·intro f8_ w8_ X8_ hfr hus hrd hst
       obtain ⟨hu7, -⟩ := hus
       have hu7 : f8_ 159 = .bool false := hu7
       have hb13 : f8_ 13 = .slice a34 Pp.length c35 := (hfr 13 rfl)
       refine og_yes rfl hu7 (O_move (v := .slice a34 Pp.length c35) hb13 rfl ?_)
       exact ⟨.slice a34 Pp.length c35, rfl, rfl, hst⟩
      ·intro f9_ w9_ X9_ hfr hus hrd hst
       obtain ⟨hu7, -⟩ := hus
       have hu7 : f9_ 159 = .bool false := hu7
       have hb16 : f9_ 16 = .int .i64 ((q : Nat) : Int) := (hfr 16 rfl)
       refine og_yes rfl hu7 (O_move (v := .int .i64 ((q : Nat) : Int)) hb16 rfl ?_)
       exact ⟨.int .i64 ((q : Nat) : Int), rfl, rfl, hst⟩
      ·intro f10_ w10_ X10_ hfr hus hrd hst
       obtain ⟨hu7, hu8, hu9, -⟩ := hus
       have hu7 : f10_ 159 = .bool false := hu7
       have hu8 : f10_ 160 = .slice a34 Pp.length c35 := hu8
       have hu9 : f10_ 161 = .int .i64 ((q : Nat) : Int) := hu9
       refine og_yes rfl hu7 (O_indexAddr_at hu8 ha216 hu9 un36 sz40 (by omega) (by omega) (o' := o215 + q * 12) (by omega) rfl ?_)
       exact ⟨.pointer (some ⟨b214, o215 + q * 12, none⟩), rfl, rfl, hst⟩
      ·intro f11_ w11_ X11_ hfr hus hrd hst
       obtain ⟨hu7, hu10, -⟩ := hus
       have hu7 : f11_ 159 = .bool false := hu7
       have hu10 : f11_ 162 = .pointer (some ⟨b214, o215 + q * 12, none⟩) := hu10
       refine og_yes rfl hu7 (O_indexAddr_arr hu10 rfl un40 sz39 (by omega) (by omega) (o' := o215 + q * 12 + 6) (by omega) rfl ?_)
       exact ⟨.pointer (some ⟨b214, o215 + q * 12 + 6, none⟩), rfl, rfl, hst⟩
      ·intro f12_ w12_ X12_ hfr hus hrd hst
       obtain ⟨hu7, hu11, -⟩ := hus
       have hu7 : f12_ 159 = .bool false := hu7
       have hu11 : f12_ 163 = .pointer (some ⟨b214, o215 + q * 12 + 6, none⟩) := hu11
       refine og_yes rfl hu7 (O_load_agg (vs := [.bool true, .int .i64 zb, .int .i64 zt, .int .i64 za, .int .i64 zp, .int .i64 xy]) hu11 ag39 sz39 (Rd.part ((hst.getR 0 rfl).2) 6 6) rfl rfl ?_)
       exact ⟨.agg #[.bool true, .int .i64 zb, .int .i64 zt, .int .i64 za, .int .i64 zp, .int .i64 xy], rfl, rfl, hst⟩
      ·intro f13_ w13_ X13_ hfr hus hrd hst
       obtain ⟨hu7, hu12, -⟩ := hus
       have hu7 : f13_ 159 = .bool false := hu7
       have hu12 : f13_ 164 = .agg #[.bool true, .int .i64 zb, .int .i64 zt, .int .i64 za, .int .i64 zp, .int .i64 xy] := hu12
       refine og_yes rfl hu7 (O_call (args := [.agg #[.bool true, .int .i64 zb, .int .i64 zt, .int .i64 za, .int .i64 zp, .int .i64 xy]]) rfl (by simp only [List.map_cons, List.map_nil, List.nil_append, List.cons_append, List.append_nil, ev, Value.cells, hu12]) rfl en27 (C.vb (b' := true) (capright_c true zb zt za zp xy _) hr2) ?_)
       rintro _ w227 ⟨rfl, hk229⟩
       have hs228 := hst.keep hk229
       exact ⟨.bool true, rfl, rfl, hs228⟩
      ·intro f14_ w14_ X14_ hfr hus hrd hst
       obtain ⟨hu7, hu13, -⟩ := hus
       have hu7 : f14_ 159 = .bool false := hu7
       have hu13 : f14_ 165 = .bool true := hu13
       refine og_yes rfl hu7 (O_not (b := true) hu13 rfl ?_)
       exact ⟨.bool false, rfl, rfl, hst⟩
      ·intro f15_ w15_ X15_ hfr hus hrd hst
       obtain ⟨hu7, hu14, -⟩ := hus
       have hu7 : f15_ 159 = .bool false := hu7
       have hu14 : f15_ 166 = .bool false := hu14
       refine og_none rfl (O_pick (v := .bool false) hu7 (Eq.trans (if_neg (by decide)) hu14) rfl ?_)
       exact ⟨.bool false, rfl, rfl, hst⟩
      ·intro f16_ w16_ X16_ hfr hus hrd hst
       obtain ⟨hu15, -⟩ := hus
       have hu15 : f16_ 167 = .bool false := hu15
       refine og_none rfl (O_move (v := .bool false) hu15 rfl ?_)
       exact ⟨.bool false, rfl, rfl, hst⟩
      ·intro f17_ w17_ X17_ hfr hus hrd hst
       obtain ⟨hu16, -⟩ := hus
       have hu16 : f17_ 168 = .bool false := hu16
       have hb17 : f17_ 17 = .int .i64 xy := (hfr 17 rfl)
       refine og_yes rfl hu16 (O_move (v := .int .i64 xy) hb17 rfl ?_)
       exact ⟨.int .i64 xy, rfl, rfl, hst⟩
      ·intro f18_ w18_ X18_ hfr hus hrd hst
       obtain ⟨hu16, hu17, -⟩ := hus
       have hu16 : f18_ 168 = .bool false := hu16
       have hu17 : f18_ 169 = .int .i64 xy := hu17
       refine og_yes rfl hu16 (O_bin (k := .i64) (k' := .i64) (a := xy) (b := 2) (v := .bool false) hu17 rfl rfl (fun w => (b_lss w).trans (by rw [show decide (xy < 2) = false from by simp; omega])) ?_)
       exact ⟨.bool false, rfl, rfl, hst⟩
      ·intro f19_ w19_ X19_ hfr hus hrd hst
       obtain ⟨hu16, hu18, -⟩ := hus
       have hu16 : f19_ 168 = .bool false := hu16
       have hu18 : f19_ 170 = .bool false := hu18
       refine og_none rfl (O_pick (v := .bool false) hu16 (Eq.trans (if_neg (by decide)) hu18) rfl ?_)
       exact ⟨.bool false, rfl, rfl, hst⟩
      ·intro f20_ w20_ X20_ hfr hus hrd hst
       obtain ⟨hu19, -⟩ := hus
       have hu19 : f20_ 171 = .bool false := hu19
       refine og_none rfl (O_move (v := .bool false) hu19 rfl ?_)
       exact ⟨.bool false, rfl, rfl, hst⟩
      ·intro f21_ w21_ X21_ hfr hus hrd hst
       obtain ⟨hu20, -⟩ := hus
       have hu20 : f21_ 172 = .bool false := hu20
       have hb17 : f21_ 17 = .int .i64 xy := (hfr 17 rfl)
       refine og_yes rfl hu20 (O_move (v := .int .i64 xy) hb17 rfl ?_)
       exact ⟨.int .i64 xy, rfl, rfl, hst⟩
      ·intro f22_ w22_ X22_ hfr hus hrd hst
       obtain ⟨hu20, hu21, -⟩ := hus
       have hu20 : f22_ 172 = .bool false := hu20
       have hu21 : f22_ 173 = .int .i64 xy := hu21
       refine og_yes rfl hu20 (O_bin (k := .i64) (k' := .i64) (a := xy) (b := 5) (v := .bool false) hu21 rfl rfl (fun w => (b_gtr w).trans (by rw [show decide (5 < xy) = false from by simp; omega])) ?_)
       exact ⟨.bool false, rfl, rfl, hst⟩
      ·intro f23_ w23_ X23_ hfr hus hrd hst
       obtain ⟨hu20, hu22, -⟩ := hus
       have hu20 : f23_ 172 = .bool false := hu20
       have hu22 : f23_ 174 = .bool false := hu22
       refine og_none rfl (O_pick (v := .bool false) hu20 (Eq.trans (if_neg (by decide)) hu22) rfl ?_)
       exact ⟨.bool false, rfl, rfl, hst⟩
      ·intro f24_ w24_ X24_ hfr hus hrd hst
       obtain ⟨hu23, -⟩ := hus
       have hu23 : f24_ 175 = .bool false := hu23
       refine og_none rfl (O_move (v := .bool false) hu23 rfl ?_)
       exact ⟨.bool false, rfl, rfl, hst⟩
      ·intro f25_ w25_ X25_ hfr hus hrd hst
       obtain ⟨hu24, -⟩ := hus
       have hu24 : f25_ 176 = .bool false := hu24
       have hb13 : f25_ 13 = .slice a34 Pp.length c35 := (hfr 13 rfl)
       refine og_yes rfl hu24 (O_move (v := .slice a34 Pp.length c35) hb13 rfl ?_)
       exact ⟨.slice a34 Pp.length c35, rfl, rfl, hst⟩
      ·intro f26_ w26_ X26_ hfr hus hrd hst
       obtain ⟨hu24, -⟩ := hus
       have hu24 : f26_ 176 = .bool false := hu24
       have hb16 : f26_ 16 = .int .i64 ((q : Nat) : Int) := (hfr 16 rfl)
       refine og_yes rfl hu24 (O_move (v := .int .i64 ((q : Nat) : Int)) hb16 rfl ?_)
       exact ⟨.int .i64 ((q : Nat) : Int), rfl, rfl, hst⟩
      ·intro f27_ w27_ X27_ hfr hus hrd hst
       obtain ⟨hu24, hu25, hu26, -⟩ := hus
       have hu24 : f27_ 176 = .bool false := hu24
       have hu25 : f27_ 177 = .slice a34 Pp.length c35 := hu25
       have hu26 : f27_ 178 = .int .i64 ((q : Nat) : Int) := hu26
       refine og_yes rfl hu24 (O_indexAddr_at hu25 ha216 hu26 un36 sz40 (by omega) (by omega) (o' := o215 + q * 12) (by omega) rfl ?_)
       exact ⟨.pointer (some ⟨b214, o215 + q * 12, none⟩), rfl, rfl, hst⟩
      ·intro f28_ w28_ X28_ hfr hus hrd hst
       obtain ⟨hu24, hu27, -⟩ := hus
       have hu24 : f28_ 176 = .bool false := hu24
       have hu27 : f28_ 179 = .pointer (some ⟨b214, o215 + q * 12, none⟩) := hu27
       refine og_yes rfl hu24 (O_indexAddr_arr hu27 rfl un40 sz39 (by omega) (by omega) (o' := o215 + q * 12 + 6) (by omega) rfl ?_)
       exact ⟨.pointer (some ⟨b214, o215 + q * 12 + 6, none⟩), rfl, rfl, hst⟩
      ·intro f29_ w29_ X29_ hfr hus hrd hst
       obtain ⟨hu24, hu28, -⟩ := hus
       have hu24 : f29_ 176 = .bool false := hu24
       have hu28 : f29_ 180 = .pointer (some ⟨b214, o215 + q * 12 + 6, none⟩) := hu28
       refine og_yes rfl hu24 (O_fieldAddr hu28 fd39_5 rfl (o' := o215 + q * 12 + 11) rfl rfl ?_)
       exact ⟨.pointer (some ⟨b214, o215 + q * 12 + 11, none⟩), rfl, rfl, hst⟩
      ·intro f30_ w30_ X30_ hfr hus hrd hst
       obtain ⟨hu24, hu29, -⟩ := hus
       have hu24 : f30_ 176 = .bool false := hu24
       have hu29 : f30_ 181 = .pointer (some ⟨b214, o215 + q * 12 + 11, none⟩) := hu29
       refine og_yes rfl hu24 (O_load (v := .int .i64 xy) hu29 ag3 ((hst.getR 0 rfl).2 11 _ rfl) rfl ?_)
       exact ⟨.int .i64 xy, rfl, rfl, hst⟩
      ·intro f31_ w31_ X31_ hfr hus hrd hst
       obtain ⟨hu24, -⟩ := hus
       have hu24 : f31_ 176 = .bool false := hu24
       have hb17 : f31_ 17 = .int .i64 xy := (hfr 17 rfl)
       refine og_yes rfl hu24 (O_move (v := .int .i64 xy) hb17 rfl ?_)
       exact ⟨.int .i64 xy, rfl, rfl, hst⟩
      ·intro f32_ w32_ X32_ hfr hus hrd hst
       obtain ⟨hu24, hu30, hu31, -⟩ := hus
       have hu24 : f32_ 176 = .bool false := hu24
       have hu30 : f32_ 182 = .int .i64 xy := hu30
       have hu31 : f32_ 183 = .int .i64 xy := hu31
       refine og_yes rfl hu24 (O_bin (k := .i64) (k' := .i64) (a := xy) (b := xy) (v := .bool false) hu30 hu31 rfl (fun w => (b_neq w).trans (by rw [show decide (xy ≠ xy) = false from by simp])) ?_)
       exact ⟨.bool false, rfl, rfl, hst⟩
      ·intro f33_ w33_ X33_ hfr hus hrd hst
       obtain ⟨hu24, hu32, -⟩ := hus
       have hu24 : f33_ 176 = .bool false := hu24
       have hu32 : f33_ 184 = .bool false := hu32
       refine og_none rfl (O_pick (v := .bool false) hu24 (Eq.trans (if_neg (by decide)) hu32) rfl ?_)
       exact ⟨.bool false, rfl, rfl, hst⟩
      ·intro f34_ w34_ X34_ hfr hus hrd hst
       obtain ⟨hu33, -⟩ := hus
       have hu33 : f34_ 185 = .bool false := hu33
       refine og_none rfl (O_move (v := .bool false) hu33 rfl ?_)
       exact ⟨.bool false, rfl, rfl, hst⟩
      ·intro f35_ w35_ X35_ hfr hus hrd hst
       obtain ⟨hu34, -⟩ := hus
       have hu34 : f35_ 186 = .bool false := hu34
       have hb13 : f35_ 13 = .slice a34 Pp.length c35 := (hfr 13 rfl)
       refine og_yes rfl hu34 (O_move (v := .slice a34 Pp.length c35) hb13 rfl ?_)
       exact ⟨.slice a34 Pp.length c35, rfl, rfl, hst⟩
      ·intro f36_ w36_ X36_ hfr hus hrd hst
       obtain ⟨hu34, -⟩ := hus
       have hu34 : f36_ 186 = .bool false := hu34
       have hb16 : f36_ 16 = .int .i64 ((q : Nat) : Int) := (hfr 16 rfl)
       refine og_yes rfl hu34 (O_move (v := .int .i64 ((q : Nat) : Int)) hb16 rfl ?_)
       exact ⟨.int .i64 ((q : Nat) : Int), rfl, rfl, hst⟩
      ·intro f37_ w37_ X37_ hfr hus hrd hst
       obtain ⟨hu34, hu35, hu36, -⟩ := hus
       have hu34 : f37_ 186 = .bool false := hu34
       have hu35 : f37_ 187 = .slice a34 Pp.length c35 := hu35
       have hu36 : f37_ 188 = .int .i64 ((q : Nat) : Int) := hu36
       refine og_yes rfl hu34 (O_indexAddr_at hu35 ha216 hu36 un36 sz40 (by omega) (by omega) (o' := o215 + q * 12) (by omega) rfl ?_)
       exact ⟨.pointer (some ⟨b214, o215 + q * 12, none⟩), rfl, rfl, hst⟩
      ·intro f38_ w38_ X38_ hfr hus hrd hst
       obtain ⟨hu34, hu37, -⟩ := hus
       have hu34 : f38_ 186 = .bool false := hu34
       have hu37 : f38_ 189 = .pointer (some ⟨b214, o215 + q * 12, none⟩) := hu37
       refine og_yes rfl hu34 (O_indexAddr_arr hu37 rfl un40 sz39 (by omega) (by omega) (o' := o215 + q * 12 + 6) (by omega) rfl ?_)
       exact ⟨.pointer (some ⟨b214, o215 + q * 12 + 6, none⟩), rfl, rfl, hst⟩
      ·intro f39_ w39_ X39_ hfr hus hrd hst
       obtain ⟨hu34, hu38, -⟩ := hus
       have hu34 : f39_ 186 = .bool false := hu34
       have hu38 : f39_ 190 = .pointer (some ⟨b214, o215 + q * 12 + 6, none⟩) := hu38
       refine og_yes rfl hu34 (O_fieldAddr hu38 fd39_4 rfl (o' := o215 + q * 12 + 10) rfl rfl ?_)
       exact ⟨.pointer (some ⟨b214, o215 + q * 12 + 10, none⟩), rfl, rfl, hst⟩
      ·intro f40_ w40_ X40_ hfr hus hrd hst
       obtain ⟨hu34, hu39, -⟩ := hus
       have hu34 : f40_ 186 = .bool false := hu34
       have hu39 : f40_ 191 = .pointer (some ⟨b214, o215 + q * 12 + 10, none⟩) := hu39
       refine og_yes rfl hu34 (O_load (v := .int .i64 zp) hu39 ag3 ((hst.getR 0 rfl).2 10 _ rfl) rfl ?_)
       exact ⟨.int .i64 zp, rfl, rfl, hst⟩
      ·intro f41_ w41_ X41_ hfr hus hrd hst
       obtain ⟨hu34, hu40, -⟩ := hus
       have hu34 : f41_ 186 = .bool false := hu34
       have hu40 : f41_ 192 = .int .i64 zp := hu40
       refine og_yes rfl hu34 (O_bin (k := .i64) (k' := .i64) (a := zp) (b := 32) (v := .bool false) hu40 rfl rfl (fun w => (b_geq w).trans (by rw [show decide (32 ≤ zp) = false from by simp; omega])) ?_)
       exact ⟨.bool false, rfl, rfl, hst⟩
      ·intro f42_ w42_ X42_ hfr hus hrd hst
       obtain ⟨hu34, hu41, -⟩ := hus
       have hu34 : f42_ 186 = .bool false := hu34
       have hu41 : f42_ 193 = .bool false := hu41
       refine og_none rfl (O_pick (v := .bool false) hu34 (Eq.trans (if_neg (by decide)) hu41) rfl ?_)
       exact ⟨.bool false, rfl, rfl, hst⟩
      ·intro f43_ w43_ X43_ hfr hus hrd hst
       obtain ⟨hu42, -⟩ := hus
       have hu42 : f43_ 194 = .bool false := hu42
       refine og_none rfl (O_move (v := .bool false) hu42 rfl ?_)
       exact ⟨.bool false, rfl, rfl, hst⟩
      ·intro f44_ w44_ X44_ hfr hus hrd hst
       obtain ⟨hu43, -⟩ := hus
       have hu43 : f44_ 195 = .bool false := hu43
       have hb13 : f44_ 13 = .slice a34 Pp.length c35 := (hfr 13 rfl)
       refine og_yes rfl hu43 (O_move (v := .slice a34 Pp.length c35) hb13 rfl ?_)
       exact ⟨.slice a34 Pp.length c35, rfl, rfl, hst⟩
      ·intro f45_ w45_ X45_ hfr hus hrd hst
       obtain ⟨hu43, -⟩ := hus
       have hu43 : f45_ 195 = .bool false := hu43
       have hb16 : f45_ 16 = .int .i64 ((q : Nat) : Int) := (hfr 16 rfl)
       refine og_yes rfl hu43 (O_move (v := .int .i64 ((q : Nat) : Int)) hb16 rfl ?_)
       exact ⟨.int .i64 ((q : Nat) : Int), rfl, rfl, hst⟩
      ·intro f46_ w46_ X46_ hfr hus hrd hst
       obtain ⟨hu43, hu44, hu45, -⟩ := hus
       have hu43 : f46_ 195 = .bool false := hu43
       have hu44 : f46_ 196 = .slice a34 Pp.length c35 := hu44
       have hu45 : f46_ 197 = .int .i64 ((q : Nat) : Int) := hu45
       refine og_yes rfl hu43 (O_indexAddr_at hu44 ha216 hu45 un36 sz40 (by omega) (by omega) (o' := o215 + q * 12) (by omega) rfl ?_)
       exact ⟨.pointer (some ⟨b214, o215 + q * 12, none⟩), rfl, rfl, hst⟩
      ·intro f47_ w47_ X47_ hfr hus hrd hst
       obtain ⟨hu43, hu46, -⟩ := hus
       have hu43 : f47_ 195 = .bool false := hu43
       have hu46 : f47_ 198 = .pointer (some ⟨b214, o215 + q * 12, none⟩) := hu46
       refine og_yes rfl hu43 (O_indexAddr_arr hu46 rfl un40 sz39 (by omega) (by omega) (o' := o215 + q * 12) (by omega) rfl ?_)
       exact ⟨.pointer (some ⟨b214, o215 + q * 12, none⟩), rfl, rfl, hst⟩
      ·intro f48_ w48_ X48_ hfr hus hrd hst
       obtain ⟨hu43, hu47, -⟩ := hus
       have hu43 : f48_ 195 = .bool false := hu43
       have hu47 : f48_ 199 = .pointer (some ⟨b214, o215 + q * 12, none⟩) := hu47
       refine og_yes rfl hu43 (O_load_agg (vs := [.bool true, .int .i64 xb, .int .i64 xt, .int .i64 xa, .int .i64 xp, .int .i64 xy]) hu47 ag39 sz39 (Rd.part ((hst.getR 0 rfl).2) 0 6) rfl rfl ?_)
       exact ⟨.agg #[.bool true, .int .i64 xb, .int .i64 xt, .int .i64 xa, .int .i64 xp, .int .i64 xy], rfl, rfl, hst⟩
      ·intro f49_ w49_ X49_ hfr hus hrd hst
       obtain ⟨hu43, -⟩ := hus
       have hu43 : f49_ 195 = .bool false := hu43
       have hb13 : f49_ 13 = .slice a34 Pp.length c35 := (hfr 13 rfl)
       refine og_yes rfl hu43 (O_move (v := .slice a34 Pp.length c35) hb13 rfl ?_)
       exact ⟨.slice a34 Pp.length c35, rfl, rfl, hst⟩
      ·intro f50_ w50_ X50_ hfr hus hrd hst
       obtain ⟨hu43, -⟩ := hus
       have hu43 : f50_ 195 = .bool false := hu43
       have hb16 : f50_ 16 = .int .i64 ((q : Nat) : Int) := (hfr 16 rfl)
       refine og_yes rfl hu43 (O_move (v := .int .i64 ((q : Nat) : Int)) hb16 rfl ?_)
       exact ⟨.int .i64 ((q : Nat) : Int), rfl, rfl, hst⟩
      ·intro f51_ w51_ X51_ hfr hus hrd hst
       obtain ⟨hu43, hu49, hu50, -⟩ := hus
       have hu43 : f51_ 195 = .bool false := hu43
       have hu49 : f51_ 201 = .slice a34 Pp.length c35 := hu49
       have hu50 : f51_ 202 = .int .i64 ((q : Nat) : Int) := hu50
       refine og_yes rfl hu43 (O_indexAddr_at hu49 ha216 hu50 un36 sz40 (by omega) (by omega) (o' := o215 + q * 12) (by omega) rfl ?_)
       exact ⟨.pointer (some ⟨b214, o215 + q * 12, none⟩), rfl, rfl, hst⟩
      ·intro f52_ w52_ X52_ hfr hus hrd hst
       obtain ⟨hu43, hu51, -⟩ := hus
       have hu43 : f52_ 195 = .bool false := hu43
       have hu51 : f52_ 203 = .pointer (some ⟨b214, o215 + q * 12, none⟩) := hu51
       refine og_yes rfl hu43 (O_indexAddr_arr hu51 rfl un40 sz39 (by omega) (by omega) (o' := o215 + q * 12) (by omega) rfl ?_)
       exact ⟨.pointer (some ⟨b214, o215 + q * 12, none⟩), rfl, rfl, hst⟩
      ·intro f53_ w53_ X53_ hfr hus hrd hst
       obtain ⟨hu43, hu52, -⟩ := hus
       have hu43 : f53_ 195 = .bool false := hu43
       have hu52 : f53_ 204 = .pointer (some ⟨b214, o215 + q * 12, none⟩) := hu52
       refine og_yes rfl hu43 (O_fieldAddr hu52 fd39_3 rfl (o' := o215 + q * 12 + 3) rfl rfl ?_)
       exact ⟨.pointer (some ⟨b214, o215 + q * 12 + 3, none⟩), rfl, rfl, hst⟩
      ·intro f54_ w54_ X54_ hfr hus hrd hst
       obtain ⟨hu43, hu53, -⟩ := hus
       have hu43 : f54_ 195 = .bool false := hu43
       have hu53 : f54_ 205 = .pointer (some ⟨b214, o215 + q * 12 + 3, none⟩) := hu53
       refine og_yes rfl hu43 (O_load (v := .int .i64 xa) hu53 ag3 ((hst.getR 0 rfl).2 3 _ rfl) rfl ?_)
       exact ⟨.int .i64 xa, rfl, rfl, hst⟩
      ·intro f55_ w55_ X55_ hfr hus hrd hst
       obtain ⟨hu43, hu48, hu54, -⟩ := hus
       have hu43 : f55_ 195 = .bool false := hu43
       have hu48 : f55_ 200 = .agg #[.bool true, .int .i64 xb, .int .i64 xt, .int .i64 xa, .int .i64 xp, .int .i64 xy] := hu48
       have hu54 : f55_ 206 = .int .i64 xa := hu54
       refine og_yes rfl hu43 (O_call (args := [.agg #[.bool true, .int .i64 xb, .int .i64 xt, .int .i64 xa, .int .i64 xp, .int .i64 xy], .int .i64 xa, .int .i64 4]) rfl (by simp only [List.map_cons, List.map_nil, List.nil_append, List.cons_append, List.append_nil, ev, Value.cells, hu48, hu54]) rfl en28 (C.vb (b' := true) (capin_c ⟨true, xb, xt, xa, xp, xy⟩ xa 4 _ (show xa ≤ 9223372036854775807 from by omega) (show -9223372036854775808 ≤ xt ∧ xt ≤ 9223372036854775807 from by omega)) hci) ?_)
       rintro _ w262 ⟨rfl, hk264⟩
       have hs263 := hst.keep hk264
       exact ⟨.bool true, rfl, rfl, hs263⟩
      ·intro f56_ w56_ X56_ hfr hus hrd hst
       obtain ⟨hu43, hu55, -⟩ := hus
       have hu43 : f56_ 195 = .bool false := hu43
       have hu55 : f56_ 207 = .bool true := hu55
       refine og_yes rfl hu43 (O_not (b := true) hu55 rfl ?_)
       exact ⟨.bool false, rfl, rfl, hst⟩
      ·intro f57_ w57_ X57_ hfr hus hrd hst
       obtain ⟨hu43, hu56, -⟩ := hus
       have hu43 : f57_ 195 = .bool false := hu43
       have hu56 : f57_ 208 = .bool false := hu56
       refine og_none rfl (O_pick (v := .bool false) hu43 (Eq.trans (if_neg (by decide)) hu56) rfl ?_)
       exact ⟨.bool false, rfl, rfl, hst⟩
      intro f266 w267 hfr hus hs268
      obtain ⟨hu57, -⟩ := hus
      have hu57 : f266 209 = .bool false := hu57
      have hs268 : St _ _ _ [blk b1 (imgCells m) 26] _ := hs268
      have e269 : f266 7 = .bool true := (hfr 7 rfl)
      rewrite [upd_id e269]
      have e270 : f266 12 = .slice a27 H.length c28 := (hfr 12 rfl)
      rewrite [upd_id e270]
      have e271 : f266 13 = .slice a34 Pp.length c35 := (hfr 13 rfl)
      rewrite [upd_id e271]
      have e272 : f266 16 = .int .i64 ((q : Nat) : Int) := (hfr 16 rfl)
      rewrite [upd_id e272]
      have e273 : f266 17 = .int .i64 xy := (hfr 17 rfl)
      rewrite [upd_id e273]
      rewrite [upd_id hu57]
      refine thenQ_n ?_
      refine W_cond_f rfl ?_
      refine W_skip (thenQ_n (W_seq (W_region ?_)))
      refine L_cons rfl (O_assign (v := .int .i64 0) rfl rfl ?_)
      refine L_nil (thenQ_n (W_block ?_))
      refine W_loopm (fun m_ f_ w_ => ∃ l : Nat, m_ = H.length - l ∧ (l ≤ H.length) ∧ f_ 7 = .bool true ∧ f_ 12 = .slice a27 H.length c28 ∧ f_ 13 = .slice a34 Pp.length c35 ∧ f_ 16 = .int .i64 ((q : Nat) : Int) ∧ f_ 17 = .int .i64 xy ∧ f_ 18 = .int .i64 ((l : Nat) : Int) ∧ St w (fun _ => False) w_ [blk b1 (imgCells m) 26] [rdI b214 (o215 + q * 12) (encPair (⟨true, xb, xt, xa, xp, xy⟩, ⟨true, zb, zt, za, zp, xy⟩)), arrI encPair 12 a34 Pp, arrI encCap 6 a27 H, arrI encCap 6 a20 G, arrI encComp 2 m.ca m.comps, arrI encLink 3 m.la m.links, arrI encShare 2 m.sa m.shares, codesI m.comps]) ?_ ?_
      ·exact ⟨_, 0, rfl, by omega, rfl, rfl, rfl, rfl, rfl, rfl, hs268⟩
      ·intro m277 f274 w275; rintro ⟨l, rfl, hl, e278, e279, e280, e281, e282, e283, hs276⟩
       rewrite [upd_id e278]
       rewrite [upd_id e279]
       rewrite [upd_id e280]
       rewrite [upd_id e281]
       rewrite [upd_id e282]
       rewrite [upd_id e283]
       refine W_seq (W_seq (W_region ?_))
       refine L_cons rfl (O_move (v := .int .i64 ((l : Nat) : Int)) rfl rfl ?_)
       refine L_cons rfl (O_move (v := .slice a27 H.length c28) rfl rfl ?_)
       refine L_cons rfl (O_len_slice (len := H.length) rfl un48 rfl ?_)
       refine L_cons rfl (O_bin (k := .i64) (k' := .i64) (a := ((l : Nat) : Int)) (b := ((H.length : Nat) : Int)) rfl rfl rfl b_lss ?_)
       refine L_nil (thenQ_n ?_)
       refine W_cond_d rfl (fun hc284 => ?_) (fun hc284 => ?_)
       ·refine W_skip (thenQ_n (W_seq (W_block (W_seq ?_))))
        obtain ⟨yg, yb, yt, ya, yp, yy, hY⟩ := cap_split (H[l]'(by omega))
        have hoy := hHo _ (List.getElem_mem (by omega : l < H.length))
        rw [hY] at hoy; unfold RgB at hoy; simp only at hoy
        refine W_region ?_
        refine L_cons rfl (O_move (v := .slice a27 H.length c28) rfl rfl ?_)
        refine L_cons rfl (O_move (v := .int .i64 ((l : Nat) : Int)) rfl rfl ?_)
        obtain ⟨b285, o286, ha287, hs288⟩ := hs276.elem 2 rfl l (by omega)
        rw [hY] at hs288
        refine L_cons rfl (O_indexAddr_at rfl ha287 rfl un48 sz39 (by omega) (by omega) (o' := o286 + l * 6) (by omega) rfl ?_)
        refine L_cons rfl (O_fieldAddr rfl fd39_4 rfl (o' := o286 + l * 6 + 4) rfl rfl ?_)
        refine L_cons rfl (O_load (v := .int .i64 yp) rfl ag3 ((hs288.getR 0 rfl).2 4 _ rfl) rfl ?_)
        refine L_cons rfl (O_bin (k := .i64) (k' := .i64) (a := yp) (b := 32) rfl rfl rfl b_geq ?_)
        refine L_cons rfl (O_move (v := .bool (decide (32 ≤ yp))) rfl rfl ?_)
        refine L_guard_tp (v := .slice a27 H.length c28) rfl rfl rfl rfl (fun hg289 => O_move (v := .slice a27 H.length c28) rfl rfl ⟨rfl, rfl⟩) ?_
        refine L_guard_tp (v := .int .i64 ((l : Nat) : Int)) rfl rfl rfl rfl (fun hg290 => O_move (v := .int .i64 ((l : Nat) : Int)) rfl rfl ⟨rfl, rfl⟩) ?_
        refine L_guard_tp (v := .pointer (some ⟨b285, o286 + l * 6, none⟩)) rfl rfl rfl rfl (fun hg291 => O_indexAddr_at (show ev _ _ = .slice a27 H.length c28 from if_pos hg291) ha287 (show ev _ _ = .int .i64 ((l : Nat) : Int) from if_pos hg291) un48 sz39 (by omega) (by omega) (o' := o286 + l * 6) (by omega) rfl ⟨rfl, rfl⟩) ?_
        refine L_guard_tp (v := .agg #[.bool yg, .int .i64 yb, .int .i64 yt, .int .i64 ya, .int .i64 yp, .int .i64 yy]) rfl rfl rfl rfl (fun hg292 => O_load_agg (vs := [.bool yg, .int .i64 yb, .int .i64 yt, .int .i64 ya, .int .i64 yp, .int .i64 yy]) (show ev _ _ = .pointer (some ⟨b285, o286 + l * 6, none⟩) from if_pos hg292) ag39 sz39 ((hs288.getR 0 rfl).2) rfl rfl ⟨rfl, rfl⟩) ?_
        refine L_guard_tp (v := .int .i64 xy) rfl rfl rfl rfl (fun hg293 => O_move (v := .int .i64 xy) rfl rfl ⟨rfl, rfl⟩) ?_
        refine L_guard_t (v := .bool (capIn ⟨yg, yb, yt, ya, yp, yy⟩ xy 1)) rfl rfl rfl rfl hs288 (fun hg294 => ?_) (fun w298 hs299 => ?_)
        ·refine O_call (args := [.agg #[.bool yg, .int .i64 yb, .int .i64 yt, .int .i64 ya, .int .i64 yp, .int .i64 yy], .int .i64 xy, .int .i64 1]) rfl (cons2 (if_pos hg294) (cons2 (if_pos hg294) (cons2 rfl rfl))) rfl en28 (capin_c ⟨yg, yb, yt, ya, yp, yy⟩ xy 1 _ (show xy ≤ 9223372036854775807 from by omega) (show -9223372036854775808 ≤ yt ∧ yt ≤ 9223372036854775807 from by omega)) ?_
         rintro _ w295 ⟨rfl, hk297⟩
         have hs296 := hs288.keep hk297
         exact ⟨rfl, hs296⟩
        refine L_cons rfl (O_pick rfl (pick_and _ _) rfl ?_)
        refine L_nil (thenQ_n ?_)
        refine W_cond (t := (decide (32 ≤ yp) && (capIn ⟨yg, yb, yt, ya, yp, yy⟩ xy 1))) rfl (fun hc300 => absurd hc300 (by have hz := hQo _ (List.getElem_mem (by omega : l < H.length)) xy ht5; rw [hY] at hz; simp only at hz; rw [hz]; simp)) (fun hc300 => ?_)
        refine W_skip (blockQ_n (thenQ_n (W_region ?_)))
        refine L_cons rfl (O_move (v := .int .i64 ((l : Nat) : Int)) rfl rfl ?_)
        refine L_cons rfl (O_bin (v := .int .i64 ((l + 1 : Nat) : Int)) rfl rfl rfl (b_add (wrap_i64e (by omega) (by omega))) ?_)
        refine L_cons rfl (O_assign (v := .int .i64 ((l + 1 : Nat) : Int)) rfl rfl ?_)
        refine L_nil (thenQ_n ?_)
        refine ⟨_, ?_, l + 1, rfl, by omega, rfl, rfl, rfl, rfl, rfl, rfl, hs299.popR⟩
        omega
       ·refine W_exit (thenQ_e (thenQ_e (blockQ_x (blockQ_n (thenQ_n (W_region ?_))))))
        refine L_cons rfl (O_move (v := .int .i64 ((q : Nat) : Int)) rfl rfl ?_)
        refine L_cons rfl (O_bin (v := .int .i64 ((q + 1 : Nat) : Int)) rfl rfl rfl (b_add (wrap_i64e (by omega) (by omega))) ?_)
        refine L_cons rfl (O_assign (v := .int .i64 ((q + 1 : Nat) : Int)) rfl rfl ?_)
        refine L_nil (thenQ_n ?_)
        refine ⟨_, ?_, q + 1, rfl, by omega, rfl, rfl, rfl, rfl, hs276.popR⟩
        omega
     ·refine W_exit (thenQ_e (thenQ_e (blockQ_x (thenQ_n (W_seq (W_region ?_))))))
      refine L_cons rfl (O_move (v := .bool true) rfl rfl ?_)
      refine L_cons rfl (O_assign (v := .bool true) rfl rfl ?_)
      refine L_nil (thenQ_n (W_ret ?_))
      refine ⟨.bool true, res1 rfl, ?_⟩
      exact ⟨rfl, hs207.base⟩


end Go.Proofs.Ytgddigkdldnmdaa
