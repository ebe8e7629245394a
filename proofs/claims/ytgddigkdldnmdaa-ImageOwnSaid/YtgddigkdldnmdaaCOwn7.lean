import Derived.Test.YtgddigkdldnmdaaCOwn6
namespace Go.Proofs.Ytgddigkdldnmdaa
open Go Go.Vg Go.Img
set_option linter.unusedSimpArgs false
set_option maxHeartbeats 4000000
theorem en22 : ∀ args w, (callFunc 22 args).run Try.prog w = .ok (.enter 22 args) w := fun args w => callFunc_run Try.func22 (by kernel_rfl) rfl args w
theorem en45 : ∀ args w, (callFunc 45 args).run Try.prog w = .ok (.enter 45 args) w := fun args w => callFunc_run Try.func45 (by kernel_rfl) rfl args w
theorem un48 : Un Try.prog 48 (.slice 39) := Try.underlying48
theorem ni48 : NotInt Try.prog 48 := ⟨_, Try.underlying48, by intro k h; cases h⟩
theorem inf39 : Inf Try.prog 39 (.agg #[.bool false, .int .i64 0, .int .i64 0, .int .i64 0, .int .i64 0, .int .i64 0]) 6 48 := by unfold Inf; kernel_rfl
theorem en25 : ∀ args w, (callFunc 25 args).run Try.prog w = .ok (.enter 25 args) w := fun args w => callFunc_run Try.func25 (by kernel_rfl) rfl args w
theorem fd39_3 : FdAt Try.prog 39 3 3 1 false := FdAt.mk' _ _ Try.underlying39 rfl rfl (fun _ => by kernel_rfl) (fun _ => by kernel_rfl)
theorem fd39_5 : FdAt Try.prog 39 5 5 1 false := FdAt.mk' _ _ Try.underlying39 rfl rfl (fun _ => by kernel_rfl) (fun _ => by kernel_rfl)
theorem un40 : Un Try.prog 40 (.array 2 39) := Try.underlying40
theorem zv40 : Zv Try.prog 40 (.agg #[.bool false, .int .i64 0, .int .i64 0, .int .i64 0, .int .i64 0, .int .i64 0, .bool false, .int .i64 0, .int .i64 0, .int .i64 0, .int .i64 0, .int .i64 0]) := Try.zeroValue40
theorem un36 : Un Try.prog 36 (.slice 40) := Try.underlying36
theorem sz40 : Sz Try.prog 40 12 := fun _ => by kernel_rfl
theorem ni36 : NotInt Try.prog 36 := ⟨_, Try.underlying36, by intro k h; cases h⟩
theorem inf40 : Inf Try.prog 40 (.agg #[.bool false, .int .i64 0, .int .i64 0, .int .i64 0, .int .i64 0, .int .i64 0, .bool false, .int .i64 0, .int .i64 0, .int .i64 0, .int .i64 0, .int .i64 0]) 12 96 := by unfold Inf; kernel_rfl

theorem where_r (m : ImageV) (hr : rightS m = true) (w : World) (hm : ∀ i ∈ imgIs m, i.φ w) (hb : ImgB m) :
  C Try.prog 22 [.agg (imgCells m).toArray] w fun v w' =>
   (∃ a1 c1 a2 c2 a3 c3 a4 c4, v = .agg #[.slice a1 m.comps.length c1, .slice a2 m.comps.length c2, .slice a3 m.comps.length c3, .slice a4 m.shares.length c4, .int .i64 (pgEnd m + ((m.shares.length : Nat) : Int))] ∧
    ∀ i ∈ [arrI encR 2 a1 (codesTo m m.comps.length), arrI encR 2 a2 (datasTo m m.comps.length), arrI encR 2 a3 (heapsTo m m.comps.length), arrI encI 1 a4 (shsTo m m.shares.length)], i.φ w' ∧ ∀ b, i.fp b → w.heap.size ≤ b) ∧ Grow w w' := by
 refine C.mono (where_c m w hm hb) ?_
 rintro v w' ⟨⟨A, rfl, h1, h2, h3⟩, hk⟩
 have he := whereS_yes hr
 rw [he] at h1 h2
 refine ⟨⟨A.a1, A.c1, A.a2, A.c2, A.a3, A.c3, A.a4, A.c4, by rw [he, ← lay_v], fun i hi => ⟨h1 i hi, h2 i hi⟩⟩, hk⟩

theorem codesTo_get {m : ImageV} {n i : Nat} (h : i < (codesTo m n).length) : (codesTo m n)[i] = codeAt m i := by simp [codesTo]
theorem datasTo_get {m : ImageV} {n i : Nat} (h : i < (datasTo m n).length) : (datasTo m n)[i] = dataAt m i := by simp [datasTo]
theorem heapsTo_get {m : ImageV} {n i : Nat} (h : i < (heapsTo m n).length) : (heapsTo m n)[i] = heapAt m i := by simp [heapsTo]
theorem shsTo_get {m : ImageV} {n i : Nat} (h : i < (shsTo m n).length) : (shsTo m n)[i] = shAt m i := by simp [shsTo]
theorem shAt_b {m : ImageV} (h : RightOk m) {i : Nat} (hi : i < m.shares.length) : 0 ≤ shAt m i ∧ shAt m i ≤ 100000 := by
 have := pgEnd_b h; have := h.s4
 unfold shAt; omega
theorem codeAt_b {m : ImageV} (h : RightOk m) {i : Nat} (hi : i < m.comps.length) : 0 ≤ (codeAt m i).1 ∧ (codeAt m i).1 ≤ 100000 := by
 have := pgAt_b h i (by omega); have := h.n4
 unfold codeAt
 constructor
 ·show 0 ≤ pgAt m i * 256; omega
 ·show pgAt m i * 256 ≤ 100000; omega
theorem grants_no {m : ImageV} {k : Int} (h : (rightS m = false ∨ k < 0) ∨ ((m.comps.length : Nat) : Int) ≤ k) : grantsS m k = [] := by
 unfold grantsS
 rw [if_neg]
 rintro ⟨h1, h2, h3⟩
 rcases h with (h | h) | h
 ·rw [h1] at h; cases h
 ·omega
 ·omega
theorem grants_yes {m : ImageV} {k : Int} (h : rightS m = true) (h1 : 0 ≤ k) (h2 : k < m.comps.length) : grantsS m k = grTo m k m.shares.length := by
 unfold grantsS
 rw [if_pos ⟨h, h1, h2⟩]
theorem grants_len {m : ImageV} {k : Int} (h : rightS m = true) (h1 : 0 ≤ k) (h2 : k < m.comps.length) : 3 ≤ (grantsS m k).length := by
 rw [grants_yes h h1 h2]; exact (grTo_len _ _ _).1
theorem grants_01 {m : ImageV} {k : Int} (h : rightS m = true) (h1 : 0 ≤ k) (h2 : k < m.comps.length) (h3 : 3 ≤ (grantsS m k).length) : (grantsS m k)[0]'(by omega) = grantV (codeAt m k.toNat) 5 ∧ (grantsS m k)[1]'(by omega) = grantV (dataAt m k.toNat) 27 := by
 constructor
 ·rw [List.getElem_of_eq (grants_yes h h1 h2)]; rfl
 ·rw [List.getElem_of_eq (grants_yes h h1 h2)]; rfl
theorem link_ad {m : ImageV} (h : RightOk m) {k : LinkV} (hk : k ∈ m.links) : 0 ≤ k.ad ∧ k.ad ≤ 1024 := by
 have := linkS_ok (h.link k hk)
 have hc := h.comp _ (List.getElem_mem (by omega : k.to.toNat < m.comps.length))
 have := hc.lm
 have e := codeLen_at (m := m) (t := k.to) (by omega) (by omega)
 omega

set_option maxHeartbeats 2000000 in
/-- seizin/image.Grants -/
theorem grants_c (m : ImageV) (k : Int) (w : World) (hm : ∀ i ∈ imgIs m, i.φ w) (hb : ImgB m) :
  C Try.prog 25 [.agg (imgCells m).toArray, .int .i64 k] w fun v w' => (∃ a2 c2, v = .slice a2 (grantsS m k).length c2 ∧ (ownI 39 6 a2 c2 (grantsS m k).length ((grantsS m k).flatMap encCap)).φ w' ∧ ∀ x, (ownI 39 6 a2 c2 (grantsS m k).length ((grantsS m k).flatMap encCap)).fp x → w.heap.size ≤ x) ∧ Grow w w' := by
 have hs0 : St w (fun _ => False) w [] (imgIs m) := St.start w _ hm
 refine C_of_W [.tmp 4] 87 Try.func25 rfl Try.ntmps25 rfl rfl ?_
 refine W_seq (W_region ?_)
 refine L_cons rfl (O_box (v := .agg (imgCells m).toArray) (cs := (imgCells m)) hs0 rfl rfl rfl ?_)
 intro b1 w2 hb4 hs3
 refine L_cons rfl (O_assign (v := .slice none 0 0) rfl rfl ?_)
 refine L_nil (thenQ_n (W_seq (W_seq (W_region ?_))))
 refine L_cons rfl (O_load_agg (vs := (imgCells m)) rfl ag26 sz26 (Rd.of_blk (hs3.get 0 rfl) 0 6) rfl rfl ?_)
 refine L_cons rfl (O_call (args := [.agg (imgCells m).toArray]) rfl rfl rfl en14 (iright_c m _ (hs3.r) hb) ?_)
 rintro _ w5 ⟨rfl, hk7⟩
 have hs6 := hs3.keep hk7
 refine L_cons rfl (O_not (b := (rightS m)) rfl rfl ?_)
 refine L_cons rfl (O_move (v := .bool (!(rightS m))) rfl rfl ?_)
 refine L_guard_fp (v := .int .i64 k) rfl rfl rfl rfl (fun hg8 => O_move (v := .int .i64 k) rfl rfl ⟨rfl, rfl⟩) ?_
 refine L_guard_fp (v := .bool (decide (k < 0))) rfl rfl rfl rfl (fun hg9 => O_bin (k := .i64) (k' := .i64) (a := k) (b := 0) (show ev _ _ = .int .i64 k from if_pos hg9) rfl rfl b_lss ⟨rfl, rfl⟩) ?_
 refine L_cons rfl (O_pick rfl (pick_or _ _) rfl ?_)
 refine L_cons rfl (O_move (v := .bool ((!(rightS m)) || decide (k < 0))) rfl rfl ?_)
 refine L_guard_fp (v := .int .i64 k) rfl rfl rfl rfl (fun hg10 => O_move (v := .int .i64 k) rfl rfl ⟨rfl, rfl⟩) ?_
 refine L_guard_fp (v := .pointer (some ⟨b1, 3, none⟩)) rfl rfl rfl rfl (fun hg11 => O_fieldAddr rfl fd26_3 rfl (o' := 3) rfl rfl ⟨rfl, rfl⟩) ?_
 refine L_guard_fp (v := .slice m.ca m.comps.length m.ccap) rfl rfl rfl rfl (fun hg12 => O_load (v := .slice m.ca m.comps.length m.ccap) (show ev _ _ = .pointer (some ⟨b1, 3, none⟩) from if_pos hg12) ag22 (cell_of_blk (hs6.get 0 rfl) rfl) rfl ⟨rfl, rfl⟩) ?_
 refine L_guard_fp (v := .int .i64 ((m.comps.length : Nat) : Int)) rfl rfl rfl rfl (fun hg13 => O_len_slice (len := m.comps.length) (show ev _ _ = .slice m.ca m.comps.length m.ccap from if_pos hg13) un22 rfl ⟨rfl, rfl⟩) ?_
 refine L_guard_fp (v := .bool (decide (((m.comps.length : Nat) : Int) ≤ k))) rfl rfl rfl rfl (fun hg14 => O_bin (k := .i64) (k' := .i64) (a := k) (b := ((m.comps.length : Nat) : Int)) (show ev _ _ = .int .i64 k from if_pos hg14) (show ev _ _ = .int .i64 ((m.comps.length : Nat) : Int) from if_pos hg14) rfl b_geq ⟨rfl, rfl⟩) ?_
 refine L_cons rfl (O_pick rfl (pick_or _ _) rfl ?_)
 refine L_nil (thenQ_n ?_)
 refine W_cond (t := (((!(rightS m)) || decide (k < 0)) || (decide (((m.comps.length : Nat) : Int) ≤ k)))) rfl (fun hc15 => ?_) (fun hc15 => ?_)
 ·try simp only [Bool.and_eq_true, Bool.or_eq_true, Bool.not_eq_true', Bool.and_eq_false_iff, Bool.or_eq_false_iff, Bool.not_eq_false', decide_eq_true_eq, decide_eq_false_iff_not, Bool.and_eq_false_imp] at hc15
  refine W_seq (W_region ?_)
  refine L_cons rfl (O_assign (v := .slice none 0 0) rfl rfl ?_)
  refine L_nil (thenQ_n (W_ret (thenQ_r ?_)))
  refine ⟨.slice none 0 0, res1 rfl, ?_⟩
  have he := grants_no hc15
  exact ⟨⟨none, 0, by rw [he]; rfl, by rw [he]; exact ⟨rfl, Nat.le_refl _, .inl ⟨rfl, rfl⟩⟩, fun x ⟨o, e⟩ => by cases e⟩, hs6.base⟩
 ·try simp only [Bool.and_eq_true, Bool.or_eq_true, Bool.not_eq_true', Bool.and_eq_false_iff, Bool.or_eq_false_iff, Bool.not_eq_false', decide_eq_true_eq, decide_eq_false_iff_not, Bool.and_eq_false_imp] at hc15
  refine W_skip (thenQ_n (W_seq ?_))
  have hright : rightS m = true := hc15.1.1
  have hnn : 0 ≤ k ∧ k < m.comps.length := by have := hc15.1.2; have := hc15.2; omega
  have hok := rightS_ok hright
  have := hok.n4; have := hok.s4
  refine W_region ?_
  refine L_cons rfl (O_load_agg (vs := (imgCells m)) rfl ag26 sz26 (Rd.of_blk (hs6.get 0 rfl) 0 6) rfl rfl ?_)
  refine L_cons rfl (O_call (args := [.agg (imgCells m).toArray]) rfl rfl rfl en22 (where_r m hright _ (hs6.r) hb) ?_)
  rintro _ w24 ⟨⟨a16, c17, a18, c19, a20, c21, a22, c23, rfl, hr26⟩, hk27⟩
  have hs25 := hs6.addRf hk27 [arrI encR 2 a16 (codesTo m m.comps.length), arrI encR 2 a18 (datasTo m m.comps.length), arrI encR 2 a20 (heapsTo m m.comps.length), arrI encI 1 a22 (shsTo m m.shares.length)] hr26
  refine L_cons rfl (O_alloc (cs := [.slice none 0 0, .slice none 0 0, .slice none 0 0, .slice none 0 0, .int .i64 0]) hs25 zv45 rfl rfl ?_)
  intro b28 w29 hb31 hs30
  refine L_cons rfl (O_store (v := .agg #[.slice a16 m.comps.length c17, .slice a18 m.comps.length c19, .slice a20 m.comps.length c21, .slice a22 m.shares.length c23, .int .i64 (pgEnd m + ((m.shares.length : Nat) : Int))]) (vs := [.slice a16 m.comps.length c17, .slice a18 m.comps.length c19, .slice a20 m.comps.length c21, .slice a22 m.shares.length c23, .int .i64 (pgEnd m + ((m.shares.length : Nat) : Int))]) (cs' := [.slice a16 m.comps.length c17, .slice a18 m.comps.length c19, .slice a20 m.comps.length c21, .slice a22 m.shares.length c23, .int .i64 (pgEnd m + ((m.shares.length : Nat) : Int))]) hs30 0 rfl rfl rfl sz45 rfl rfl rfl rfl rfl ?_)
  intro w32 hs33
  refine L_nil (thenQ_n (W_seq ?_))
  obtain ⟨b34, o35, ha36, hs37⟩ := hs33.elem 0 rfl k.toNat (by rw [codesTo_len]; omega)
  rw [codesTo_get] at hs37
  obtain ⟨b38, o39, ha40, hs41⟩ := hs37.elem 2 rfl k.toNat (by rw [datasTo_len]; omega)
  rw [datasTo_get] at hs41
  refine W_par' mixed (show St _ _ _ [blk b28 [.slice a16 m.comps.length c17, .slice a18 m.comps.length c19, .slice a20 m.comps.length c21, .slice a22 m.shares.length c23, .int .i64 (pgEnd m + ((m.shares.length : Nat) : Int))] 45, blk b1 (imgCells m) 26] _ from hs41) (fun i_ => match i_ with | 19 => some ([45], fun vs_ => match vs_ with | [x45] => blk (vblk x45) [.bool true, .int .i64 ((codeAt m k.toNat).1), .int .i64 ((codeAt m k.toNat).2), .int .i64 ((codeAt m k.toNat).1), .int .i64 5, .int .i64 0, .bool true, .int .i64 ((dataAt m k.toNat).1), .int .i64 ((dataAt m k.toNat).2), .int .i64 ((dataAt m k.toNat).1), .int .i64 27, .int .i64 0, .bool true, .int .i64 (16 + k), .int .i64 ((16 + k) + 1), .int .i64 (16 + k), .int .i64 96, .int .i64 0] 39 | _ => emp) | 20 => some ([6], fun vs_ => match vs_ with | [x6] => blk (vblk x6) [.bool true, .int .i64 ((codeAt m k.toNat).1), .int .i64 ((codeAt m k.toNat).2), .int .i64 ((codeAt m k.toNat).1), .int .i64 5, .int .i64 0, .bool true, .int .i64 ((dataAt m k.toNat).1), .int .i64 ((dataAt m k.toNat).2), .int .i64 ((dataAt m k.toNat).1), .int .i64 27, .int .i64 0, .bool true, .int .i64 (16 + k), .int .i64 ((16 + k) + 1), .int .i64 (16 + k), .int .i64 96, .int .i64 0] 39 | _ => emp) | _ => none) (fun i_ => match i_ with | 20 => [19] | _ => []) (fun i_ => match i_ with | 1 => [21] | 7 => [21] | _ => []) (fun i_ => match i_ with | 1 => [0] | 3 => [1, 2] | 4 => [3] | 5 => [4] | 7 => [6] | 9 => [7, 8] | 10 => [9] | 11 => [10] | 13 => [12] | 15 => [14] | 16 => [15] | 17 => [13, 16] | 18 => [17] | 19 => [5, 11, 18] | 20 => [19] | _ => []) [20, 21, 22, 0, 1, 2, 3, 4, 5, 6, 7, 8, 9, 10, 11, 12, 13, 14, 15, 16, 17, 18, 23, 24, 25, 26, 27, 28, 29, 30, 31, 32, 33, 34, 35, 36, 37, 38, 39, 40, 41, 42, 43] [20] (fun i_ v_ => match i_ with | 0 => v_ = .pointer (some ⟨b28, 0, none⟩) | 1 => v_ = .slice a16 m.comps.length c17 | 2 => v_ = .int .i64 k | 3 => v_ = .pointer (some ⟨b34, o35 + k.toNat * 2, none⟩) | 4 => v_ = .agg #[.int .i64 ((codeAt m k.toNat).1), .int .i64 ((codeAt m k.toNat).2)] | 5 => v_ = .agg #[.bool true, .int .i64 ((codeAt m k.toNat).1), .int .i64 ((codeAt m k.toNat).2), .int .i64 ((codeAt m k.toNat).1), .int .i64 5, .int .i64 0] | 6 => v_ = .pointer (some ⟨b28, 1, none⟩) | 7 => v_ = .slice a18 m.comps.length c19 | 8 => v_ = .int .i64 k | 9 => v_ = .pointer (some ⟨b38, o39 + k.toNat * 2, none⟩) | 10 => v_ = .agg #[.int .i64 ((dataAt m k.toNat).1), .int .i64 ((dataAt m k.toNat).2)] | 11 => v_ = .agg #[.bool true, .int .i64 ((dataAt m k.toNat).1), .int .i64 ((dataAt m k.toNat).2), .int .i64 ((dataAt m k.toNat).1), .int .i64 27, .int .i64 0] | 12 => v_ = .int .i64 k | 13 => v_ = .int .i64 (16 + k) | 14 => v_ = .int .i64 k | 15 => v_ = .int .i64 (16 + k) | 16 => v_ = .int .i64 ((16 + k) + 1) | 17 => v_ = .agg #[.int .i64 (16 + k), .int .i64 ((16 + k) + 1)] | 18 => v_ = .agg #[.bool true, .int .i64 (16 + k), .int .i64 ((16 + k) + 1), .int .i64 (16 + k), .int .i64 96, .int .i64 0] | 19 => ∃ b51 : Nat, v_ = .slice (some ⟨b51, 0, none⟩) 3 3 | 20 => ∃ b55 : Nat, v_ = .slice (some ⟨b55, 0, none⟩) 3 3 | _ => True) (by kernel_rfl) (by kernel_rfl) ⟨?_, ?_, ?_, ?_, ?_, ?_, ?_, ?_, ?_, ?_, ?_, ?_, ?_, ?_, ?_, ?_, ?_, ?_, ?_, ?_, ?_, trivial⟩ ?_
  ·intro f0_ w0_ X0_ hfr hus hrd hst
   have hb5 : f0_ 5 = .pointer (some ⟨b28, 0, none⟩) := (hfr 5 rfl)
   refine og_none rfl (O_fieldAddr hb5 fd45_0 rfl (o' := 0) rfl rfl ?_)
   exact ⟨.pointer (some ⟨b28, 0, none⟩), rfl, rfl, hst⟩
  ·intro f1_ w1_ X1_ hfr hus hrd hst
   obtain ⟨hu0, -⟩ := hus
   have hu0 : f1_ 26 = .pointer (some ⟨b28, 0, none⟩) := hu0
   obtain ⟨hr21, -⟩ := hrd
   have hr21 : Item.φ (blk b28 [.slice a16 m.comps.length c17, .slice a18 m.comps.length c19, .slice a20 m.comps.length c21, .slice a22 m.shares.length c23, .int .i64 (pgEnd m + ((m.shares.length : Nat) : Int))] 45) w1_ := hr21
   refine og_none rfl (O_load (v := .slice a16 m.comps.length c17) hu0 ag42 (cell_of_blk (hr21) rfl) rfl ?_)
   exact ⟨.slice a16 m.comps.length c17, rfl, rfl, hst⟩
  ·intro f2_ w2_ X2_ hfr hus hrd hst
   have hb1 : f2_ 1 = .int .i64 k := (hfr 1 rfl)
   refine og_none rfl (O_move (v := .int .i64 k) hb1 rfl ?_)
   exact ⟨.int .i64 k, rfl, rfl, hst⟩
  ·intro f3_ w3_ X3_ hfr hus hrd hst
   obtain ⟨hu1, hu2, -⟩ := hus
   have hu1 : f3_ 27 = .slice a16 m.comps.length c17 := hu1
   have hu2 : f3_ 28 = .int .i64 k := hu2
   refine og_none rfl (O_indexAddr_at hu1 ha36 hu2 un42 sz51 (by omega) (by omega) (o' := o35 + k.toNat * 2) (by omega) rfl ?_)
   exact ⟨.pointer (some ⟨b34, o35 + k.toNat * 2, none⟩), rfl, rfl, hst⟩
  ·intro f4_ w4_ X4_ hfr hus hrd hst
   obtain ⟨hu3, -⟩ := hus
   have hu3 : f4_ 29 = .pointer (some ⟨b34, o35 + k.toNat * 2, none⟩) := hu3
   refine og_none rfl (O_load_agg (vs := [.int .i64 ((codeAt m k.toNat).1), .int .i64 ((codeAt m k.toNat).2)]) hu3 ag51 sz51 ((hst.getR 1 rfl).2) rfl rfl ?_)
   exact ⟨.agg #[.int .i64 ((codeAt m k.toNat).1), .int .i64 ((codeAt m k.toNat).2)], rfl, rfl, hst⟩
  ·intro f5_ w5_ X5_ hfr hus hrd hst
   obtain ⟨hu4, -⟩ := hus
   have hu4 : f5_ 30 = .agg #[.int .i64 ((codeAt m k.toNat).1), .int .i64 ((codeAt m k.toNat).2)] := hu4
   refine og_none rfl (O_call (args := [.agg #[.int .i64 ((codeAt m k.toNat).1), .int .i64 ((codeAt m k.toNat).2)], .int .i64 5]) rfl (by simp only [List.map_cons, List.map_nil, List.nil_append, List.cons_append, List.append_nil, ev, Value.cells, hu4]) rfl en45 (grant_c ((codeAt m k.toNat).1) ((codeAt m k.toNat).2) 5 _) ?_)
   rintro _ w42 ⟨rfl, hk44⟩
   have hs43 := hst.keep hk44
   exact ⟨.agg #[.bool true, .int .i64 ((codeAt m k.toNat).1), .int .i64 ((codeAt m k.toNat).2), .int .i64 ((codeAt m k.toNat).1), .int .i64 5, .int .i64 0], rfl, rfl, hs43⟩
  ·intro f6_ w6_ X6_ hfr hus hrd hst
   have hb5 : f6_ 5 = .pointer (some ⟨b28, 0, none⟩) := (hfr 5 rfl)
   refine og_none rfl (O_fieldAddr hb5 fd45_1 rfl (o' := 1) rfl rfl ?_)
   exact ⟨.pointer (some ⟨b28, 1, none⟩), rfl, rfl, hst⟩
  ·intro f7_ w7_ X7_ hfr hus hrd hst
   obtain ⟨hu6, -⟩ := hus
   have hu6 : f7_ 32 = .pointer (some ⟨b28, 1, none⟩) := hu6
   obtain ⟨hr21, -⟩ := hrd
   have hr21 : Item.φ (blk b28 [.slice a16 m.comps.length c17, .slice a18 m.comps.length c19, .slice a20 m.comps.length c21, .slice a22 m.shares.length c23, .int .i64 (pgEnd m + ((m.shares.length : Nat) : Int))] 45) w7_ := hr21
   refine og_none rfl (O_load (v := .slice a18 m.comps.length c19) hu6 ag42 (cell_of_blk (hr21) rfl) rfl ?_)
   exact ⟨.slice a18 m.comps.length c19, rfl, rfl, hst⟩
  ·intro f8_ w8_ X8_ hfr hus hrd hst
   have hb1 : f8_ 1 = .int .i64 k := (hfr 1 rfl)
   refine og_none rfl (O_move (v := .int .i64 k) hb1 rfl ?_)
   exact ⟨.int .i64 k, rfl, rfl, hst⟩
  ·intro f9_ w9_ X9_ hfr hus hrd hst
   obtain ⟨hu7, hu8, -⟩ := hus
   have hu7 : f9_ 33 = .slice a18 m.comps.length c19 := hu7
   have hu8 : f9_ 34 = .int .i64 k := hu8
   refine og_none rfl (O_indexAddr_at hu7 ha40 hu8 un42 sz51 (by omega) (by omega) (o' := o39 + k.toNat * 2) (by omega) rfl ?_)
   exact ⟨.pointer (some ⟨b38, o39 + k.toNat * 2, none⟩), rfl, rfl, hst⟩
  ·intro f10_ w10_ X10_ hfr hus hrd hst
   obtain ⟨hu9, -⟩ := hus
   have hu9 : f10_ 35 = .pointer (some ⟨b38, o39 + k.toNat * 2, none⟩) := hu9
   refine og_none rfl (O_load_agg (vs := [.int .i64 ((dataAt m k.toNat).1), .int .i64 ((dataAt m k.toNat).2)]) hu9 ag51 sz51 ((hst.getR 0 rfl).2) rfl rfl ?_)
   exact ⟨.agg #[.int .i64 ((dataAt m k.toNat).1), .int .i64 ((dataAt m k.toNat).2)], rfl, rfl, hst⟩
  ·intro f11_ w11_ X11_ hfr hus hrd hst
   obtain ⟨hu10, -⟩ := hus
   have hu10 : f11_ 36 = .agg #[.int .i64 ((dataAt m k.toNat).1), .int .i64 ((dataAt m k.toNat).2)] := hu10
   refine og_none rfl (O_call (args := [.agg #[.int .i64 ((dataAt m k.toNat).1), .int .i64 ((dataAt m k.toNat).2)], .int .i64 27]) rfl (by simp only [List.map_cons, List.map_nil, List.nil_append, List.cons_append, List.append_nil, ev, Value.cells, hu10]) rfl en45 (grant_c ((dataAt m k.toNat).1) ((dataAt m k.toNat).2) 27 _) ?_)
   rintro _ w45 ⟨rfl, hk47⟩
   have hs46 := hst.keep hk47
   exact ⟨.agg #[.bool true, .int .i64 ((dataAt m k.toNat).1), .int .i64 ((dataAt m k.toNat).2), .int .i64 ((dataAt m k.toNat).1), .int .i64 27, .int .i64 0], rfl, rfl, hs46⟩
  ·intro f12_ w12_ X12_ hfr hus hrd hst
   have hb1 : f12_ 1 = .int .i64 k := (hfr 1 rfl)
   refine og_none rfl (O_move (v := .int .i64 k) hb1 rfl ?_)
   exact ⟨.int .i64 k, rfl, rfl, hst⟩
  ·intro f13_ w13_ X13_ hfr hus hrd hst
   obtain ⟨hu12, -⟩ := hus
   have hu12 : f13_ 38 = .int .i64 k := hu12
   refine og_none rfl (O_bin (v := .int .i64 (16 + k)) rfl hu12 rfl (b_add (wrap_i64e (by omega) (by omega))) ?_)
   exact ⟨.int .i64 (16 + k), rfl, rfl, hst⟩
  ·intro f14_ w14_ X14_ hfr hus hrd hst
   have hb1 : f14_ 1 = .int .i64 k := (hfr 1 rfl)
   refine og_none rfl (O_move (v := .int .i64 k) hb1 rfl ?_)
   exact ⟨.int .i64 k, rfl, rfl, hst⟩
  ·intro f15_ w15_ X15_ hfr hus hrd hst
   obtain ⟨hu14, -⟩ := hus
   have hu14 : f15_ 40 = .int .i64 k := hu14
   refine og_none rfl (O_bin (v := .int .i64 (16 + k)) rfl hu14 rfl (b_add (wrap_i64e (by omega) (by omega))) ?_)
   exact ⟨.int .i64 (16 + k), rfl, rfl, hst⟩
  ·intro f16_ w16_ X16_ hfr hus hrd hst
   obtain ⟨hu15, -⟩ := hus
   have hu15 : f16_ 41 = .int .i64 (16 + k) := hu15
   refine og_none rfl (O_bin (v := .int .i64 ((16 + k) + 1)) hu15 rfl rfl (b_add (wrap_i64e (by omega) (by omega))) ?_)
   exact ⟨.int .i64 ((16 + k) + 1), rfl, rfl, hst⟩
  ·intro f17_ w17_ X17_ hfr hus hrd hst
   obtain ⟨hu13, hu16, -⟩ := hus
   have hu13 : f17_ 39 = .int .i64 (16 + k) := hu13
   have hu16 : f17_ 42 = .int .i64 ((16 + k) + 1) := hu16
   refine og_none rfl (O_build_arr (ps := [(0, [.int .i64 (16 + k)]), (1, [.int .i64 ((16 + k) + 1)])]) (zero := [.int .i64 0, .int .i64 0]) (cells := [.int .i64 (16 + k), .int .i64 ((16 + k) + 1)]) un51 sz3 zv51 rfl (by simp only [List.map_cons, List.map_nil, List.nil_append, List.cons_append, List.append_nil, ev, Value.cells, hu13, hu16]) rfl rfl ?_)
   exact ⟨.agg #[.int .i64 (16 + k), .int .i64 ((16 + k) + 1)], rfl, rfl, hst⟩
  ·intro f18_ w18_ X18_ hfr hus hrd hst
   obtain ⟨hu17, -⟩ := hus
   have hu17 : f18_ 43 = .agg #[.int .i64 (16 + k), .int .i64 ((16 + k) + 1)] := hu17
   refine og_none rfl (O_call (args := [.agg #[.int .i64 (16 + k), .int .i64 ((16 + k) + 1)], .int .i64 96]) rfl (by simp only [List.map_cons, List.map_nil, List.nil_append, List.cons_append, List.append_nil, ev, Value.cells, hu17]) rfl en45 (grant_c (16 + k) ((16 + k) + 1) 96 _) ?_)
   rintro _ w48 ⟨rfl, hk50⟩
   have hs49 := hst.keep hk50
   exact ⟨.agg #[.bool true, .int .i64 (16 + k), .int .i64 ((16 + k) + 1), .int .i64 (16 + k), .int .i64 96, .int .i64 0], rfl, rfl, hs49⟩
  ·intro f19_ w19_ X19_ hfr hus hrd hst
   obtain ⟨hu5, hu11, hu18, -⟩ := hus
   have hu5 : f19_ 31 = .agg #[.bool true, .int .i64 ((codeAt m k.toNat).1), .int .i64 ((codeAt m k.toNat).2), .int .i64 ((codeAt m k.toNat).1), .int .i64 5, .int .i64 0] := hu5
   have hu11 : f19_ 37 = .agg #[.bool true, .int .i64 ((dataAt m k.toNat).1), .int .i64 ((dataAt m k.toNat).2), .int .i64 ((dataAt m k.toNat).1), .int .i64 27, .int .i64 0] := hu11
   have hu18 : f19_ 44 = .agg #[.bool true, .int .i64 (16 + k), .int .i64 ((16 + k) + 1), .int .i64 (16 + k), .int .i64 96, .int .i64 0] := hu18
   refine og_none rfl (O_buildSliceR (zl := [.bool false, .int .i64 0, .int .i64 0, .int .i64 0, .int .i64 0, .int .i64 0]) (zs := [.bool false, .int .i64 0, .int .i64 0, .int .i64 0, .int .i64 0, .int .i64 0, .bool false, .int .i64 0, .int .i64 0, .int .i64 0, .int .i64 0, .int .i64 0, .bool false, .int .i64 0, .int .i64 0, .int .i64 0, .int .i64 0, .int .i64 0]) (ps := [(0, [.bool true, .int .i64 ((codeAt m k.toNat).1), .int .i64 ((codeAt m k.toNat).2), .int .i64 ((codeAt m k.toNat).1), .int .i64 5, .int .i64 0]), (1, [.bool true, .int .i64 ((dataAt m k.toNat).1), .int .i64 ((dataAt m k.toNat).2), .int .i64 ((dataAt m k.toNat).1), .int .i64 27, .int .i64 0]), (2, [.bool true, .int .i64 (16 + k), .int .i64 ((16 + k) + 1), .int .i64 (16 + k), .int .i64 96, .int .i64 0])]) (cs := [.bool true, .int .i64 ((codeAt m k.toNat).1), .int .i64 ((codeAt m k.toNat).2), .int .i64 ((codeAt m k.toNat).1), .int .i64 5, .int .i64 0, .bool true, .int .i64 ((dataAt m k.toNat).1), .int .i64 ((dataAt m k.toNat).2), .int .i64 ((dataAt m k.toNat).1), .int .i64 27, .int .i64 0, .bool true, .int .i64 (16 + k), .int .i64 ((16 + k) + 1), .int .i64 (16 + k), .int .i64 96, .int .i64 0]) hst un48 sz39 zv39 rfl rfl rfl rfl (by simp only [List.map_cons, List.map_nil, List.nil_append, List.cons_append, List.append_nil, ev, Value.cells, hu5, hu11, hu18]) rfl rfl ?_)
   intro b51 w52 hb54 hs53
   refine ⟨.slice (some ⟨b51, 0, none⟩) 3 3, rfl, ⟨_, rfl⟩, ?_⟩
   show St _ _ _ ((blk (vblk ((upd f19_ 45 (.slice (some ⟨b51, 0, none⟩) 3 3)) 45)) [.bool true, .int .i64 ((codeAt m k.toNat).1), .int .i64 ((codeAt m k.toNat).2), .int .i64 ((codeAt m k.toNat).1), .int .i64 5, .int .i64 0, .bool true, .int .i64 ((dataAt m k.toNat).1), .int .i64 ((dataAt m k.toNat).2), .int .i64 ((dataAt m k.toNat).1), .int .i64 27, .int .i64 0, .bool true, .int .i64 (16 + k), .int .i64 ((16 + k) + 1), .int .i64 (16 + k), .int .i64 96, .int .i64 0] 39) :: X19_) _
   exact hs53
  ·intro f20_ w20_ X20_ hfr hus hrd hst
   obtain ⟨hu19, -⟩ := hus
   obtain ⟨b51, hu19⟩ := (show ∃ b51 : Nat, f20_ 45 = .slice (some ⟨b51, 0, none⟩) 3 3 from hu19)
   have hst : St _ _ _ ((blk (vblk (f20_ 45)) [.bool true, .int .i64 ((codeAt m k.toNat).1), .int .i64 ((codeAt m k.toNat).2), .int .i64 ((codeAt m k.toNat).1), .int .i64 5, .int .i64 0, .bool true, .int .i64 ((dataAt m k.toNat).1), .int .i64 ((dataAt m k.toNat).2), .int .i64 ((dataAt m k.toNat).1), .int .i64 27, .int .i64 0, .bool true, .int .i64 (16 + k), .int .i64 ((16 + k) + 1), .int .i64 (16 + k), .int .i64 96, .int .i64 0] 39) :: X20_) _ := hst
   rw [hu19] at hst; simp only [vblk, vaddr, vcap, vcell] at hst
   refine og_none rfl (O_assign (v := .slice (some ⟨b51, 0, none⟩) 3 3) hu19 rfl ?_)
   refine ⟨.slice (some ⟨b51, 0, none⟩) 3 3, rfl, ⟨_, rfl⟩, ?_⟩
   show St _ _ _ ((blk (vblk ((upd f20_ 6 (.slice (some ⟨b51, 0, none⟩) 3 3)) 6)) [.bool true, .int .i64 ((codeAt m k.toNat).1), .int .i64 ((codeAt m k.toNat).2), .int .i64 ((codeAt m k.toNat).1), .int .i64 5, .int .i64 0, .bool true, .int .i64 ((dataAt m k.toNat).1), .int .i64 ((dataAt m k.toNat).2), .int .i64 ((dataAt m k.toNat).1), .int .i64 27, .int .i64 0, .bool true, .int .i64 (16 + k), .int .i64 ((16 + k) + 1), .int .i64 (16 + k), .int .i64 96, .int .i64 0] 39) :: X20_) _
   exact hst
  intro f56 w57 hfr hus hs58
  obtain ⟨hu20, -⟩ := hus
  obtain ⟨b55, hu20⟩ := (show ∃ b55 : Nat, f56 6 = .slice (some ⟨b55, 0, none⟩) 3 3 from hu20)
  have hs58 : St _ _ _ [blk (vblk (f56 6)) [.bool true, .int .i64 ((codeAt m k.toNat).1), .int .i64 ((codeAt m k.toNat).2), .int .i64 ((codeAt m k.toNat).1), .int .i64 5, .int .i64 0, .bool true, .int .i64 ((dataAt m k.toNat).1), .int .i64 ((dataAt m k.toNat).2), .int .i64 ((dataAt m k.toNat).1), .int .i64 27, .int .i64 0, .bool true, .int .i64 (16 + k), .int .i64 ((16 + k) + 1), .int .i64 (16 + k), .int .i64 96, .int .i64 0] 39, blk b28 [.slice a16 m.comps.length c17, .slice a18 m.comps.length c19, .slice a20 m.comps.length c21, .slice a22 m.shares.length c23, .int .i64 (pgEnd m + ((m.shares.length : Nat) : Int))] 45, blk b1 (imgCells m) 26] _ := hs58
  simp only [hu20, vblk, vaddr, vcap, vcell] at hs58
  have hs58 : St _ _ _ [blk b55 [.bool true, .int .i64 ((codeAt m k.toNat).1), .int .i64 ((codeAt m k.toNat).2), .int .i64 ((codeAt m k.toNat).1), .int .i64 5, .int .i64 0, .bool true, .int .i64 ((dataAt m k.toNat).1), .int .i64 ((dataAt m k.toNat).2), .int .i64 ((dataAt m k.toNat).1), .int .i64 27, .int .i64 0, .bool true, .int .i64 (16 + k), .int .i64 ((16 + k) + 1), .int .i64 (16 + k), .int .i64 96, .int .i64 0] 39, blk b28 [.slice a16 m.comps.length c17, .slice a18 m.comps.length c19, .slice a20 m.comps.length c21, .slice a22 m.shares.length c23, .int .i64 (pgEnd m + ((m.shares.length : Nat) : Int))] 45, blk b1 (imgCells m) 26] _ := hs58
  have e59 : f56 1 = .int .i64 k := (hfr 1 rfl)
  rewrite [upd_id e59]
  have e60 : f56 2 = .pointer (some ⟨b1, 0, none⟩) := (hfr 2 rfl)
  rewrite [upd_id e60]
  have e61 : f56 5 = .pointer (some ⟨b28, 0, none⟩) := (hfr 5 rfl)
  rewrite [upd_id e61]
  rewrite [upd_id hu20]
  refine thenQ_n (W_seq (W_seq (W_region ?_)))
  refine L_cons rfl (O_fieldAddr rfl fd26_5 rfl (o' := 5) rfl rfl ?_)
  refine L_cons rfl (O_load (v := .slice m.sa m.shares.length m.scap) rfl ag24 (cell_of_blk (hs58.get 2 rfl) rfl) rfl ?_)
  refine L_cons rfl (O_len_slice (len := m.shares.length) rfl un24 rfl ?_)
  refine L_cons rfl (O_move (v := .int .i64 0) rfl rfl ?_)
  refine L_nil (thenQ_n (W_block ?_))
  have hs62 := hs58.popR
  have hs63 := hs62.popR
  have hs64 := hs63.ownBlk 0 rfl 6 3 rfl (by decide)
  have hs65 : St w (fun _ => False) w57 [ownI 39 6 (some ⟨b55, 0, none⟩) 3 ((grTo m k 0).length) ((grTo m k 0).flatMap encCap), blk b28 [.slice a16 m.comps.length c17, .slice a18 m.comps.length c19, .slice a20 m.comps.length c21, .slice a22 m.shares.length c23, .int .i64 (pgEnd m + ((m.shares.length : Nat) : Int))] 45, blk b1 (imgCells m) 26] [arrI encR 2 a16 (codesTo m m.comps.length), arrI encR 2 a18 (datasTo m m.comps.length), arrI encR 2 a20 (heapsTo m m.comps.length), arrI encI 1 a22 (shsTo m m.shares.length), arrI encComp 2 m.ca m.comps, arrI encLink 3 m.la m.links, arrI encShare 2 m.sa m.shares, codesI m.comps] := by exact hs64
  refine W_loopm (fun m_ f_ w_ => ∃ i : Nat, ∃ a6 : Option Addr, ∃ c6 : Nat, m_ = m.shares.length - i ∧ (i ≤ m.shares.length) ∧ f_ 1 = .int .i64 k ∧ f_ 5 = .pointer (some ⟨b28, 0, none⟩) ∧ f_ 6 = .slice a6 ((grTo m k i).length) c6 ∧ f_ 47 = .slice m.sa m.shares.length m.scap ∧ f_ 48 = .int .i64 ((m.shares.length : Nat) : Int) ∧ f_ 49 = .int .i64 ((i : Nat) : Int) ∧ St w (fun _ => False) w_ [ownI 39 6 a6 c6 ((grTo m k i).length) ((grTo m k i).flatMap encCap), blk b28 [.slice a16 m.comps.length c17, .slice a18 m.comps.length c19, .slice a20 m.comps.length c21, .slice a22 m.shares.length c23, .int .i64 (pgEnd m + ((m.shares.length : Nat) : Int))] 45, blk b1 (imgCells m) 26] [arrI encR 2 a16 (codesTo m m.comps.length), arrI encR 2 a18 (datasTo m m.comps.length), arrI encR 2 a20 (heapsTo m m.comps.length), arrI encI 1 a22 (shsTo m m.shares.length), arrI encComp 2 m.ca m.comps, arrI encLink 3 m.la m.links, arrI encShare 2 m.sa m.shares, codesI m.comps]) ?_ ?_
  ·exact ⟨_, 0, (some ⟨b55, 0, none⟩), 3, rfl, by omega, rfl, rfl, rfl, rfl, rfl, rfl, hs65⟩
  ·intro m69 f66 w67; rintro ⟨i, a6, c6, rfl, hi, e70, e71, e72, e73, e74, e75, hs68⟩
   rewrite [upd_id e70]
   rewrite [upd_id e71]
   rewrite [upd_id e72]
   rewrite [upd_id e73]
   rewrite [upd_id e74]
   rewrite [upd_id e75]
   refine W_seq ?_
   skip
   refine W_region ?_
   refine L_cons rfl (O_bin (k := .i64) (k' := .i64) (a := ((i : Nat) : Int)) (b := ((m.shares.length : Nat) : Int)) rfl rfl rfl b_lss ?_)
   refine L_nil (thenQ_n (W_seq ?_))
   refine W_cond_d rfl (fun hc76 => ?_) (fun hc76 => ?_)
   ·refine W_skip (thenQ_n (W_seq (W_block (W_seq (W_region ?_)))))
    refine L_cons rfl (O_move (v := .int .i64 ((i : Nat) : Int)) rfl rfl ?_)
    obtain ⟨b77, o78, ha79, hs80⟩ := hs68.elem 6 rfl i (by omega)
    refine L_cons rfl (O_indexAddr_at rfl ha79 rfl un24 sz70 (by omega) (by omega) (o' := o78 + i * 2) (by omega) rfl ?_)
    refine L_cons rfl (O_load_agg (vs := [.int .i64 ((m.shares[i]'(by omega)).rd), .int .i64 ((m.shares[i]'(by omega)).wr)]) rfl ag70 sz70 ((hs80.getR 0 rfl).2) rfl rfl ?_)
    refine L_cons rfl (O_alloc (cs := [.int .i64 0, .int .i64 0]) hs80 zv70 rfl rfl ?_)
    intro b81 w82 hb84 hs83
    refine L_cons rfl (O_assign (v := .int .i64 ((i : Nat) : Int)) rfl rfl ?_)
    refine L_cons rfl (O_store (v := .agg #[.int .i64 ((m.shares[i]'(by omega)).rd), .int .i64 ((m.shares[i]'(by omega)).wr)]) (vs := [.int .i64 ((m.shares[i]'(by omega)).rd), .int .i64 ((m.shares[i]'(by omega)).wr)]) (cs' := [.int .i64 ((m.shares[i]'(by omega)).rd), .int .i64 ((m.shares[i]'(by omega)).wr)]) hs83 0 rfl rfl rfl sz70 rfl rfl rfl rfl rfl ?_)
    intro w85 hs86
    refine L_nil (thenQ_n (W_seq (W_region ?_)))
    refine L_cons rfl (O_assign (v := .int .i64 1) rfl rfl ?_)
    refine L_nil (thenQ_n (W_seq (W_seq (W_region ?_))))
    refine L_cons rfl (O_fieldAddr rfl fd70_1 rfl (o' := 1) rfl rfl ?_)
    refine L_cons rfl (O_load (v := .int .i64 ((m.shares[i]'(by omega)).wr)) rfl ag3 (cell_of_blk (hs86.get 0 rfl) rfl) rfl ?_)
    refine L_cons rfl (O_move (v := .int .i64 k) rfl rfl ?_)
    refine L_cons rfl (O_bin (v := .int .i64 ((m.shares[i]'(by omega)).wr / 2 ^ k.toNat)) rfl rfl rfl (b_shr (by omega) (shr_bit (by omega))) ?_)
    refine L_cons rfl (O_bin (v := .int .i64 (bitS (m.shares[i]'(by omega)).wr k)) rfl rfl rfl (b_and (and_one _)) ?_)
    refine L_cons rfl (O_bin (k := .i64) (k' := .i64) (a := (bitS (m.shares[i]'(by omega)).wr k)) (b := 1) rfl rfl rfl b_eql ?_)
    refine L_nil (thenQ_n ?_)
    refine W_cond_d rfl (fun hc87 => ?_) (fun hc87 => ?_)
    ·refine W_region ?_
     refine L_cons rfl (O_move (v := .int .i64 1) rfl rfl ?_)
     refine L_cons rfl (O_bin (v := .int .i64 3) rfl rfl rfl (b_or (by rfl)) ?_)
     refine L_cons rfl (O_assign (v := .int .i64 3) rfl rfl ?_)
     refine L_nil (thenQ_n (W_seq (W_region ?_)))
     refine L_cons rfl (O_fieldAddr rfl fd70_0 rfl (o' := 0) rfl rfl ?_)
     refine L_cons rfl (O_load (v := .int .i64 ((m.shares[i]'(by omega)).rd)) rfl ag3 (cell_of_blk (hs86.get 0 rfl) rfl) rfl ?_)
     refine L_cons rfl (O_move (v := .int .i64 k) rfl rfl ?_)
     refine L_cons rfl (O_bin (v := .int .i64 ((m.shares[i]'(by omega)).rd / 2 ^ k.toNat)) rfl rfl rfl (b_shr (by omega) (shr_bit (by omega))) ?_)
     refine L_cons rfl (O_bin (v := .int .i64 (bitS (m.shares[i]'(by omega)).rd k)) rfl rfl rfl (b_and (and_one _)) ?_)
     refine L_cons rfl (O_bin (k := .i64) (k' := .i64) (a := (bitS (m.shares[i]'(by omega)).rd k)) (b := 1) rfl rfl rfl b_eql ?_)
     refine L_nil (thenQ_n ?_)
     refine W_cond_d rfl (fun hc88 => ?_) (fun hc88 => ?_)
     ·have hsb := shAt_b hok (i := i) (by omega)
      obtain ⟨b89, o90, ha91, hs92⟩ := hs86.elem 4 rfl i (by rw [shsTo_len]; omega)
      rw [shsTo_get] at hs92
      refine W_par' mixed (show St _ _ _ [blk b81 [.int .i64 ((m.shares[i]'(by omega)).rd), .int .i64 ((m.shares[i]'(by omega)).wr)] 70, ownI 39 6 a6 c6 ((grTo m k i).length) ((grTo m k i).flatMap encCap), blk b28 [.slice a16 m.comps.length c17, .slice a18 m.comps.length c19, .slice a20 m.comps.length c21, .slice a22 m.shares.length c23, .int .i64 (pgEnd m + ((m.shares.length : Nat) : Int))] 45, blk b1 (imgCells m) 26] _ from hs92) (fun i_ => match i_ with | 15 => some ([83], fun vs_ => match vs_ with | [x83] => blk (vblk x83) [.bool true, .int .i64 (shAt m i), .int .i64 ((shAt m i) + 256), .int .i64 (shAt m i), .int .i64 3, .int .i64 0] 39 | _ => emp) | 16 => some ([84], fun vs_ => match vs_ with | [x84] => ownI 39 6 (vaddr x84) (vcap x84) ((grTo m k (i + 1)).length) ((grTo m k (i + 1)).flatMap encCap) | _ => emp) | 17 => some ([6], fun vs_ => match vs_ with | [x6] => ownI 39 6 (vaddr x6) (vcap x6) ((grTo m k (i + 1)).length) ((grTo m k (i + 1)).flatMap encCap) | _ => emp) | _ => none) (fun i_ => match i_ with | 16 => [19] | 17 => [16] | _ => []) (fun i_ => match i_ with | 2 => [20] | 7 => [20] | 16 => [15] | _ => []) (fun i_ => match i_ with | 2 => [1] | 4 => [2, 3] | 5 => [4] | 7 => [6] | 9 => [7, 8] | 10 => [9] | 11 => [10] | 12 => [5, 11] | 14 => [12, 13] | 15 => [14] | 16 => [0, 15] | 17 => [16] | _ => []) [15, 18, 17, 20, 21, 0, 1, 2, 3, 4, 5, 6, 7, 8, 9, 10, 11, 12, 13, 14, 22, 23, 24, 25, 26, 27, 28, 29, 30, 31, 32, 33, 34, 35, 36, 37, 38, 39] [15, 17] (fun i_ v_ => match i_ with | 0 => v_ = .slice a6 ((grTo m k i).length) c6 | 1 => v_ = .pointer (some ⟨b28, 3, none⟩) | 2 => v_ = .slice a22 m.shares.length c23 | 3 => v_ = .int .i64 ((i : Nat) : Int) | 4 => v_ = .pointer (some ⟨b89, o90 + i * 1, none⟩) | 5 => v_ = .int .i64 (shAt m i) | 6 => v_ = .pointer (some ⟨b28, 3, none⟩) | 7 => v_ = .slice a22 m.shares.length c23 | 8 => v_ = .int .i64 ((i : Nat) : Int) | 9 => v_ = .pointer (some ⟨b89, o90 + i * 1, none⟩) | 10 => v_ = .int .i64 (shAt m i) | 11 => v_ = .int .i64 ((shAt m i) + 256) | 12 => v_ = .agg #[.int .i64 (shAt m i), .int .i64 ((shAt m i) + 256)] | 13 => v_ = .int .i64 3 | 14 => v_ = .agg #[.bool true, .int .i64 (shAt m i), .int .i64 ((shAt m i) + 256), .int .i64 (shAt m i), .int .i64 3, .int .i64 0] | 15 => ∃ b96 : Nat, v_ = .slice (some ⟨b96, 0, none⟩) 1 1 | 16 => ∃ a100 : Option Addr, ∃ c101 : Nat, v_ = .slice a100 ((grTo m k (i + 1)).length) c101 | 17 => ∃ a104 : Option Addr, ∃ c105 : Nat, v_ = .slice a104 ((grTo m k (i + 1)).length) c105 | _ => True) (by kernel_rfl) (by kernel_rfl) ⟨?_, ?_, ?_, ?_, ?_, ?_, ?_, ?_, ?_, ?_, ?_, ?_, ?_, ?_, ?_, ?_, ?_, ?_, trivial⟩ ?_
      ·intro f0_ w0_ X0_ hfr hus hrd hst
       have hb6 : f0_ 6 = .slice a6 ((grTo m k i).length) c6 := (hfr 6 rfl)
       refine og_none rfl (O_move (v := .slice a6 ((grTo m k i).length) c6) hb6 rfl ?_)
       exact ⟨.slice a6 ((grTo m k i).length) c6, rfl, rfl, hst⟩
      ·intro f1_ w1_ X1_ hfr hus hrd hst
       have hb5 : f1_ 5 = .pointer (some ⟨b28, 0, none⟩) := (hfr 5 rfl)
       refine og_none rfl (O_fieldAddr hb5 fd45_3 rfl (o' := 3) rfl rfl ?_)
       exact ⟨.pointer (some ⟨b28, 3, none⟩), rfl, rfl, hst⟩
      ·intro f2_ w2_ X2_ hfr hus hrd hst
       obtain ⟨hu1, -⟩ := hus
       have hu1 : f2_ 69 = .pointer (some ⟨b28, 3, none⟩) := hu1
       obtain ⟨hr20, -⟩ := hrd
       have hr20 : Item.φ (blk b28 [.slice a16 m.comps.length c17, .slice a18 m.comps.length c19, .slice a20 m.comps.length c21, .slice a22 m.shares.length c23, .int .i64 (pgEnd m + ((m.shares.length : Nat) : Int))] 45) w2_ := hr20
       refine og_none rfl (O_load (v := .slice a22 m.shares.length c23) hu1 ag43 (cell_of_blk (hr20) rfl) rfl ?_)
       exact ⟨.slice a22 m.shares.length c23, rfl, rfl, hst⟩
      ·intro f3_ w3_ X3_ hfr hus hrd hst
       have hb7 : f3_ 7 = .int .i64 ((i : Nat) : Int) := (hfr 7 rfl)
       refine og_none rfl (O_move (v := .int .i64 ((i : Nat) : Int)) hb7 rfl ?_)
       exact ⟨.int .i64 ((i : Nat) : Int), rfl, rfl, hst⟩
      ·intro f4_ w4_ X4_ hfr hus hrd hst
       obtain ⟨hu2, hu3, -⟩ := hus
       have hu2 : f4_ 70 = .slice a22 m.shares.length c23 := hu2
       have hu3 : f4_ 71 = .int .i64 ((i : Nat) : Int) := hu3
       refine og_none rfl (O_indexAddr_at hu2 ha91 hu3 un43 sz3 (by omega) (by omega) (o' := o90 + i * 1) (by omega) rfl ?_)
       exact ⟨.pointer (some ⟨b89, o90 + i * 1, none⟩), rfl, rfl, hst⟩
      ·intro f5_ w5_ X5_ hfr hus hrd hst
       obtain ⟨hu4, -⟩ := hus
       have hu4 : f5_ 72 = .pointer (some ⟨b89, o90 + i * 1, none⟩) := hu4
       refine og_none rfl (O_load (v := .int .i64 (shAt m i)) hu4 ag3 ((hst.getR 0 rfl).2 0 _ rfl) rfl ?_)
       exact ⟨.int .i64 (shAt m i), rfl, rfl, hst⟩
      ·intro f6_ w6_ X6_ hfr hus hrd hst
       have hb5 : f6_ 5 = .pointer (some ⟨b28, 0, none⟩) := (hfr 5 rfl)
       refine og_none rfl (O_fieldAddr hb5 fd45_3 rfl (o' := 3) rfl rfl ?_)
       exact ⟨.pointer (some ⟨b28, 3, none⟩), rfl, rfl, hst⟩
      ·intro f7_ w7_ X7_ hfr hus hrd hst
       obtain ⟨hu6, -⟩ := hus
       have hu6 : f7_ 74 = .pointer (some ⟨b28, 3, none⟩) := hu6
       obtain ⟨hr20, -⟩ := hrd
       have hr20 : Item.φ (blk b28 [.slice a16 m.comps.length c17, .slice a18 m.comps.length c19, .slice a20 m.comps.length c21, .slice a22 m.shares.length c23, .int .i64 (pgEnd m + ((m.shares.length : Nat) : Int))] 45) w7_ := hr20
       refine og_none rfl (O_load (v := .slice a22 m.shares.length c23) hu6 ag43 (cell_of_blk (hr20) rfl) rfl ?_)
       exact ⟨.slice a22 m.shares.length c23, rfl, rfl, hst⟩
      ·intro f8_ w8_ X8_ hfr hus hrd hst
       have hb7 : f8_ 7 = .int .i64 ((i : Nat) : Int) := (hfr 7 rfl)
       refine og_none rfl (O_move (v := .int .i64 ((i : Nat) : Int)) hb7 rfl ?_)
       exact ⟨.int .i64 ((i : Nat) : Int), rfl, rfl, hst⟩
      ·intro f9_ w9_ X9_ hfr hus hrd hst
       obtain ⟨hu7, hu8, -⟩ := hus
       have hu7 : f9_ 75 = .slice a22 m.shares.length c23 := hu7
       have hu8 : f9_ 76 = .int .i64 ((i : Nat) : Int) := hu8
       refine og_none rfl (O_indexAddr_at hu7 ha91 hu8 un43 sz3 (by omega) (by omega) (o' := o90 + i * 1) (by omega) rfl ?_)
       exact ⟨.pointer (some ⟨b89, o90 + i * 1, none⟩), rfl, rfl, hst⟩
      ·intro f10_ w10_ X10_ hfr hus hrd hst
       obtain ⟨hu9, -⟩ := hus
       have hu9 : f10_ 77 = .pointer (some ⟨b89, o90 + i * 1, none⟩) := hu9
       refine og_none rfl (O_load (v := .int .i64 (shAt m i)) hu9 ag3 ((hst.getR 0 rfl).2 0 _ rfl) rfl ?_)
       exact ⟨.int .i64 (shAt m i), rfl, rfl, hst⟩
      ·intro f11_ w11_ X11_ hfr hus hrd hst
       obtain ⟨hu10, -⟩ := hus
       have hu10 : f11_ 78 = .int .i64 (shAt m i) := hu10
       refine og_none rfl (O_bin (v := .int .i64 ((shAt m i) + 256)) hu10 rfl rfl (b_add (wrap_i64e (by omega) (by omega))) ?_)
       exact ⟨.int .i64 ((shAt m i) + 256), rfl, rfl, hst⟩
      ·intro f12_ w12_ X12_ hfr hus hrd hst
       obtain ⟨hu5, hu11, -⟩ := hus
       have hu5 : f12_ 73 = .int .i64 (shAt m i) := hu5
       have hu11 : f12_ 79 = .int .i64 ((shAt m i) + 256) := hu11
       refine og_none rfl (O_build_arr (ps := [(0, [.int .i64 (shAt m i)]), (1, [.int .i64 ((shAt m i) + 256)])]) (zero := [.int .i64 0, .int .i64 0]) (cells := [.int .i64 (shAt m i), .int .i64 ((shAt m i) + 256)]) un51 sz3 zv51 rfl (by simp only [List.map_cons, List.map_nil, List.nil_append, List.cons_append, List.append_nil, ev, Value.cells, hu5, hu11]) rfl rfl ?_)
       exact ⟨.agg #[.int .i64 (shAt m i), .int .i64 ((shAt m i) + 256)], rfl, rfl, hst⟩
      ·intro f13_ w13_ X13_ hfr hus hrd hst
       have hb9 : f13_ 9 = .int .i64 3 := (hfr 9 rfl)
       refine og_none rfl (O_move (v := .int .i64 3) hb9 rfl ?_)
       exact ⟨.int .i64 3, rfl, rfl, hst⟩
      ·intro f14_ w14_ X14_ hfr hus hrd hst
       obtain ⟨hu12, hu13, -⟩ := hus
       have hu12 : f14_ 80 = .agg #[.int .i64 (shAt m i), .int .i64 ((shAt m i) + 256)] := hu12
       have hu13 : f14_ 81 = .int .i64 3 := hu13
       refine og_none rfl (O_call (args := [.agg #[.int .i64 (shAt m i), .int .i64 ((shAt m i) + 256)], .int .i64 3]) rfl (by simp only [List.map_cons, List.map_nil, List.nil_append, List.cons_append, List.append_nil, ev, Value.cells, hu12, hu13]) rfl en45 (grant_c (shAt m i) ((shAt m i) + 256) 3 _) ?_)
       rintro _ w93 ⟨rfl, hk95⟩
       have hs94 := hst.keep hk95
       exact ⟨.agg #[.bool true, .int .i64 (shAt m i), .int .i64 ((shAt m i) + 256), .int .i64 (shAt m i), .int .i64 3, .int .i64 0], rfl, rfl, hs94⟩
      ·intro f15_ w15_ X15_ hfr hus hrd hst
       obtain ⟨hu14, -⟩ := hus
       have hu14 : f15_ 82 = .agg #[.bool true, .int .i64 (shAt m i), .int .i64 ((shAt m i) + 256), .int .i64 (shAt m i), .int .i64 3, .int .i64 0] := hu14
       refine og_none rfl (O_buildSlice (zs := [.bool false, .int .i64 0, .int .i64 0, .int .i64 0, .int .i64 0, .int .i64 0]) (ps := [(0, [.bool true, .int .i64 (shAt m i), .int .i64 ((shAt m i) + 256), .int .i64 (shAt m i), .int .i64 3, .int .i64 0])]) (cs := [.bool true, .int .i64 (shAt m i), .int .i64 ((shAt m i) + 256), .int .i64 (shAt m i), .int .i64 3, .int .i64 0]) hst un48 sz39 zv39 rfl rfl (by simp only [List.map_cons, List.map_nil, List.nil_append, List.cons_append, List.append_nil, ev, Value.cells, hu14]) rfl rfl ?_)
       intro b96 w97 hb99 hs98
       refine ⟨.slice (some ⟨b96, 0, none⟩) 1 1, rfl, ⟨_, rfl⟩, ?_⟩
       show St _ _ _ ((blk (vblk ((upd f15_ 83 (.slice (some ⟨b96, 0, none⟩) 1 1)) 83)) [.bool true, .int .i64 (shAt m i), .int .i64 ((shAt m i) + 256), .int .i64 (shAt m i), .int .i64 3, .int .i64 0] 39) :: X15_) _
       exact hs98
      ·intro f16_ w16_ X16_ hfr hus hrd hst
       obtain ⟨hu0, hu15, -⟩ := hus
       have hu0 : f16_ 68 = .slice a6 ((grTo m k i).length) c6 := hu0
       obtain ⟨b96, hu15⟩ := (show ∃ b96 : Nat, f16_ 83 = .slice (some ⟨b96, 0, none⟩) 1 1 from hu15)
       have hst : St _ _ _ ((ownI 39 6 a6 c6 ((grTo m k i).length) ((grTo m k i).flatMap encCap)) :: X16_) _ := hst
       obtain ⟨hr15, -⟩ := hrd
       have hr15 : Item.φ (blk (vblk (f16_ 83)) [.bool true, .int .i64 (shAt m i), .int .i64 ((shAt m i) + 256), .int .i64 (shAt m i), .int .i64 3, .int .i64 0] 39) w16_ := hr15
       rw [hu15] at hr15; simp only [vblk, vaddr, vcap, vcell] at hr15
       refine og_none rfl (O_appendE (n2 := (grTo m k (i + 1)).length) (xs2 := (grTo m k (i + 1)).flatMap encCap) hst 0 rfl hu0 hu15 un48 ni48 inf39 rfl (Src.rd (news := [.bool true, .int .i64 (shAt m i), .int .i64 ((shAt m i) + 256), .int .i64 (shAt m i), .int .i64 3, .int .i64 0]) (Rd.of_blk (hr15) 0 6) rfl rfl) (by rw [grTo_yes (by omega) hc88, List.length_append, List.length_singleton]) (by have hpe : shPerm (m.shares[i]'(by omega)) k = 3 := (by unfold shPerm; rw [if_pos hc87]); rw [grTo_yes (by omega) hc88, List.flatMap_append, hpe]; rfl) (by have := grTo_len m k i; omega) (by have := grTo_len m k i; omega) rfl ?_)
       intro a100 c101 w102 hs103
       refine ⟨.slice a100 ((grTo m k (i + 1)).length) c101, rfl, ⟨_, _, rfl⟩, ?_⟩
       show St _ _ _ ((ownI 39 6 (vaddr ((upd f16_ 84 (.slice a100 ((grTo m k (i + 1)).length) c101)) 84)) (vcap ((upd f16_ 84 (.slice a100 ((grTo m k (i + 1)).length) c101)) 84)) ((grTo m k (i + 1)).length) ((grTo m k (i + 1)).flatMap encCap)) :: X16_) _
       exact hs103
      ·intro f17_ w17_ X17_ hfr hus hrd hst
       obtain ⟨hu16, -⟩ := hus
       obtain ⟨a100, c101, hu16⟩ := (show ∃ a100 : Option Addr, ∃ c101 : Nat, f17_ 84 = .slice a100 ((grTo m k (i + 1)).length) c101 from hu16)
       have hst : St _ _ _ ((ownI 39 6 (vaddr (f17_ 84)) (vcap (f17_ 84)) ((grTo m k (i + 1)).length) ((grTo m k (i + 1)).flatMap encCap)) :: X17_) _ := hst
       rw [hu16] at hst; simp only [vblk, vaddr, vcap, vcell] at hst
       refine og_none rfl (O_assign (v := .slice a100 ((grTo m k (i + 1)).length) c101) hu16 rfl ?_)
       refine ⟨.slice a100 ((grTo m k (i + 1)).length) c101, rfl, ⟨_, _, rfl⟩, ?_⟩
       show St _ _ _ ((ownI 39 6 (vaddr ((upd f17_ 6 (.slice a100 ((grTo m k (i + 1)).length) c101)) 6)) (vcap ((upd f17_ 6 (.slice a100 ((grTo m k (i + 1)).length) c101)) 6)) ((grTo m k (i + 1)).length) ((grTo m k (i + 1)).flatMap encCap)) :: X17_) _
       exact hst
      intro f106 w107 hfr hus hs108
      obtain ⟨hu15, hu17, -⟩ := hus
      obtain ⟨b96, hu15⟩ := (show ∃ b96 : Nat, f106 83 = .slice (some ⟨b96, 0, none⟩) 1 1 from hu15)
      obtain ⟨a104, c105, hu17⟩ := (show ∃ a104 : Option Addr, ∃ c105 : Nat, f106 6 = .slice a104 ((grTo m k (i + 1)).length) c105 from hu17)
      have hs108 : St _ _ _ [blk (vblk (f106 83)) [.bool true, .int .i64 (shAt m i), .int .i64 ((shAt m i) + 256), .int .i64 (shAt m i), .int .i64 3, .int .i64 0] 39, blk b81 [.int .i64 ((m.shares[i]'(by omega)).rd), .int .i64 ((m.shares[i]'(by omega)).wr)] 70, ownI 39 6 (vaddr (f106 6)) (vcap (f106 6)) ((grTo m k (i + 1)).length) ((grTo m k (i + 1)).flatMap encCap), blk b28 [.slice a16 m.comps.length c17, .slice a18 m.comps.length c19, .slice a20 m.comps.length c21, .slice a22 m.shares.length c23, .int .i64 (pgEnd m + ((m.shares.length : Nat) : Int))] 45, blk b1 (imgCells m) 26] _ := hs108
      simp only [hu15, hu17, vblk, vaddr, vcap, vcell] at hs108
      have hs108 : St _ _ _ [blk b96 [.bool true, .int .i64 (shAt m i), .int .i64 ((shAt m i) + 256), .int .i64 (shAt m i), .int .i64 3, .int .i64 0] 39, blk b81 [.int .i64 ((m.shares[i]'(by omega)).rd), .int .i64 ((m.shares[i]'(by omega)).wr)] 70, ownI 39 6 a104 c105 ((grTo m k (i + 1)).length) ((grTo m k (i + 1)).flatMap encCap), blk b28 [.slice a16 m.comps.length c17, .slice a18 m.comps.length c19, .slice a20 m.comps.length c21, .slice a22 m.shares.length c23, .int .i64 (pgEnd m + ((m.shares.length : Nat) : Int))] 45, blk b1 (imgCells m) 26] _ := hs108
      have e109 : f106 1 = .int .i64 k := (hfr 1 rfl)
      rewrite [upd_id e109]
      have e110 : f106 5 = .pointer (some ⟨b28, 0, none⟩) := (hfr 5 rfl)
      rewrite [upd_id e110]
      rewrite [upd_id hu17]
      have e111 : f106 47 = .slice m.sa m.shares.length m.scap := (hfr 47 rfl)
      rewrite [upd_id e111]
      have e112 : f106 48 = .int .i64 ((m.shares.length : Nat) : Int) := (hfr 48 rfl)
      rewrite [upd_id e112]
      have e113 : f106 49 = .int .i64 ((i : Nat) : Int) := (hfr 49 rfl)
      rewrite [upd_id e113]
      refine blockQ_n (thenQ_n (W_region ?_))
      refine L_cons rfl (O_bin (v := .int .i64 ((i + 1 : Nat) : Int)) rfl rfl rfl (b_add (wrap_i64e (by omega) (by omega))) ?_)
      refine L_cons rfl (O_move (v := .int .i64 ((i + 1 : Nat) : Int)) rfl rfl ?_)
      refine L_nil (thenQ_n ?_)
      refine ⟨_, ?_, i + 1, a104, c105, rfl, by omega, rfl, rfl, rfl, rfl, rfl, rfl, hs108.popR.popR.popM.popM⟩
      omega
     ·refine W_skip (blockQ_n (thenQ_n ?_))
      have hno := grTo_no (m := m) (k := k) (i := i) (by omega) hc88
      have hs114 : St w (fun _ => False) w85 [blk b81 [.int .i64 ((m.shares[i]'(by omega)).rd), .int .i64 ((m.shares[i]'(by omega)).wr)] 70, ownI 39 6 a6 c6 ((grTo m k (i + 1)).length) ((grTo m k (i + 1)).flatMap encCap), blk b28 [.slice a16 m.comps.length c17, .slice a18 m.comps.length c19, .slice a20 m.comps.length c21, .slice a22 m.shares.length c23, .int .i64 (pgEnd m + ((m.shares.length : Nat) : Int))] 45, blk b1 (imgCells m) 26] [rdI b77 (o78 + i * 2) (encShare (m.shares[i]'(by omega))), arrI encR 2 a16 (codesTo m m.comps.length), arrI encR 2 a18 (datasTo m m.comps.length), arrI encR 2 a20 (heapsTo m m.comps.length), arrI encI 1 a22 (shsTo m m.shares.length), arrI encComp 2 m.ca m.comps, arrI encLink 3 m.la m.links, arrI encShare 2 m.sa m.shares, codesI m.comps] := by rw [hno]; exact hs86
      refine W_region ?_
      refine L_cons rfl (O_bin (v := .int .i64 ((i + 1 : Nat) : Int)) rfl rfl rfl (b_add (wrap_i64e (by omega) (by omega))) ?_)
      refine L_cons rfl (O_move (v := .int .i64 ((i + 1 : Nat) : Int)) rfl rfl ?_)
      refine L_nil (thenQ_n ?_)
      refine ⟨_, ?_, i + 1, a6, c6, rfl, by omega, rfl, rfl, (congrArg (fun z : List CapV => Value.slice a6 z.length c6) hno.symm), rfl, rfl, rfl, hs114.popR.popM⟩
      omega
    ·refine W_skip (thenQ_n (W_seq (W_region ?_)))
     refine L_cons rfl (O_fieldAddr rfl fd70_0 rfl (o' := 0) rfl rfl ?_)
     refine L_cons rfl (O_load (v := .int .i64 ((m.shares[i]'(by omega)).rd)) rfl ag3 (cell_of_blk (hs86.get 0 rfl) rfl) rfl ?_)
     refine L_cons rfl (O_move (v := .int .i64 k) rfl rfl ?_)
     refine L_cons rfl (O_bin (v := .int .i64 ((m.shares[i]'(by omega)).rd / 2 ^ k.toNat)) rfl rfl rfl (b_shr (by omega) (shr_bit (by omega))) ?_)
     refine L_cons rfl (O_bin (v := .int .i64 (bitS (m.shares[i]'(by omega)).rd k)) rfl rfl rfl (b_and (and_one _)) ?_)
     refine L_cons rfl (O_bin (k := .i64) (k' := .i64) (a := (bitS (m.shares[i]'(by omega)).rd k)) (b := 1) rfl rfl rfl b_eql ?_)
     refine L_nil (thenQ_n ?_)
     refine W_cond_d rfl (fun hc115 => ?_) (fun hc115 => ?_)
     ·have hsb := shAt_b hok (i := i) (by omega)
      obtain ⟨b116, o117, ha118, hs119⟩ := hs86.elem 4 rfl i (by rw [shsTo_len]; omega)
      rw [shsTo_get] at hs119
      refine W_par' mixed (show St _ _ _ [blk b81 [.int .i64 ((m.shares[i]'(by omega)).rd), .int .i64 ((m.shares[i]'(by omega)).wr)] 70, ownI 39 6 a6 c6 ((grTo m k i).length) ((grTo m k i).flatMap encCap), blk b28 [.slice a16 m.comps.length c17, .slice a18 m.comps.length c19, .slice a20 m.comps.length c21, .slice a22 m.shares.length c23, .int .i64 (pgEnd m + ((m.shares.length : Nat) : Int))] 45, blk b1 (imgCells m) 26] _ from hs119) (fun i_ => match i_ with | 15 => some ([83], fun vs_ => match vs_ with | [x83] => blk (vblk x83) [.bool true, .int .i64 (shAt m i), .int .i64 ((shAt m i) + 256), .int .i64 (shAt m i), .int .i64 1, .int .i64 0] 39 | _ => emp) | 16 => some ([84], fun vs_ => match vs_ with | [x84] => ownI 39 6 (vaddr x84) (vcap x84) ((grTo m k (i + 1)).length) ((grTo m k (i + 1)).flatMap encCap) | _ => emp) | 17 => some ([6], fun vs_ => match vs_ with | [x6] => ownI 39 6 (vaddr x6) (vcap x6) ((grTo m k (i + 1)).length) ((grTo m k (i + 1)).flatMap encCap) | _ => emp) | _ => none) (fun i_ => match i_ with | 16 => [19] | 17 => [16] | _ => []) (fun i_ => match i_ with | 2 => [20] | 7 => [20] | 16 => [15] | _ => []) (fun i_ => match i_ with | 2 => [1] | 4 => [2, 3] | 5 => [4] | 7 => [6] | 9 => [7, 8] | 10 => [9] | 11 => [10] | 12 => [5, 11] | 14 => [12, 13] | 15 => [14] | 16 => [0, 15] | 17 => [16] | _ => []) [15, 18, 17, 20, 21, 0, 1, 2, 3, 4, 5, 6, 7, 8, 9, 10, 11, 12, 13, 14, 22, 23, 24, 25, 26, 27, 28, 29, 30, 31, 32, 33, 34, 35, 36, 37, 38, 39] [15, 17] (fun i_ v_ => match i_ with | 0 => v_ = .slice a6 ((grTo m k i).length) c6 | 1 => v_ = .pointer (some ⟨b28, 3, none⟩) | 2 => v_ = .slice a22 m.shares.length c23 | 3 => v_ = .int .i64 ((i : Nat) : Int) | 4 => v_ = .pointer (some ⟨b116, o117 + i * 1, none⟩) | 5 => v_ = .int .i64 (shAt m i) | 6 => v_ = .pointer (some ⟨b28, 3, none⟩) | 7 => v_ = .slice a22 m.shares.length c23 | 8 => v_ = .int .i64 ((i : Nat) : Int) | 9 => v_ = .pointer (some ⟨b116, o117 + i * 1, none⟩) | 10 => v_ = .int .i64 (shAt m i) | 11 => v_ = .int .i64 ((shAt m i) + 256) | 12 => v_ = .agg #[.int .i64 (shAt m i), .int .i64 ((shAt m i) + 256)] | 13 => v_ = .int .i64 1 | 14 => v_ = .agg #[.bool true, .int .i64 (shAt m i), .int .i64 ((shAt m i) + 256), .int .i64 (shAt m i), .int .i64 1, .int .i64 0] | 15 => ∃ b123 : Nat, v_ = .slice (some ⟨b123, 0, none⟩) 1 1 | 16 => ∃ a127 : Option Addr, ∃ c128 : Nat, v_ = .slice a127 ((grTo m k (i + 1)).length) c128 | 17 => ∃ a131 : Option Addr, ∃ c132 : Nat, v_ = .slice a131 ((grTo m k (i + 1)).length) c132 | _ => True) (by kernel_rfl) (by kernel_rfl) ⟨?_, ?_, ?_, ?_, ?_, ?_, ?_, ?_, ?_, ?_, ?_, ?_, ?_, ?_, ?_, ?_, ?_, ?_, trivial⟩ ?_
      ·intro f0_ w0_ X0_ hfr hus hrd hst
       have hb6 : f0_ 6 = .slice a6 ((grTo m k i).length) c6 := (hfr 6 rfl)
       refine og_none rfl (O_move (v := .slice a6 ((grTo m k i).length) c6) hb6 rfl ?_)
       exact ⟨.slice a6 ((grTo m k i).length) c6, rfl, rfl, hst⟩
      ·intro f1_ w1_ X1_ hfr hus hrd hst
       have hb5 : f1_ 5 = .pointer (some ⟨b28, 0, none⟩) := (hfr 5 rfl)
       refine og_none rfl (O_fieldAddr hb5 fd45_3 rfl (o' := 3) rfl rfl ?_)
       exact ⟨.pointer (some ⟨b28, 3, none⟩), rfl, rfl, hst⟩
      ·intro f2_ w2_ X2_ hfr hus hrd hst
       obtain ⟨hu1, -⟩ := hus
       have hu1 : f2_ 69 = .pointer (some ⟨b28, 3, none⟩) := hu1
       obtain ⟨hr20, -⟩ := hrd
       have hr20 : Item.φ (blk b28 [.slice a16 m.comps.length c17, .slice a18 m.comps.length c19, .slice a20 m.comps.length c21, .slice a22 m.shares.length c23, .int .i64 (pgEnd m + ((m.shares.length : Nat) : Int))] 45) w2_ := hr20
       refine og_none rfl (O_load (v := .slice a22 m.shares.length c23) hu1 ag43 (cell_of_blk (hr20) rfl) rfl ?_)
       exact ⟨.slice a22 m.shares.length c23, rfl, rfl, hst⟩
      ·intro f3_ w3_ X3_ hfr hus hrd hst
       have hb7 : f3_ 7 = .int .i64 ((i : Nat) : Int) := (hfr 7 rfl)
       refine og_none rfl (O_move (v := .int .i64 ((i : Nat) : Int)) hb7 rfl ?_)
       exact ⟨.int .i64 ((i : Nat) : Int), rfl, rfl, hst⟩
      ·intro f4_ w4_ X4_ hfr hus hrd hst
       obtain ⟨hu2, hu3, -⟩ := hus
       have hu2 : f4_ 70 = .slice a22 m.shares.length c23 := hu2
       have hu3 : f4_ 71 = .int .i64 ((i : Nat) : Int) := hu3
       refine og_none rfl (O_indexAddr_at hu2 ha118 hu3 un43 sz3 (by omega) (by omega) (o' := o117 + i * 1) (by omega) rfl ?_)
       exact ⟨.pointer (some ⟨b116, o117 + i * 1, none⟩), rfl, rfl, hst⟩
      ·intro f5_ w5_ X5_ hfr hus hrd hst
       obtain ⟨hu4, -⟩ := hus
       have hu4 : f5_ 72 = .pointer (some ⟨b116, o117 + i * 1, none⟩) := hu4
       refine og_none rfl (O_load (v := .int .i64 (shAt m i)) hu4 ag3 ((hst.getR 0 rfl).2 0 _ rfl) rfl ?_)
       exact ⟨.int .i64 (shAt m i), rfl, rfl, hst⟩
      ·intro f6_ w6_ X6_ hfr hus hrd hst
       have hb5 : f6_ 5 = .pointer (some ⟨b28, 0, none⟩) := (hfr 5 rfl)
       refine og_none rfl (O_fieldAddr hb5 fd45_3 rfl (o' := 3) rfl rfl ?_)
       exact ⟨.pointer (some ⟨b28, 3, none⟩), rfl, rfl, hst⟩
      ·intro f7_ w7_ X7_ hfr hus hrd hst
       obtain ⟨hu6, -⟩ := hus
       have hu6 : f7_ 74 = .pointer (some ⟨b28, 3, none⟩) := hu6
       obtain ⟨hr20, -⟩ := hrd
       have hr20 : Item.φ (blk b28 [.slice a16 m.comps.length c17, .slice a18 m.comps.length c19, .slice a20 m.comps.length c21, .slice a22 m.shares.length c23, .int .i64 (pgEnd m + ((m.shares.length : Nat) : Int))] 45) w7_ := hr20
       refine og_none rfl (O_load (v := .slice a22 m.shares.length c23) hu6 ag43 (cell_of_blk (hr20) rfl) rfl ?_)
       exact ⟨.slice a22 m.shares.length c23, rfl, rfl, hst⟩
      ·intro f8_ w8_ X8_ hfr hus hrd hst
       have hb7 : f8_ 7 = .int .i64 ((i : Nat) : Int) := (hfr 7 rfl)
       refine og_none rfl (O_move (v := .int .i64 ((i : Nat) : Int)) hb7 rfl ?_)
       exact ⟨.int .i64 ((i : Nat) : Int), rfl, rfl, hst⟩
      ·intro f9_ w9_ X9_ hfr hus hrd hst
       obtain ⟨hu7, hu8, -⟩ := hus
       have hu7 : f9_ 75 = .slice a22 m.shares.length c23 := hu7
       have hu8 : f9_ 76 = .int .i64 ((i : Nat) : Int) := hu8
       refine og_none rfl (O_indexAddr_at hu7 ha118 hu8 un43 sz3 (by omega) (by omega) (o' := o117 + i * 1) (by omega) rfl ?_)
       exact ⟨.pointer (some ⟨b116, o117 + i * 1, none⟩), rfl, rfl, hst⟩
      ·intro f10_ w10_ X10_ hfr hus hrd hst
       obtain ⟨hu9, -⟩ := hus
       have hu9 : f10_ 77 = .pointer (some ⟨b116, o117 + i * 1, none⟩) := hu9
       refine og_none rfl (O_load (v := .int .i64 (shAt m i)) hu9 ag3 ((hst.getR 0 rfl).2 0 _ rfl) rfl ?_)
       exact ⟨.int .i64 (shAt m i), rfl, rfl, hst⟩
      ·intro f11_ w11_ X11_ hfr hus hrd hst
       obtain ⟨hu10, -⟩ := hus
       have hu10 : f11_ 78 = .int .i64 (shAt m i) := hu10
       refine og_none rfl (O_bin (v := .int .i64 ((shAt m i) + 256)) hu10 rfl rfl (b_add (wrap_i64e (by omega) (by omega))) ?_)
       exact ⟨.int .i64 ((shAt m i) + 256), rfl, rfl, hst⟩
      ·intro f12_ w12_ X12_ hfr hus hrd hst
       obtain ⟨hu5, hu11, -⟩ := hus
       have hu5 : f12_ 73 = .int .i64 (shAt m i) := hu5
       have hu11 : f12_ 79 = .int .i64 ((shAt m i) + 256) := hu11
       refine og_none rfl (O_build_arr (ps := [(0, [.int .i64 (shAt m i)]), (1, [.int .i64 ((shAt m i) + 256)])]) (zero := [.int .i64 0, .int .i64 0]) (cells := [.int .i64 (shAt m i), .int .i64 ((shAt m i) + 256)]) un51 sz3 zv51 rfl (by simp only [List.map_cons, List.map_nil, List.nil_append, List.cons_append, List.append_nil, ev, Value.cells, hu5, hu11]) rfl rfl ?_)
       exact ⟨.agg #[.int .i64 (shAt m i), .int .i64 ((shAt m i) + 256)], rfl, rfl, hst⟩
      ·intro f13_ w13_ X13_ hfr hus hrd hst
       have hb9 : f13_ 9 = .int .i64 1 := (hfr 9 rfl)
       refine og_none rfl (O_move (v := .int .i64 1) hb9 rfl ?_)
       exact ⟨.int .i64 1, rfl, rfl, hst⟩
      ·intro f14_ w14_ X14_ hfr hus hrd hst
       obtain ⟨hu12, hu13, -⟩ := hus
       have hu12 : f14_ 80 = .agg #[.int .i64 (shAt m i), .int .i64 ((shAt m i) + 256)] := hu12
       have hu13 : f14_ 81 = .int .i64 1 := hu13
       refine og_none rfl (O_call (args := [.agg #[.int .i64 (shAt m i), .int .i64 ((shAt m i) + 256)], .int .i64 1]) rfl (by simp only [List.map_cons, List.map_nil, List.nil_append, List.cons_append, List.append_nil, ev, Value.cells, hu12, hu13]) rfl en45 (grant_c (shAt m i) ((shAt m i) + 256) 1 _) ?_)
       rintro _ w120 ⟨rfl, hk122⟩
       have hs121 := hst.keep hk122
       exact ⟨.agg #[.bool true, .int .i64 (shAt m i), .int .i64 ((shAt m i) + 256), .int .i64 (shAt m i), .int .i64 1, .int .i64 0], rfl, rfl, hs121⟩
      ·intro f15_ w15_ X15_ hfr hus hrd hst
       obtain ⟨hu14, -⟩ := hus
       have hu14 : f15_ 82 = .agg #[.bool true, .int .i64 (shAt m i), .int .i64 ((shAt m i) + 256), .int .i64 (shAt m i), .int .i64 1, .int .i64 0] := hu14
       refine og_none rfl (O_buildSlice (zs := [.bool false, .int .i64 0, .int .i64 0, .int .i64 0, .int .i64 0, .int .i64 0]) (ps := [(0, [.bool true, .int .i64 (shAt m i), .int .i64 ((shAt m i) + 256), .int .i64 (shAt m i), .int .i64 1, .int .i64 0])]) (cs := [.bool true, .int .i64 (shAt m i), .int .i64 ((shAt m i) + 256), .int .i64 (shAt m i), .int .i64 1, .int .i64 0]) hst un48 sz39 zv39 rfl rfl (by simp only [List.map_cons, List.map_nil, List.nil_append, List.cons_append, List.append_nil, ev, Value.cells, hu14]) rfl rfl ?_)
       intro b123 w124 hb126 hs125
       refine ⟨.slice (some ⟨b123, 0, none⟩) 1 1, rfl, ⟨_, rfl⟩, ?_⟩
       show St _ _ _ ((blk (vblk ((upd f15_ 83 (.slice (some ⟨b123, 0, none⟩) 1 1)) 83)) [.bool true, .int .i64 (shAt m i), .int .i64 ((shAt m i) + 256), .int .i64 (shAt m i), .int .i64 1, .int .i64 0] 39) :: X15_) _
       exact hs125
      ·intro f16_ w16_ X16_ hfr hus hrd hst
       obtain ⟨hu0, hu15, -⟩ := hus
       have hu0 : f16_ 68 = .slice a6 ((grTo m k i).length) c6 := hu0
       obtain ⟨b123, hu15⟩ := (show ∃ b123 : Nat, f16_ 83 = .slice (some ⟨b123, 0, none⟩) 1 1 from hu15)
       have hst : St _ _ _ ((ownI 39 6 a6 c6 ((grTo m k i).length) ((grTo m k i).flatMap encCap)) :: X16_) _ := hst
       obtain ⟨hr15, -⟩ := hrd
       have hr15 : Item.φ (blk (vblk (f16_ 83)) [.bool true, .int .i64 (shAt m i), .int .i64 ((shAt m i) + 256), .int .i64 (shAt m i), .int .i64 1, .int .i64 0] 39) w16_ := hr15
       rw [hu15] at hr15; simp only [vblk, vaddr, vcap, vcell] at hr15
       refine og_none rfl (O_appendE (n2 := (grTo m k (i + 1)).length) (xs2 := (grTo m k (i + 1)).flatMap encCap) hst 0 rfl hu0 hu15 un48 ni48 inf39 rfl (Src.rd (news := [.bool true, .int .i64 (shAt m i), .int .i64 ((shAt m i) + 256), .int .i64 (shAt m i), .int .i64 1, .int .i64 0]) (Rd.of_blk (hr15) 0 6) rfl rfl) (by rw [grTo_yes (by omega) hc115, List.length_append, List.length_singleton]) (by have hpe : shPerm (m.shares[i]'(by omega)) k = 1 := (by unfold shPerm; rw [if_neg hc87]); rw [grTo_yes (by omega) hc115, List.flatMap_append, hpe]; rfl) (by have := grTo_len m k i; omega) (by have := grTo_len m k i; omega) rfl ?_)
       intro a127 c128 w129 hs130
       refine ⟨.slice a127 ((grTo m k (i + 1)).length) c128, rfl, ⟨_, _, rfl⟩, ?_⟩
       show St _ _ _ ((ownI 39 6 (vaddr ((upd f16_ 84 (.slice a127 ((grTo m k (i + 1)).length) c128)) 84)) (vcap ((upd f16_ 84 (.slice a127 ((grTo m k (i + 1)).length) c128)) 84)) ((grTo m k (i + 1)).length) ((grTo m k (i + 1)).flatMap encCap)) :: X16_) _
       exact hs130
      ·intro f17_ w17_ X17_ hfr hus hrd hst
       obtain ⟨hu16, -⟩ := hus
       obtain ⟨a127, c128, hu16⟩ := (show ∃ a127 : Option Addr, ∃ c128 : Nat, f17_ 84 = .slice a127 ((grTo m k (i + 1)).length) c128 from hu16)
       have hst : St _ _ _ ((ownI 39 6 (vaddr (f17_ 84)) (vcap (f17_ 84)) ((grTo m k (i + 1)).length) ((grTo m k (i + 1)).flatMap encCap)) :: X17_) _ := hst
       rw [hu16] at hst; simp only [vblk, vaddr, vcap, vcell] at hst
       refine og_none rfl (O_assign (v := .slice a127 ((grTo m k (i + 1)).length) c128) hu16 rfl ?_)
       refine ⟨.slice a127 ((grTo m k (i + 1)).length) c128, rfl, ⟨_, _, rfl⟩, ?_⟩
       show St _ _ _ ((ownI 39 6 (vaddr ((upd f17_ 6 (.slice a127 ((grTo m k (i + 1)).length) c128)) 6)) (vcap ((upd f17_ 6 (.slice a127 ((grTo m k (i + 1)).length) c128)) 6)) ((grTo m k (i + 1)).length) ((grTo m k (i + 1)).flatMap encCap)) :: X17_) _
       exact hst
      intro f133 w134 hfr hus hs135
      obtain ⟨hu15, hu17, -⟩ := hus
      obtain ⟨b123, hu15⟩ := (show ∃ b123 : Nat, f133 83 = .slice (some ⟨b123, 0, none⟩) 1 1 from hu15)
      obtain ⟨a131, c132, hu17⟩ := (show ∃ a131 : Option Addr, ∃ c132 : Nat, f133 6 = .slice a131 ((grTo m k (i + 1)).length) c132 from hu17)
      have hs135 : St _ _ _ [blk (vblk (f133 83)) [.bool true, .int .i64 (shAt m i), .int .i64 ((shAt m i) + 256), .int .i64 (shAt m i), .int .i64 1, .int .i64 0] 39, blk b81 [.int .i64 ((m.shares[i]'(by omega)).rd), .int .i64 ((m.shares[i]'(by omega)).wr)] 70, ownI 39 6 (vaddr (f133 6)) (vcap (f133 6)) ((grTo m k (i + 1)).length) ((grTo m k (i + 1)).flatMap encCap), blk b28 [.slice a16 m.comps.length c17, .slice a18 m.comps.length c19, .slice a20 m.comps.length c21, .slice a22 m.shares.length c23, .int .i64 (pgEnd m + ((m.shares.length : Nat) : Int))] 45, blk b1 (imgCells m) 26] _ := hs135
      simp only [hu15, hu17, vblk, vaddr, vcap, vcell] at hs135
      have hs135 : St _ _ _ [blk b123 [.bool true, .int .i64 (shAt m i), .int .i64 ((shAt m i) + 256), .int .i64 (shAt m i), .int .i64 1, .int .i64 0] 39, blk b81 [.int .i64 ((m.shares[i]'(by omega)).rd), .int .i64 ((m.shares[i]'(by omega)).wr)] 70, ownI 39 6 a131 c132 ((grTo m k (i + 1)).length) ((grTo m k (i + 1)).flatMap encCap), blk b28 [.slice a16 m.comps.length c17, .slice a18 m.comps.length c19, .slice a20 m.comps.length c21, .slice a22 m.shares.length c23, .int .i64 (pgEnd m + ((m.shares.length : Nat) : Int))] 45, blk b1 (imgCells m) 26] _ := hs135
      have e136 : f133 1 = .int .i64 k := (hfr 1 rfl)
      rewrite [upd_id e136]
      have e137 : f133 5 = .pointer (some ⟨b28, 0, none⟩) := (hfr 5 rfl)
      rewrite [upd_id e137]
      rewrite [upd_id hu17]
      have e138 : f133 47 = .slice m.sa m.shares.length m.scap := (hfr 47 rfl)
      rewrite [upd_id e138]
      have e139 : f133 48 = .int .i64 ((m.shares.length : Nat) : Int) := (hfr 48 rfl)
      rewrite [upd_id e139]
      have e140 : f133 49 = .int .i64 ((i : Nat) : Int) := (hfr 49 rfl)
      rewrite [upd_id e140]
      refine blockQ_n (thenQ_n (W_region ?_))
      refine L_cons rfl (O_bin (v := .int .i64 ((i + 1 : Nat) : Int)) rfl rfl rfl (b_add (wrap_i64e (by omega) (by omega))) ?_)
      refine L_cons rfl (O_move (v := .int .i64 ((i + 1 : Nat) : Int)) rfl rfl ?_)
      refine L_nil (thenQ_n ?_)
      refine ⟨_, ?_, i + 1, a131, c132, rfl, by omega, rfl, rfl, rfl, rfl, rfl, rfl, hs135.popR.popR.popM.popM⟩
      omega
     ·refine W_skip (blockQ_n (thenQ_n ?_))
      have hno := grTo_no (m := m) (k := k) (i := i) (by omega) hc115
      have hs141 : St w (fun _ => False) w85 [blk b81 [.int .i64 ((m.shares[i]'(by omega)).rd), .int .i64 ((m.shares[i]'(by omega)).wr)] 70, ownI 39 6 a6 c6 ((grTo m k (i + 1)).length) ((grTo m k (i + 1)).flatMap encCap), blk b28 [.slice a16 m.comps.length c17, .slice a18 m.comps.length c19, .slice a20 m.comps.length c21, .slice a22 m.shares.length c23, .int .i64 (pgEnd m + ((m.shares.length : Nat) : Int))] 45, blk b1 (imgCells m) 26] [rdI b77 (o78 + i * 2) (encShare (m.shares[i]'(by omega))), arrI encR 2 a16 (codesTo m m.comps.length), arrI encR 2 a18 (datasTo m m.comps.length), arrI encR 2 a20 (heapsTo m m.comps.length), arrI encI 1 a22 (shsTo m m.shares.length), arrI encComp 2 m.ca m.comps, arrI encLink 3 m.la m.links, arrI encShare 2 m.sa m.shares, codesI m.comps] := by rw [hno]; exact hs86
      refine W_region ?_
      refine L_cons rfl (O_bin (v := .int .i64 ((i + 1 : Nat) : Int)) rfl rfl rfl (b_add (wrap_i64e (by omega) (by omega))) ?_)
      refine L_cons rfl (O_move (v := .int .i64 ((i + 1 : Nat) : Int)) rfl rfl ?_)
      refine L_nil (thenQ_n ?_)
      refine ⟨_, ?_, i + 1, a6, c6, rfl, by omega, rfl, rfl, (congrArg (fun z : List CapV => Value.slice a6 z.length c6) hno.symm), rfl, rfl, rfl, hs141.popR.popM⟩
      omega
   ·refine W_exit (thenQ_e (thenQ_e (blockQ_x (thenQ_n (W_seq (W_region ?_))))))
    refine L_cons rfl (O_move (v := .slice a6 ((grTo m k i).length) c6) rfl rfl ?_)
    refine L_cons rfl (O_assign (v := .slice a6 ((grTo m k i).length) c6) rfl rfl ?_)
    refine L_nil (thenQ_n (W_ret ?_))
    refine ⟨.slice a6 ((grTo m k i).length) c6, res1 rfl, ?_⟩
    obtain rfl : i = m.shares.length := by omega
    have he := grants_yes (k := k) hright (by omega) (by omega)
    exact ⟨⟨a6, c6, by rw [he], by rw [he]; exact hs68.get 0 rfl, fun x ⟨o, e⟩ => hs68.newB 0 rfl x ⟨o, e⟩⟩, hs68.base⟩

set_option maxHeartbeats 2000000 in
/-- seizin/image.Pairs -/
theorem pairs_c (m : ImageV) (k : Int) (w : World) (hm : ∀ i ∈ imgIs m, i.φ w) (hb : ImgB m) :
  C Try.prog 19 [.agg (imgCells m).toArray, .int .i64 k] w fun v w' => (∃ a2 c2, v = .slice a2 (pairsS m k).length c2 ∧ (ownI 40 12 a2 c2 (pairsS m k).length ((pairsS m k).flatMap encPair)).φ w' ∧ ∀ x, (ownI 40 12 a2 c2 (pairsS m k).length ((pairsS m k).flatMap encPair)).fp x → w.heap.size ≤ x) ∧ Grow w w' := by
 have hs0 : St w (fun _ => False) w [] (imgIs m) := St.start w _ hm
 refine C_of_W [.tmp 4] 58 Try.func19 rfl Try.ntmps19 rfl rfl ?_
 refine W_seq (W_region ?_)
 refine L_cons rfl (O_box (v := .agg (imgCells m).toArray) (cs := (imgCells m)) hs0 rfl rfl rfl ?_)
 intro b1 w2 hb4 hs3
 refine L_cons rfl (O_assign (v := .slice none 0 0) rfl rfl ?_)
 refine L_nil (thenQ_n (W_seq (W_region ?_)))
 refine L_cons rfl (O_assign (v := .slice none 0 0) rfl rfl ?_)
 refine L_nil (thenQ_n (W_seq (W_seq (W_region ?_))))
 refine L_cons rfl (O_load_agg (vs := (imgCells m)) rfl ag26 sz26 (Rd.of_blk (hs3.get 0 rfl) 0 6) rfl rfl ?_)
 refine L_cons rfl (O_call (args := [.agg (imgCells m).toArray]) rfl rfl rfl en14 (iright_c m _ (hs3.r) hb) ?_)
 rintro _ w5 ⟨rfl, hk7⟩
 have hs6 := hs3.keep hk7
 refine L_cons rfl (O_not (b := (rightS m)) rfl rfl ?_)
 refine L_nil (thenQ_n ?_)
 refine W_cond (t := (!(rightS m))) rfl (fun hc8 => ?_) (fun hc8 => ?_)
 ·try simp only [Bool.and_eq_true, Bool.or_eq_true, Bool.not_eq_true', Bool.and_eq_false_iff, Bool.or_eq_false_iff, Bool.not_eq_false', decide_eq_true_eq, decide_eq_false_iff_not, Bool.and_eq_false_imp] at hc8
  refine W_seq (W_region ?_)
  refine L_cons rfl (O_assign (v := .slice none 0 0) rfl rfl ?_)
  refine L_nil (thenQ_n (W_ret (thenQ_r ?_)))
  refine ⟨.slice none 0 0, res1 rfl, ?_⟩
  have he : pairsS m k = [] := by unfold pairsS; rw [if_neg (by rw [hc8]; simp)]
  exact ⟨⟨none, 0, by rw [he]; rfl, by rw [he]; exact ⟨rfl, Nat.le_refl _, .inl ⟨rfl, rfl⟩⟩, fun x ⟨o, e⟩ => by cases e⟩, hs6.base⟩
 ·try simp only [Bool.and_eq_true, Bool.or_eq_true, Bool.not_eq_true', Bool.and_eq_false_iff, Bool.or_eq_false_iff, Bool.not_eq_false', decide_eq_true_eq, decide_eq_false_iff_not, Bool.and_eq_false_imp] at hc8
  refine W_skip (thenQ_n (W_seq (W_seq ?_)))
  have hright : rightS m = true := by simpa using hc8
  have hok := rightS_ok hright
  have := hok.n4; have := hok.l16
  refine W_region ?_
  refine L_cons rfl (O_fieldAddr rfl fd26_4 rfl (o' := 4) rfl rfl ?_)
  refine L_cons rfl (O_load (v := .slice m.la m.links.length m.lcap) rfl ag23 (cell_of_blk (hs6.get 0 rfl) rfl) rfl ?_)
  refine L_cons rfl (O_len_slice (len := m.links.length) rfl un23 rfl ?_)
  refine L_cons rfl (O_move (v := .int .i64 0) rfl rfl ?_)
  refine L_nil (thenQ_n (W_block ?_))
  have hs9 := hs6.ownNil 40 12
  refine W_loopm (fun m_ f_ w_ => ∃ i : Nat, ∃ a5 : Option Addr, ∃ c5 : Nat, m_ = m.links.length - i ∧ (i ≤ m.links.length) ∧ f_ 1 = .int .i64 k ∧ f_ 2 = .pointer (some ⟨b1, 0, none⟩) ∧ f_ 5 = .slice a5 ((prTo m k i).length) c5 ∧ f_ 15 = .slice m.la m.links.length m.lcap ∧ f_ 16 = .int .i64 ((m.links.length : Nat) : Int) ∧ f_ 17 = .int .i64 ((i : Nat) : Int) ∧ St w (fun _ => False) w_ [ownI 40 12 a5 c5 ((prTo m k i).length) ((prTo m k i).flatMap encPair), blk b1 (imgCells m) 26] (imgIs m)) ?_ ?_
  ·exact ⟨_, 0, none, 0, rfl, by omega, rfl, rfl, rfl, rfl, rfl, rfl, hs9⟩
  ·intro m13 f10 w11; rintro ⟨i, a5, c5, rfl, hi, e14, e15, e16, e17, e18, e19, hs12⟩
   rewrite [upd_id e14]
   rewrite [upd_id e15]
   rewrite [upd_id e16]
   rewrite [upd_id e17]
   rewrite [upd_id e18]
   rewrite [upd_id e19]
   refine W_seq (W_region ?_)
   refine L_cons rfl (O_bin (k := .i64) (k' := .i64) (a := ((i : Nat) : Int)) (b := ((m.links.length : Nat) : Int)) rfl rfl rfl b_lss ?_)
   refine L_nil (thenQ_n (W_seq ?_))
   refine W_cond_d rfl (fun hc20 => ?_) (fun hc20 => ?_)
   ·refine W_skip (thenQ_n (W_seq (W_block (W_seq (W_region ?_)))))
    obtain ⟨b21, o22, ha23, hs24⟩ := hs12.elem 1 rfl i (by omega)
    refine L_cons rfl (O_indexAddr_at rfl ha23 rfl un23 sz68 (by omega) (by omega) (o' := o22 + i * 3) (by omega) rfl ?_)
    refine L_cons rfl (O_load_agg (vs := [.int .i64 ((m.links[i]'(by omega)).fr), .int .i64 ((m.links[i]'(by omega)).to), .int .i64 ((m.links[i]'(by omega)).ad)]) rfl ag68 sz68 ((hs24.getR 0 rfl).2) rfl rfl ?_)
    refine L_cons rfl (O_alloc (cs := [.int .i64 0, .int .i64 0, .int .i64 0]) hs24 zv68 rfl rfl ?_)
    intro b25 w26 hb28 hs27
    refine L_cons rfl (O_store (v := .agg #[.int .i64 ((m.links[i]'(by omega)).fr), .int .i64 ((m.links[i]'(by omega)).to), .int .i64 ((m.links[i]'(by omega)).ad)]) (vs := [.int .i64 ((m.links[i]'(by omega)).fr), .int .i64 ((m.links[i]'(by omega)).to), .int .i64 ((m.links[i]'(by omega)).ad)]) (cs' := [.int .i64 ((m.links[i]'(by omega)).fr), .int .i64 ((m.links[i]'(by omega)).to), .int .i64 ((m.links[i]'(by omega)).ad)]) hs27 0 rfl rfl rfl sz68 rfl rfl rfl rfl rfl ?_)
    intro w29 hs30
    refine L_nil (thenQ_n (W_seq (W_seq (W_region ?_))))
    refine L_cons rfl (O_fieldAddr rfl fd68_0 rfl (o' := 0) rfl rfl ?_)
    refine L_cons rfl (O_load (v := .int .i64 ((m.links[i]'(by omega)).fr)) rfl ag3 (cell_of_blk (hs30.get 0 rfl) rfl) rfl ?_)
    refine L_cons rfl (O_move (v := .int .i64 k) rfl rfl ?_)
    refine L_cons rfl (O_bin (k := .i64) (k' := .i64) (a := ((m.links[i]'(by omega)).fr)) (b := k) rfl rfl rfl b_neq ?_)
    refine L_nil (thenQ_n ?_)
    refine W_cond_d rfl (fun hc31 => ?_) (fun hc31 => ?_)
    ·refine W_exit (thenQ_e (blockQ_x (thenQ_n ?_)))
     have hno := prTo_no (m := m) (k := k) (i := i) (by omega) hc31
     have hs32 : St w (fun _ => False) w29 [blk b25 [.int .i64 ((m.links[i]'(by omega)).fr), .int .i64 ((m.links[i]'(by omega)).to), .int .i64 ((m.links[i]'(by omega)).ad)] 68, ownI 40 12 a5 c5 ((prTo m k (i + 1)).length) ((prTo m k (i + 1)).flatMap encPair), blk b1 (imgCells m) 26] [rdI b21 (o22 + i * 3) (encLink (m.links[i]'(by omega))), arrI encComp 2 m.ca m.comps, arrI encLink 3 m.la m.links, arrI encShare 2 m.sa m.shares, codesI m.comps] := by rw [hno]; exact hs30
     refine W_region ?_
     refine L_cons rfl (O_bin (v := .int .i64 ((i + 1 : Nat) : Int)) rfl rfl rfl (b_add (wrap_i64e (by omega) (by omega))) ?_)
     refine L_cons rfl (O_move (v := .int .i64 ((i + 1 : Nat) : Int)) rfl rfl ?_)
     refine L_nil (thenQ_n ?_)
     refine ⟨_, ?_, i + 1, a5, c5, rfl, by omega, rfl, rfl, (congrArg (fun z : List (CapV × CapV) => Value.slice a5 z.length c5) hno.symm), rfl, rfl, rfl, hs32.popR.popM⟩
     omega
    ·refine W_skip (thenQ_n (W_seq (W_region ?_)))
     refine L_cons rfl (O_load_agg (vs := (imgCells m)) rfl ag26 sz26 (Rd.of_blk (hs30.get 2 rfl) 0 6) rfl rfl ?_)
     refine L_cons rfl (O_fieldAddr rfl fd68_1 rfl (o' := 1) rfl rfl ?_)
     refine L_cons rfl (O_load (v := .int .i64 ((m.links[i]'(by omega)).to)) rfl ag3 (cell_of_blk (hs30.get 0 rfl) rfl) rfl ?_)
     refine L_cons rfl (O_call (args := [.agg (imgCells m).toArray, .int .i64 ((m.links[i]'(by omega)).to)]) rfl rfl rfl en25 (grants_c m ((m.links[i]'(by omega)).to) _ (hs30.popR.r) hb) ?_)
     rintro _ w35 ⟨⟨a33, c34, rfl, ha37, hn38⟩, hk39⟩
     have hs36 := hs30.add hk39 (ownI 39 6 a33 c34 ((grantsS m ((m.links[i]'(by omega)).to)).length) ((grantsS m ((m.links[i]'(by omega)).to)).flatMap encCap)) ha37 hn38
     refine L_cons rfl (O_assign (v := .slice a33 ((grantsS m ((m.links[i]'(by omega)).to)).length) c34) rfl rfl ?_)
     refine L_nil (thenQ_n (W_seq ?_))
     have hs40 := hs36.ownArr 0 (enc := encCap) (l := (grantsS m (m.links[i]'(by omega)).to)) rfl (fun _ => rfl) (by decide)
     have hlk := linkS_ok (hok.link _ (List.getElem_mem (by omega : i < m.links.length)))
     have hgl := grants_len (m := m) (k := (m.links[i]'(by omega)).to) hright (by omega) (by omega)
     obtain ⟨g0, g1⟩ := grants_01 (m := m) (k := (m.links[i]'(by omega)).to) hright (by omega) (by omega) (by omega)
     have hcb := codeAt_b hok (i := (m.links[i]'(by omega)).to.toNat) (by omega); have had := link_ad hok (List.getElem_mem (by omega : i < m.links.length))
     obtain ⟨b41, o42, ha43, hs44⟩ := hs40.elem 0 rfl 0 (by omega)
     rw [g0] at hs44
     obtain ⟨b45, o46, ha47, hs48⟩ := hs44.elem 1 rfl 1 (by omega)
     rw [g1] at hs48
     refine W_par' mixed (show St _ _ _ [blk b25 [.int .i64 ((m.links[i]'(by omega)).fr), .int .i64 ((m.links[i]'(by omega)).to), .int .i64 ((m.links[i]'(by omega)).ad)] 68, ownI 40 12 a5 c5 ((prTo m k i).length) ((prTo m k i).flatMap encPair), blk b1 (imgCells m) 26] _ from hs48) (fun i_ => match i_ with | 6 => some ([9], fun vs_ => match vs_ with | [x9] => blk (vblk x9) [.bool false, .int .i64 0, .int .i64 0, .int .i64 0, .int .i64 0, .int .i64 0] 39 | _ => emp) | 7 => some ([10], fun vs_ => match vs_ with | [x10] => blk (vblk x10) [.bool false, .int .i64 0, .int .i64 0, .int .i64 0, .int .i64 0, .int .i64 0] 39 | _ => emp) | 8 => some ([9], fun vs_ => match vs_ with | [x9] => blk (vblk x9) [.bool true, .int .i64 ((codeAt m (m.links[i]'(by omega)).to.toNat).1), .int .i64 ((codeAt m (m.links[i]'(by omega)).to.toNat).2), .int .i64 ((codeAt m (m.links[i]'(by omega)).to.toNat).1), .int .i64 5, .int .i64 0] 39 | _ => emp) | 9 => some ([10], fun vs_ => match vs_ with | [x10] => blk (vblk x10) [.bool true, .int .i64 ((dataAt m (m.links[i]'(by omega)).to.toNat).1), .int .i64 ((dataAt m (m.links[i]'(by omega)).to.toNat).2), .int .i64 ((dataAt m (m.links[i]'(by omega)).to.toNat).1), .int .i64 27, .int .i64 0] 39 | _ => emp) | _ => none) (fun i_ => match i_ with | 8 => [6] | 9 => [7] | _ => []) (fun i_ => match i_ with | _ => []) (fun i_ => match i_ with | 1 => [0] | 2 => [1] | 4 => [3] | 5 => [4] | 8 => [6, 2] | 9 => [7, 5] | _ => []) [9, 8, 10, 11, 12, 0, 1, 2, 3, 4, 5, 13, 14, 15, 16, 17, 18, 19, 20, 21, 22] [6, 7] (fun i_ v_ => match i_ with | 0 => v_ = .slice a33 ((grantsS m ((m.links[i]'(by omega)).to)).length) c34 | 1 => v_ = .pointer (some ⟨b41, o42 + 0 * 6, none⟩) | 2 => v_ = .agg #[.bool true, .int .i64 ((codeAt m (m.links[i]'(by omega)).to.toNat).1), .int .i64 ((codeAt m (m.links[i]'(by omega)).to.toNat).2), .int .i64 ((codeAt m (m.links[i]'(by omega)).to.toNat).1), .int .i64 5, .int .i64 0] | 3 => v_ = .slice a33 ((grantsS m ((m.links[i]'(by omega)).to)).length) c34 | 4 => v_ = .pointer (some ⟨b45, o46 + 1 * 6, none⟩) | 5 => v_ = .agg #[.bool true, .int .i64 ((dataAt m (m.links[i]'(by omega)).to.toNat).1), .int .i64 ((dataAt m (m.links[i]'(by omega)).to.toNat).2), .int .i64 ((dataAt m (m.links[i]'(by omega)).to.toNat).1), .int .i64 27, .int .i64 0] | 6 => ∃ b49 : Nat, v_ = .pointer (some ⟨b49, 0, none⟩) | 7 => ∃ b53 : Nat, v_ = .pointer (some ⟨b53, 0, none⟩) | _ => True) (by kernel_rfl) (by kernel_rfl) ⟨?_, ?_, ?_, ?_, ?_, ?_, ?_, ?_, ?_, ?_, trivial⟩ ?_
     ·intro f0_ w0_ X0_ hfr hus hrd hst
      have hb8 : f0_ 8 = .slice a33 ((grantsS m ((m.links[i]'(by omega)).to)).length) c34 := (hfr 8 rfl)
      refine og_none rfl (O_move (v := .slice a33 ((grantsS m ((m.links[i]'(by omega)).to)).length) c34) hb8 rfl ?_)
      exact ⟨.slice a33 ((grantsS m ((m.links[i]'(by omega)).to)).length) c34, rfl, rfl, hst⟩
     ·intro f1_ w1_ X1_ hfr hus hrd hst
      obtain ⟨hu0, -⟩ := hus
      have hu0 : f1_ 29 = .slice a33 ((grantsS m ((m.links[i]'(by omega)).to)).length) c34 := hu0
      refine og_none rfl (O_indexAddr_at hu0 ha43 rfl un48 sz39 (by omega) (by omega) (o' := o42 + 0 * 6) (by omega) rfl ?_)
      exact ⟨.pointer (some ⟨b41, o42 + 0 * 6, none⟩), rfl, rfl, hst⟩
     ·intro f2_ w2_ X2_ hfr hus hrd hst
      obtain ⟨hu1, -⟩ := hus
      have hu1 : f2_ 30 = .pointer (some ⟨b41, o42 + 0 * 6, none⟩) := hu1
      refine og_none rfl (O_load_agg (vs := [.bool true, .int .i64 ((codeAt m (m.links[i]'(by omega)).to.toNat).1), .int .i64 ((codeAt m (m.links[i]'(by omega)).to.toNat).2), .int .i64 ((codeAt m (m.links[i]'(by omega)).to.toNat).1), .int .i64 5, .int .i64 0]) hu1 ag39 sz39 ((hst.getR 1 rfl).2) rfl rfl ?_)
      exact ⟨.agg #[.bool true, .int .i64 ((codeAt m (m.links[i]'(by omega)).to.toNat).1), .int .i64 ((codeAt m (m.links[i]'(by omega)).to.toNat).2), .int .i64 ((codeAt m (m.links[i]'(by omega)).to.toNat).1), .int .i64 5, .int .i64 0], rfl, rfl, hst⟩
     ·intro f3_ w3_ X3_ hfr hus hrd hst
      have hb8 : f3_ 8 = .slice a33 ((grantsS m ((m.links[i]'(by omega)).to)).length) c34 := (hfr 8 rfl)
      refine og_none rfl (O_move (v := .slice a33 ((grantsS m ((m.links[i]'(by omega)).to)).length) c34) hb8 rfl ?_)
      exact ⟨.slice a33 ((grantsS m ((m.links[i]'(by omega)).to)).length) c34, rfl, rfl, hst⟩
     ·intro f4_ w4_ X4_ hfr hus hrd hst
      obtain ⟨hu3, -⟩ := hus
      have hu3 : f4_ 32 = .slice a33 ((grantsS m ((m.links[i]'(by omega)).to)).length) c34 := hu3
      refine og_none rfl (O_indexAddr_at hu3 ha47 rfl un48 sz39 (by omega) (by omega) (o' := o46 + 1 * 6) (by omega) rfl ?_)
      exact ⟨.pointer (some ⟨b45, o46 + 1 * 6, none⟩), rfl, rfl, hst⟩
     ·intro f5_ w5_ X5_ hfr hus hrd hst
      obtain ⟨hu4, -⟩ := hus
      have hu4 : f5_ 33 = .pointer (some ⟨b45, o46 + 1 * 6, none⟩) := hu4
      refine og_none rfl (O_load_agg (vs := [.bool true, .int .i64 ((dataAt m (m.links[i]'(by omega)).to.toNat).1), .int .i64 ((dataAt m (m.links[i]'(by omega)).to.toNat).2), .int .i64 ((dataAt m (m.links[i]'(by omega)).to.toNat).1), .int .i64 27, .int .i64 0]) hu4 ag39 sz39 ((hst.getR 0 rfl).2) rfl rfl ?_)
      exact ⟨.agg #[.bool true, .int .i64 ((dataAt m (m.links[i]'(by omega)).to.toNat).1), .int .i64 ((dataAt m (m.links[i]'(by omega)).to.toNat).2), .int .i64 ((dataAt m (m.links[i]'(by omega)).to.toNat).1), .int .i64 27, .int .i64 0], rfl, rfl, hst⟩
     ·intro f6_ w6_ X6_ hfr hus hrd hst
      refine og_none rfl (O_alloc (cs := [.bool false, .int .i64 0, .int .i64 0, .int .i64 0, .int .i64 0, .int .i64 0]) hst zv39 rfl rfl ?_)
      intro b49 w50 hb52 hs51
      refine ⟨.pointer (some ⟨b49, 0, none⟩), rfl, ⟨_, rfl⟩, ?_⟩
      show St _ _ _ ((blk (vblk ((upd f6_ 9 (.pointer (some ⟨b49, 0, none⟩))) 9)) [.bool false, .int .i64 0, .int .i64 0, .int .i64 0, .int .i64 0, .int .i64 0] 39) :: X6_) _
      exact hs51
     ·intro f7_ w7_ X7_ hfr hus hrd hst
      refine og_none rfl (O_alloc (cs := [.bool false, .int .i64 0, .int .i64 0, .int .i64 0, .int .i64 0, .int .i64 0]) hst zv39 rfl rfl ?_)
      intro b53 w54 hb56 hs55
      refine ⟨.pointer (some ⟨b53, 0, none⟩), rfl, ⟨_, rfl⟩, ?_⟩
      show St _ _ _ ((blk (vblk ((upd f7_ 10 (.pointer (some ⟨b53, 0, none⟩))) 10)) [.bool false, .int .i64 0, .int .i64 0, .int .i64 0, .int .i64 0, .int .i64 0] 39) :: X7_) _
      exact hs55
     ·intro f8_ w8_ X8_ hfr hus hrd hst
      obtain ⟨hu6, hu2, -⟩ := hus
      obtain ⟨b49, hu6⟩ := (show ∃ b49 : Nat, f8_ 9 = .pointer (some ⟨b49, 0, none⟩) from hu6)
      have hu2 : f8_ 31 = .agg #[.bool true, .int .i64 ((codeAt m (m.links[i]'(by omega)).to.toNat).1), .int .i64 ((codeAt m (m.links[i]'(by omega)).to.toNat).2), .int .i64 ((codeAt m (m.links[i]'(by omega)).to.toNat).1), .int .i64 5, .int .i64 0] := hu2
      have hst : St _ _ _ ((blk (vblk (f8_ 9)) [.bool false, .int .i64 0, .int .i64 0, .int .i64 0, .int .i64 0, .int .i64 0] 39) :: X8_) _ := hst
      rw [hu6] at hst; simp only [vblk, vaddr, vcap, vcell] at hst
      refine og_none rfl (O_store (v := .agg #[.bool true, .int .i64 ((codeAt m (m.links[i]'(by omega)).to.toNat).1), .int .i64 ((codeAt m (m.links[i]'(by omega)).to.toNat).2), .int .i64 ((codeAt m (m.links[i]'(by omega)).to.toNat).1), .int .i64 5, .int .i64 0]) (vs := [.bool true, .int .i64 ((codeAt m (m.links[i]'(by omega)).to.toNat).1), .int .i64 ((codeAt m (m.links[i]'(by omega)).to.toNat).2), .int .i64 ((codeAt m (m.links[i]'(by omega)).to.toNat).1), .int .i64 5, .int .i64 0]) (cs' := [.bool true, .int .i64 ((codeAt m (m.links[i]'(by omega)).to.toNat).1), .int .i64 ((codeAt m (m.links[i]'(by omega)).to.toNat).2), .int .i64 ((codeAt m (m.links[i]'(by omega)).to.toNat).1), .int .i64 5, .int .i64 0]) hst 0 rfl hu6 hu2 sz39 rfl rfl rfl rfl rfl ?_)
      intro w57 hs58
      refine ⟨undef, rfl, trivial, ?_⟩
      show St _ _ _ ((blk (vblk (f8_ 9)) [.bool true, .int .i64 ((codeAt m (m.links[i]'(by omega)).to.toNat).1), .int .i64 ((codeAt m (m.links[i]'(by omega)).to.toNat).2), .int .i64 ((codeAt m (m.links[i]'(by omega)).to.toNat).1), .int .i64 5, .int .i64 0] 39) :: X8_) _
      rw [show (f8_) 9 = _ from hu6]
      exact hs58
     ·intro f9_ w9_ X9_ hfr hus hrd hst
      obtain ⟨hu7, hu5, -⟩ := hus
      obtain ⟨b53, hu7⟩ := (show ∃ b53 : Nat, f9_ 10 = .pointer (some ⟨b53, 0, none⟩) from hu7)
      have hu5 : f9_ 34 = .agg #[.bool true, .int .i64 ((dataAt m (m.links[i]'(by omega)).to.toNat).1), .int .i64 ((dataAt m (m.links[i]'(by omega)).to.toNat).2), .int .i64 ((dataAt m (m.links[i]'(by omega)).to.toNat).1), .int .i64 27, .int .i64 0] := hu5
      have hst : St _ _ _ ((blk (vblk (f9_ 10)) [.bool false, .int .i64 0, .int .i64 0, .int .i64 0, .int .i64 0, .int .i64 0] 39) :: X9_) _ := hst
      rw [hu7] at hst; simp only [vblk, vaddr, vcap, vcell] at hst
      refine og_none rfl (O_store (v := .agg #[.bool true, .int .i64 ((dataAt m (m.links[i]'(by omega)).to.toNat).1), .int .i64 ((dataAt m (m.links[i]'(by omega)).to.toNat).2), .int .i64 ((dataAt m (m.links[i]'(by omega)).to.toNat).1), .int .i64 27, .int .i64 0]) (vs := [.bool true, .int .i64 ((dataAt m (m.links[i]'(by omega)).to.toNat).1), .int .i64 ((dataAt m (m.links[i]'(by omega)).to.toNat).2), .int .i64 ((dataAt m (m.links[i]'(by omega)).to.toNat).1), .int .i64 27, .int .i64 0]) (cs' := [.bool true, .int .i64 ((dataAt m (m.links[i]'(by omega)).to.toNat).1), .int .i64 ((dataAt m (m.links[i]'(by omega)).to.toNat).2), .int .i64 ((dataAt m (m.links[i]'(by omega)).to.toNat).1), .int .i64 27, .int .i64 0]) hst 0 rfl hu7 hu5 sz39 rfl rfl rfl rfl rfl ?_)
      intro w59 hs60
      refine ⟨undef, rfl, trivial, ?_⟩
      show St _ _ _ ((blk (vblk (f9_ 10)) [.bool true, .int .i64 ((dataAt m (m.links[i]'(by omega)).to.toNat).1), .int .i64 ((dataAt m (m.links[i]'(by omega)).to.toNat).2), .int .i64 ((dataAt m (m.links[i]'(by omega)).to.toNat).1), .int .i64 27, .int .i64 0] 39) :: X9_) _
      rw [show (f9_) 10 = _ from hu7]
      exact hs60
     intro f61 w62 hfr hus hs63
     obtain ⟨hu6, hu7, -⟩ := hus
     obtain ⟨b49, hu6⟩ := (show ∃ b49 : Nat, f61 9 = .pointer (some ⟨b49, 0, none⟩) from hu6)
     obtain ⟨b53, hu7⟩ := (show ∃ b53 : Nat, f61 10 = .pointer (some ⟨b53, 0, none⟩) from hu7)
     have hs63 : St _ _ _ [blk (vblk (f61 10)) [.bool true, .int .i64 ((dataAt m (m.links[i]'(by omega)).to.toNat).1), .int .i64 ((dataAt m (m.links[i]'(by omega)).to.toNat).2), .int .i64 ((dataAt m (m.links[i]'(by omega)).to.toNat).1), .int .i64 27, .int .i64 0] 39, blk (vblk (f61 9)) [.bool true, .int .i64 ((codeAt m (m.links[i]'(by omega)).to.toNat).1), .int .i64 ((codeAt m (m.links[i]'(by omega)).to.toNat).2), .int .i64 ((codeAt m (m.links[i]'(by omega)).to.toNat).1), .int .i64 5, .int .i64 0] 39, blk b25 [.int .i64 ((m.links[i]'(by omega)).fr), .int .i64 ((m.links[i]'(by omega)).to), .int .i64 ((m.links[i]'(by omega)).ad)] 68, ownI 40 12 a5 c5 ((prTo m k i).length) ((prTo m k i).flatMap encPair), blk b1 (imgCells m) 26] _ := hs63
     simp only [hu6, hu7, vblk, vaddr, vcap, vcell] at hs63
     have hs63 : St _ _ _ [blk b53 [.bool true, .int .i64 ((dataAt m (m.links[i]'(by omega)).to.toNat).1), .int .i64 ((dataAt m (m.links[i]'(by omega)).to.toNat).2), .int .i64 ((dataAt m (m.links[i]'(by omega)).to.toNat).1), .int .i64 27, .int .i64 0] 39, blk b49 [.bool true, .int .i64 ((codeAt m (m.links[i]'(by omega)).to.toNat).1), .int .i64 ((codeAt m (m.links[i]'(by omega)).to.toNat).2), .int .i64 ((codeAt m (m.links[i]'(by omega)).to.toNat).1), .int .i64 5, .int .i64 0] 39, blk b25 [.int .i64 ((m.links[i]'(by omega)).fr), .int .i64 ((m.links[i]'(by omega)).to), .int .i64 ((m.links[i]'(by omega)).ad)] 68, ownI 40 12 a5 c5 ((prTo m k i).length) ((prTo m k i).flatMap encPair), blk b1 (imgCells m) 26] _ := hs63
     have e64 : f61 1 = .int .i64 k := (hfr 1 rfl)
     rewrite [upd_id e64]
     have e65 : f61 2 = .pointer (some ⟨b1, 0, none⟩) := (hfr 2 rfl)
     rewrite [upd_id e65]
     have e66 : f61 5 = .slice a5 ((prTo m k i).length) c5 := (hfr 5 rfl)
     rewrite [upd_id e66]
     have e67 : f61 7 = .pointer (some ⟨b25, 0, none⟩) := (hfr 7 rfl)
     rewrite [upd_id e67]
     rewrite [upd_id hu6]
     rewrite [upd_id hu7]
     have e68 : f61 15 = .slice m.la m.links.length m.lcap := (hfr 15 rfl)
     rewrite [upd_id e68]
     have e69 : f61 16 = .int .i64 ((m.links.length : Nat) : Int) := (hfr 16 rfl)
     rewrite [upd_id e69]
     have e70 : f61 17 = .int .i64 ((i : Nat) : Int) := (hfr 17 rfl)
     rewrite [upd_id e70]
     refine thenQ_n (W_seq (W_region ?_))
     refine L_cons rfl (O_fieldAddr rfl fd39_3 rfl (o' := 3) rfl rfl ?_)
     refine L_cons rfl (O_load (v := .int .i64 ((codeAt m (m.links[i]'(by omega)).to.toNat).1)) rfl ag3 (cell_of_blk (hs63.get 1 rfl) rfl) rfl ?_)
     refine L_cons rfl (O_fieldAddr rfl fd68_2 rfl (o' := 2) rfl rfl ?_)
     refine L_cons rfl (O_load (v := .int .i64 ((m.links[i]'(by omega)).ad)) rfl ag3 (cell_of_blk (hs63.get 2 rfl) rfl) rfl ?_)
     refine L_cons rfl (O_bin (v := .int .i64 (4 * ((m.links[i]'(by omega)).ad))) rfl rfl rfl (b_mul (wrap_i64e (by omega) (by omega))) ?_)
     refine L_cons rfl (O_bin (v := .int .i64 (((codeAt m (m.links[i]'(by omega)).to.toNat).1) + (4 * ((m.links[i]'(by omega)).ad)))) rfl rfl rfl (b_add (wrap_i64e (by omega) (by omega))) ?_)
     refine L_cons rfl (O_fieldAddr rfl fd39_3 rfl (o' := 3) rfl rfl ?_)
     refine L_cons rfl (O_store (v := .int .i64 (((codeAt m (m.links[i]'(by omega)).to.toNat).1) + (4 * ((m.links[i]'(by omega)).ad)))) (vs := [.int .i64 (((codeAt m (m.links[i]'(by omega)).to.toNat).1) + (4 * ((m.links[i]'(by omega)).ad)))]) (cs' := [.bool true, .int .i64 ((codeAt m (m.links[i]'(by omega)).to.toNat).1), .int .i64 ((codeAt m (m.links[i]'(by omega)).to.toNat).2), .int .i64 (((codeAt m (m.links[i]'(by omega)).to.toNat).1) + (4 * ((m.links[i]'(by omega)).ad))), .int .i64 5, .int .i64 0]) hs63 1 rfl rfl rfl sz3 rfl rfl rfl rfl rfl ?_)
     intro w71 hs72
     refine L_nil (thenQ_n (W_seq ?_))
     refine W_par' mixed (show St _ _ _ [blk b53 [.bool true, .int .i64 ((dataAt m (m.links[i]'(by omega)).to.toNat).1), .int .i64 ((dataAt m (m.links[i]'(by omega)).to.toNat).2), .int .i64 ((dataAt m (m.links[i]'(by omega)).to.toNat).1), .int .i64 27, .int .i64 0] 39, blk b49 [.bool true, .int .i64 ((codeAt m (m.links[i]'(by omega)).to.toNat).1), .int .i64 ((codeAt m (m.links[i]'(by omega)).to.toNat).2), .int .i64 (((codeAt m (m.links[i]'(by omega)).to.toNat).1) + (4 * ((m.links[i]'(by omega)).ad))), .int .i64 5, .int .i64 0] 39, blk b25 [.int .i64 ((m.links[i]'(by omega)).fr), .int .i64 ((m.links[i]'(by omega)).to), .int .i64 ((m.links[i]'(by omega)).ad)] 68, ownI 40 12 a5 c5 ((prTo m k i).length) ((prTo m k i).flatMap encPair), blk b1 (imgCells m) 26] _ from hs72) (fun i_ => match i_ with | 7 => some ([], fun _ => blk b49 [.bool true, .int .i64 ((codeAt m (m.links[i]'(by omega)).to.toNat).1), .int .i64 ((codeAt m (m.links[i]'(by omega)).to.toNat).2), .int .i64 (((codeAt m (m.links[i]'(by omega)).to.toNat).1) + (4 * ((m.links[i]'(by omega)).ad))), .int .i64 5, .int .i64 (2 + ((m.links[i]'(by omega)).to))] 39) | 9 => some ([], fun _ => blk b53 [.bool true, .int .i64 ((dataAt m (m.links[i]'(by omega)).to.toNat).1), .int .i64 ((dataAt m (m.links[i]'(by omega)).to.toNat).2), .int .i64 ((dataAt m (m.links[i]'(by omega)).to.toNat).1), .int .i64 27, .int .i64 (2 + ((m.links[i]'(by omega)).to))] 39) | _ => none) (fun i_ => match i_ with | 7 => [11] | 9 => [10] | _ => []) (fun i_ => match i_ with | 1 => [12] | 4 => [12] | _ => []) (fun i_ => match i_ with | 1 => [0] | 2 => [1] | 4 => [3] | 5 => [4] | 7 => [6, 2] | 9 => [8, 5] | _ => []) [9, 7, 12, 13, 14, 0, 1, 2, 3, 4, 5, 6, 8, 15, 16, 17, 18, 19, 20, 21, 22, 23, 24] [] (fun i_ v_ => match i_ with | 0 => v_ = .pointer (some ⟨b25, 1, none⟩) | 1 => v_ = .int .i64 ((m.links[i]'(by omega)).to) | 2 => v_ = .int .i64 (2 + ((m.links[i]'(by omega)).to)) | 3 => v_ = .pointer (some ⟨b25, 1, none⟩) | 4 => v_ = .int .i64 ((m.links[i]'(by omega)).to) | 5 => v_ = .int .i64 (2 + ((m.links[i]'(by omega)).to)) | 6 => v_ = .pointer (some ⟨b49, 5, none⟩) | 8 => v_ = .pointer (some ⟨b53, 5, none⟩) | _ => True) (by kernel_rfl) (by kernel_rfl) ⟨?_, ?_, ?_, ?_, ?_, ?_, ?_, ?_, ?_, ?_, trivial⟩ ?_
     ·intro f0_ w0_ X0_ hfr hus hrd hst
      have hb7 : f0_ 7 = .pointer (some ⟨b25, 0, none⟩) := (hfr 7 rfl)
      refine og_none rfl (O_fieldAddr hb7 fd68_1 rfl (o' := 1) rfl rfl ?_)
      exact ⟨.pointer (some ⟨b25, 1, none⟩), rfl, rfl, hst⟩
     ·intro f1_ w1_ X1_ hfr hus hrd hst
      obtain ⟨hu0, -⟩ := hus
      have hu0 : f1_ 42 = .pointer (some ⟨b25, 1, none⟩) := hu0
      obtain ⟨hr12, -⟩ := hrd
      have hr12 : Item.φ (blk b25 [.int .i64 ((m.links[i]'(by omega)).fr), .int .i64 ((m.links[i]'(by omega)).to), .int .i64 ((m.links[i]'(by omega)).ad)] 68) w1_ := hr12
      refine og_none rfl (O_load (v := .int .i64 ((m.links[i]'(by omega)).to)) hu0 ag3 (cell_of_blk (hr12) rfl) rfl ?_)
      exact ⟨.int .i64 ((m.links[i]'(by omega)).to), rfl, rfl, hst⟩
     ·intro f2_ w2_ X2_ hfr hus hrd hst
      obtain ⟨hu1, -⟩ := hus
      have hu1 : f2_ 43 = .int .i64 ((m.links[i]'(by omega)).to) := hu1
      refine og_none rfl (O_bin (v := .int .i64 (2 + ((m.links[i]'(by omega)).to))) rfl hu1 rfl (b_add (wrap_i64e (by omega) (by omega))) ?_)
      exact ⟨.int .i64 (2 + ((m.links[i]'(by omega)).to)), rfl, rfl, hst⟩
     ·intro f3_ w3_ X3_ hfr hus hrd hst
      have hb7 : f3_ 7 = .pointer (some ⟨b25, 0, none⟩) := (hfr 7 rfl)
      refine og_none rfl (O_fieldAddr hb7 fd68_1 rfl (o' := 1) rfl rfl ?_)
      exact ⟨.pointer (some ⟨b25, 1, none⟩), rfl, rfl, hst⟩
     ·intro f4_ w4_ X4_ hfr hus hrd hst
      obtain ⟨hu3, -⟩ := hus
      have hu3 : f4_ 45 = .pointer (some ⟨b25, 1, none⟩) := hu3
      obtain ⟨hr12, -⟩ := hrd
      have hr12 : Item.φ (blk b25 [.int .i64 ((m.links[i]'(by omega)).fr), .int .i64 ((m.links[i]'(by omega)).to), .int .i64 ((m.links[i]'(by omega)).ad)] 68) w4_ := hr12
      refine og_none rfl (O_load (v := .int .i64 ((m.links[i]'(by omega)).to)) hu3 ag3 (cell_of_blk (hr12) rfl) rfl ?_)
      exact ⟨.int .i64 ((m.links[i]'(by omega)).to), rfl, rfl, hst⟩
     ·intro f5_ w5_ X5_ hfr hus hrd hst
      obtain ⟨hu4, -⟩ := hus
      have hu4 : f5_ 46 = .int .i64 ((m.links[i]'(by omega)).to) := hu4
      refine og_none rfl (O_bin (v := .int .i64 (2 + ((m.links[i]'(by omega)).to))) rfl hu4 rfl (b_add (wrap_i64e (by omega) (by omega))) ?_)
      exact ⟨.int .i64 (2 + ((m.links[i]'(by omega)).to)), rfl, rfl, hst⟩
     ·intro f6_ w6_ X6_ hfr hus hrd hst
      have hb9 : f6_ 9 = .pointer (some ⟨b49, 0, none⟩) := (hfr 9 rfl)
      refine og_none rfl (O_fieldAddr hb9 fd39_5 rfl (o' := 5) rfl rfl ?_)
      exact ⟨.pointer (some ⟨b49, 5, none⟩), rfl, rfl, hst⟩
     ·intro f7_ w7_ X7_ hfr hus hrd hst
      obtain ⟨hu6, hu2, -⟩ := hus
      have hu6 : f7_ 48 = .pointer (some ⟨b49, 5, none⟩) := hu6
      have hu2 : f7_ 44 = .int .i64 (2 + ((m.links[i]'(by omega)).to)) := hu2
      have hst : St _ _ _ ((blk b49 [.bool true, .int .i64 ((codeAt m (m.links[i]'(by omega)).to.toNat).1), .int .i64 ((codeAt m (m.links[i]'(by omega)).to.toNat).2), .int .i64 (((codeAt m (m.links[i]'(by omega)).to.toNat).1) + (4 * ((m.links[i]'(by omega)).ad))), .int .i64 5, .int .i64 0] 39) :: X7_) _ := hst
      refine og_none rfl (O_store (v := .int .i64 (2 + ((m.links[i]'(by omega)).to))) (vs := [.int .i64 (2 + ((m.links[i]'(by omega)).to))]) (cs' := [.bool true, .int .i64 ((codeAt m (m.links[i]'(by omega)).to.toNat).1), .int .i64 ((codeAt m (m.links[i]'(by omega)).to.toNat).2), .int .i64 (((codeAt m (m.links[i]'(by omega)).to.toNat).1) + (4 * ((m.links[i]'(by omega)).ad))), .int .i64 5, .int .i64 (2 + ((m.links[i]'(by omega)).to))]) hst 0 rfl hu6 hu2 sz3 rfl rfl rfl rfl rfl ?_)
      intro w73 hs74
      refine ⟨undef, rfl, trivial, ?_⟩
      show St _ _ _ ((blk b49 [.bool true, .int .i64 ((codeAt m (m.links[i]'(by omega)).to.toNat).1), .int .i64 ((codeAt m (m.links[i]'(by omega)).to.toNat).2), .int .i64 (((codeAt m (m.links[i]'(by omega)).to.toNat).1) + (4 * ((m.links[i]'(by omega)).ad))), .int .i64 5, .int .i64 (2 + ((m.links[i]'(by omega)).to))] 39) :: X7_) _
      exact hs74
     ·intro f8_ w8_ X8_ hfr hus hrd hst
      have hb10 : f8_ 10 = .pointer (some ⟨b53, 0, none⟩) := (hfr 10 rfl)
      refine og_none rfl (O_fieldAddr hb10 fd39_5 rfl (o' := 5) rfl rfl ?_)
      exact ⟨.pointer (some ⟨b53, 5, none⟩), rfl, rfl, hst⟩
     ·intro f9_ w9_ X9_ hfr hus hrd hst
      obtain ⟨hu8, hu5, -⟩ := hus
      have hu8 : f9_ 49 = .pointer (some ⟨b53, 5, none⟩) := hu8
      have hu5 : f9_ 47 = .int .i64 (2 + ((m.links[i]'(by omega)).to)) := hu5
      have hst : St _ _ _ ((blk b53 [.bool true, .int .i64 ((dataAt m (m.links[i]'(by omega)).to.toNat).1), .int .i64 ((dataAt m (m.links[i]'(by omega)).to.toNat).2), .int .i64 ((dataAt m (m.links[i]'(by omega)).to.toNat).1), .int .i64 27, .int .i64 0] 39) :: X9_) _ := hst
      refine og_none rfl (O_store (v := .int .i64 (2 + ((m.links[i]'(by omega)).to))) (vs := [.int .i64 (2 + ((m.links[i]'(by omega)).to))]) (cs' := [.bool true, .int .i64 ((dataAt m (m.links[i]'(by omega)).to.toNat).1), .int .i64 ((dataAt m (m.links[i]'(by omega)).to.toNat).2), .int .i64 ((dataAt m (m.links[i]'(by omega)).to.toNat).1), .int .i64 27, .int .i64 (2 + ((m.links[i]'(by omega)).to))]) hst 0 rfl hu8 hu5 sz3 rfl rfl rfl rfl rfl ?_)
      intro w75 hs76
      refine ⟨undef, rfl, trivial, ?_⟩
      show St _ _ _ ((blk b53 [.bool true, .int .i64 ((dataAt m (m.links[i]'(by omega)).to.toNat).1), .int .i64 ((dataAt m (m.links[i]'(by omega)).to.toNat).2), .int .i64 ((dataAt m (m.links[i]'(by omega)).to.toNat).1), .int .i64 27, .int .i64 (2 + ((m.links[i]'(by omega)).to))] 39) :: X9_) _
      exact hs76
     intro f77 w78 hfr hus hs79
     have hs79 : St _ _ _ [blk b53 [.bool true, .int .i64 ((dataAt m (m.links[i]'(by omega)).to.toNat).1), .int .i64 ((dataAt m (m.links[i]'(by omega)).to.toNat).2), .int .i64 ((dataAt m (m.links[i]'(by omega)).to.toNat).1), .int .i64 27, .int .i64 (2 + ((m.links[i]'(by omega)).to))] 39, blk b49 [.bool true, .int .i64 ((codeAt m (m.links[i]'(by omega)).to.toNat).1), .int .i64 ((codeAt m (m.links[i]'(by omega)).to.toNat).2), .int .i64 (((codeAt m (m.links[i]'(by omega)).to.toNat).1) + (4 * ((m.links[i]'(by omega)).ad))), .int .i64 5, .int .i64 (2 + ((m.links[i]'(by omega)).to))] 39, blk b25 [.int .i64 ((m.links[i]'(by omega)).fr), .int .i64 ((m.links[i]'(by omega)).to), .int .i64 ((m.links[i]'(by omega)).ad)] 68, ownI 40 12 a5 c5 ((prTo m k i).length) ((prTo m k i).flatMap encPair), blk b1 (imgCells m) 26] _ := hs79
     have e80 : f77 1 = .int .i64 k := (hfr 1 rfl)
     rewrite [upd_id e80]
     have e81 : f77 2 = .pointer (some ⟨b1, 0, none⟩) := (hfr 2 rfl)
     rewrite [upd_id e81]
     have e82 : f77 5 = .slice a5 ((prTo m k i).length) c5 := (hfr 5 rfl)
     rewrite [upd_id e82]
     have e83 : f77 9 = .pointer (some ⟨b49, 0, none⟩) := (hfr 9 rfl)
     rewrite [upd_id e83]
     have e84 : f77 10 = .pointer (some ⟨b53, 0, none⟩) := (hfr 10 rfl)
     rewrite [upd_id e84]
     have e85 : f77 15 = .slice m.la m.links.length m.lcap := (hfr 15 rfl)
     rewrite [upd_id e85]
     have e86 : f77 16 = .int .i64 ((m.links.length : Nat) : Int) := (hfr 16 rfl)
     rewrite [upd_id e86]
     have e87 : f77 17 = .int .i64 ((i : Nat) : Int) := (hfr 17 rfl)
     rewrite [upd_id e87]
     refine thenQ_n (W_region ?_)
     refine L_cons rfl (O_move (v := .slice a5 ((prTo m k i).length) c5) rfl rfl ?_)
     refine L_cons rfl (O_load_agg (vs := [.bool true, .int .i64 ((codeAt m (m.links[i]'(by omega)).to.toNat).1), .int .i64 ((codeAt m (m.links[i]'(by omega)).to.toNat).2), .int .i64 (((codeAt m (m.links[i]'(by omega)).to.toNat).1) + (4 * ((m.links[i]'(by omega)).ad))), .int .i64 5, .int .i64 (2 + ((m.links[i]'(by omega)).to))]) rfl ag39 sz39 (Rd.of_blk (hs79.get 1 rfl) 0 6) rfl rfl ?_)
     refine L_cons rfl (O_load_agg (vs := [.bool true, .int .i64 ((dataAt m (m.links[i]'(by omega)).to.toNat).1), .int .i64 ((dataAt m (m.links[i]'(by omega)).to.toNat).2), .int .i64 ((dataAt m (m.links[i]'(by omega)).to.toNat).1), .int .i64 27, .int .i64 (2 + ((m.links[i]'(by omega)).to))]) rfl ag39 sz39 (Rd.of_blk (hs79.get 0 rfl) 0 6) rfl rfl ?_)
     refine L_cons rfl (O_build_arr (ps := [(0, [.bool true, .int .i64 ((codeAt m (m.links[i]'(by omega)).to.toNat).1), .int .i64 ((codeAt m (m.links[i]'(by omega)).to.toNat).2), .int .i64 (((codeAt m (m.links[i]'(by omega)).to.toNat).1) + (4 * ((m.links[i]'(by omega)).ad))), .int .i64 5, .int .i64 (2 + ((m.links[i]'(by omega)).to))]), (1, [.bool true, .int .i64 ((dataAt m (m.links[i]'(by omega)).to.toNat).1), .int .i64 ((dataAt m (m.links[i]'(by omega)).to.toNat).2), .int .i64 ((dataAt m (m.links[i]'(by omega)).to.toNat).1), .int .i64 27, .int .i64 (2 + ((m.links[i]'(by omega)).to))])]) (zero := [.bool false, .int .i64 0, .int .i64 0, .int .i64 0, .int .i64 0, .int .i64 0, .bool false, .int .i64 0, .int .i64 0, .int .i64 0, .int .i64 0, .int .i64 0]) (cells := [.bool true, .int .i64 ((codeAt m (m.links[i]'(by omega)).to.toNat).1), .int .i64 ((codeAt m (m.links[i]'(by omega)).to.toNat).2), .int .i64 (((codeAt m (m.links[i]'(by omega)).to.toNat).1) + (4 * ((m.links[i]'(by omega)).ad))), .int .i64 5, .int .i64 (2 + ((m.links[i]'(by omega)).to)), .bool true, .int .i64 ((dataAt m (m.links[i]'(by omega)).to.toNat).1), .int .i64 ((dataAt m (m.links[i]'(by omega)).to.toNat).2), .int .i64 ((dataAt m (m.links[i]'(by omega)).to.toNat).1), .int .i64 27, .int .i64 (2 + ((m.links[i]'(by omega)).to))]) un40 sz39 zv40 rfl rfl rfl rfl ?_)
     refine L_cons rfl (O_buildSliceR (zl := [.bool false, .int .i64 0, .int .i64 0, .int .i64 0, .int .i64 0, .int .i64 0, .bool false, .int .i64 0, .int .i64 0, .int .i64 0, .int .i64 0, .int .i64 0]) (zs := [.bool false, .int .i64 0, .int .i64 0, .int .i64 0, .int .i64 0, .int .i64 0, .bool false, .int .i64 0, .int .i64 0, .int .i64 0, .int .i64 0, .int .i64 0]) (ps := [(0, [.bool true, .int .i64 ((codeAt m (m.links[i]'(by omega)).to.toNat).1), .int .i64 ((codeAt m (m.links[i]'(by omega)).to.toNat).2), .int .i64 (((codeAt m (m.links[i]'(by omega)).to.toNat).1) + (4 * ((m.links[i]'(by omega)).ad))), .int .i64 5, .int .i64 (2 + ((m.links[i]'(by omega)).to)), .bool true, .int .i64 ((dataAt m (m.links[i]'(by omega)).to.toNat).1), .int .i64 ((dataAt m (m.links[i]'(by omega)).to.toNat).2), .int .i64 ((dataAt m (m.links[i]'(by omega)).to.toNat).1), .int .i64 27, .int .i64 (2 + ((m.links[i]'(by omega)).to))])]) (cs := [.bool true, .int .i64 ((codeAt m (m.links[i]'(by omega)).to.toNat).1), .int .i64 ((codeAt m (m.links[i]'(by omega)).to.toNat).2), .int .i64 (((codeAt m (m.links[i]'(by omega)).to.toNat).1) + (4 * ((m.links[i]'(by omega)).ad))), .int .i64 5, .int .i64 (2 + ((m.links[i]'(by omega)).to)), .bool true, .int .i64 ((dataAt m (m.links[i]'(by omega)).to.toNat).1), .int .i64 ((dataAt m (m.links[i]'(by omega)).to.toNat).2), .int .i64 ((dataAt m (m.links[i]'(by omega)).to.toNat).1), .int .i64 27, .int .i64 (2 + ((m.links[i]'(by omega)).to))]) hs79 un36 sz40 zv40 rfl rfl rfl rfl rfl rfl rfl ?_)
     intro b88 w89 hb91 hs90
     refine L_cons rfl (O_appendE (n2 := (prTo m k (i + 1)).length) (xs2 := (prTo m k (i + 1)).flatMap encPair) hs90 4 rfl rfl rfl un36 ni36 inf40 rfl (Src.rd (news := [.bool true, .int .i64 ((codeAt m (m.links[i]'(by omega)).to.toNat).1), .int .i64 ((codeAt m (m.links[i]'(by omega)).to.toNat).2), .int .i64 (((codeAt m (m.links[i]'(by omega)).to.toNat).1) + (4 * ((m.links[i]'(by omega)).ad))), .int .i64 5, .int .i64 (2 + ((m.links[i]'(by omega)).to)), .bool true, .int .i64 ((dataAt m (m.links[i]'(by omega)).to.toNat).1), .int .i64 ((dataAt m (m.links[i]'(by omega)).to.toNat).2), .int .i64 ((dataAt m (m.links[i]'(by omega)).to.toNat).1), .int .i64 27, .int .i64 (2 + ((m.links[i]'(by omega)).to))]) (Rd.of_blk (hs90.get 0 rfl) 0 12) rfl rfl) (by rw [prTo_yes (by omega) (by simpa using hc31), List.length_append, List.length_singleton]) (by rw [prTo_yes (by omega) (by simpa using hc31), List.flatMap_append]; rfl) (by have := prTo_len m k i; omega) (by have := prTo_len m k i; omega) rfl ?_)
     intro a92 c93 w94 hs95
     refine L_cons rfl (O_assign (v := .slice a92 ((prTo m k (i + 1)).length) c93) rfl rfl ?_)
     refine L_nil (blockQ_n (thenQ_n (W_region ?_)))
     refine L_cons rfl (O_bin (v := .int .i64 ((i + 1 : Nat) : Int)) rfl rfl rfl (b_add (wrap_i64e (by omega) (by omega))) ?_)
     refine L_cons rfl (O_move (v := .int .i64 ((i + 1 : Nat) : Int)) rfl rfl ?_)
     refine L_nil (thenQ_n ?_)
     refine ⟨_, ?_, i + 1, a92, c93, rfl, by omega, rfl, rfl, rfl, rfl, rfl, rfl, hs95.popR.popR.popR.popR.popM.popM.popM.popM⟩
     omega
   ·refine W_exit (thenQ_e (thenQ_e (blockQ_x (thenQ_n (W_seq (W_region ?_))))))
    refine L_cons rfl (O_move (v := .slice a5 ((prTo m k i).length) c5) rfl rfl ?_)
    refine L_cons rfl (O_assign (v := .slice a5 ((prTo m k i).length) c5) rfl rfl ?_)
    refine L_nil (thenQ_n (W_ret ?_))
    refine ⟨.slice a5 ((prTo m k i).length) c5, res1 rfl, ?_⟩
    obtain rfl : i = m.links.length := by omega
    have he : pairsS m k = prTo m k m.links.length := by unfold pairsS; rw [if_pos hright]
    exact ⟨⟨a5, c5, by rw [he], by rw [he]; exact hs12.get 0 rfl, fun x ⟨o, e⟩ => hs12.newB 0 rfl x ⟨o, e⟩⟩, hs12.base⟩

theorem en77 : ∀ args w, (callFunc 77 args).run Try.prog w = .ok (.enter 77 args) w := fun args w => callFunc_run Try.func77 (by kernel_rfl) rfl args w
theorem en85 : ∀ args w, (callFunc 85 args).run Try.prog w = .ok (.enter 85 args) w := fun args w => callFunc_run Try.func85 (by kernel_rfl) rfl args w
theorem en78 : ∀ args w, (callFunc 78 args).run Try.prog w = .ok (.enter 78 args) w := fun args w => callFunc_run Try.func78 (by kernel_rfl) rfl args w
theorem en65 : ∀ args w, (callFunc 65 args).run Try.prog w = .ok (.enter 65 args) w := fun args w => callFunc_run Try.func65 (by kernel_rfl) rfl args w

theorem and_l {a b : Bool} (h : (a && b) = true) : a = true := by simp at h; exact h.1
theorem rright_eq (x : InsV) : ((((!decide ((kindsB x.op).toList = (⟨#[]⟩ : ByteArray).toList)) && (fineN (kindsU x.op 0).toNat x.a)) && (fineN (kindsU x.op 1).toNat x.b)) && (fineN (kindsU x.op 2).toNat x.c)) = insS x := by
 rcases kinds_size x.op with h0 | h3
 ·have h1 : (kindsB x.op).toList = (⟨#[]⟩ : ByteArray).toList := by
   rw [kindsB_toList, List.eq_nil_of_length_eq_zero (show (kindsL x.op).length = 0 from h0), toList_eq]
  have h2 := kinds_none.1 h0
  simp only [h1, decide_true, Bool.not_true, Bool.false_and]
  unfold insS
  rcases h2 with h2 | h2
  ·rw [decide_eq_false (by omega : ¬ 0 ≤ x.op)]; rfl
  ·rw [decide_eq_false (by omega : ¬ x.op ≤ 29)]; simp
 ·have h1 : ¬ (kindsB x.op).toList = (⟨#[]⟩ : ByteArray).toList := by
   intro h
   rw [kindsB_toList] at h
   have h' : (kindsL x.op).length = 3 := h3
   rw [h, toList_eq] at h'; revert h'; decide
  have h2 : ¬ (x.op < 0 ∨ 29 < x.op) := fun h => by have := kinds_none.2 h; omega
  have e : ∀ i, i < 3 → ((kindsB x.op)[i]?.map UInt8.toNat).getD 0 = (kindsU x.op i).toNat := by
   intro i hi
   rw [kindsU_get (by omega)]; rfl
  unfold insS
  rw [decide_eq_true (by omega : 0 ≤ x.op), decide_eq_true (by omega : x.op ≤ 29), h3]
  simp only [h1, decide_false, Bool.not_false, Bool.true_and]
  simp only [show List.range 3 = [0, 1, 2] from rfl, List.all_cons, List.all_nil, Bool.and_true, e 0 (by decide), e 1 (by decide), e 2 (by decide), Bool.and_assoc]
  rfl
theorem getS_none {l : List UInt8} (h : l.length = 4) (hk : (kindsB ((l[0].toNat : Nat) : Int)).toList = (⟨#[]⟩ : ByteArray).toList) : getS l = (insZ, 151) := by
 rw [getS_four h]
 have hop : (insOf l[0] l[1] l[2] l[3]).op = ((l[0].toNat : Nat) : Int) := by unfold insOf; split <;> rfl
 have : insS (insOf l[0] l[1] l[2] l[3]) = false := by rw [← rright_eq, hop, decide_eq_true hk]; rfl
 rw [this]; rfl
theorem wide_of {op : Int} {b : Bool} (hne : ¬ (kindsB op).toList = (⟨#[]⟩ : ByteArray).toList) (h : decide (((kindsU op 1).toNat : Int) = 119) = b) : wideOp op = b := by
 rw [← wide_eq, h, decide_eq_false hne]; cases b <;> rfl
theorem rw_thin {b0 b1 b2 b3 : UInt8} (h : wideOp b0.toNat = false) : (⟨b0.toNat, b1.toNat, b2.toNat, b3.toNat⟩ : InsV) = insOf b0 b1 b2 b3 := (insOf_thin h).symm
theorem rw_big {b0 b1 b2 b3 : UInt8} (h : wideOp b0.toNat = true) (hb : (32768 : Int) ≤ 256 * (b2.toNat : Int) + (b3.toNat : Int)) : (⟨b0.toNat, b1.toNat, 256 * (b2.toNat : Int) + (b3.toNat : Int) - 65536, 0⟩ : InsV) = insOf b0 b1 b2 b3 := by
 rw [insOf_wide h]
 unfold wideN
 rw [if_pos (by omega)]
 congr 1; omega
theorem rw_small {b0 b1 b2 b3 : UInt8} (h : wideOp b0.toNat = true) (hb : ¬ (32768 : Int) ≤ 256 * (b2.toNat : Int) + (b3.toNat : Int)) : (⟨b0.toNat, b1.toNat, 256 * (b2.toNat : Int) + (b3.toNat : Int), 0⟩ : InsV) = insOf b0 b1 b2 b3 := by
 rw [insOf_wide h]
 unfold wideN
 rw [if_neg (by omega)]
 congr 1; omega


theorem en59 : ∀ args w, (callFunc 59 args).run Try.prog w = .ok (.enter 59 args) w := fun args w => callFunc_run Try.func59 (by kernel_rfl) rfl args w
theorem en35 : ∀ args w, (callFunc 35 args).run Try.prog w = .ok (.enter 35 args) w := fun args w => callFunc_run Try.func35 (by kernel_rfl) rfl args w
theorem en40 : ∀ args w, (callFunc 40 args).run Try.prog w = .ok (.enter 40 args) w := fun args w => callFunc_run Try.func40 (by kernel_rfl) rfl args w

theorem rf_snoc {α : Type} {p : α → Bool} {l : List α} {k : Nat} (h : ∀ x ∈ l.take k, p x = true) (hk : k < l.length) (hx : p l[k] = true) : ∀ x ∈ l.take (k + 1), p x = true := by
 intro x hm
 rw [List.take_succ_eq_append_getElem hk, List.mem_append, List.mem_singleton] at hm
 rcases hm with hm | rfl
 ·exact h x hm
 ·exact hx
theorem rf_snocF {α : Type} {p : α → Bool} {l : List α} {k : Nat} (h : ∀ x ∈ l.take k, p x = false) (hk : k < l.length) (hx : p l[k] = false) : ∀ x ∈ l.take (k + 1), p x = false := by
 intro x hm
 rw [List.take_succ_eq_append_getElem hk, List.mem_append, List.mem_singleton] at hm
 rcases hm with hm | rfl
 ·exact h x hm
 ·exact hx
theorem rf_all {α : Type} {p : α → Prop} {l : List α} {k : Nat} (h : ∀ x ∈ l.take k, p x) (hk : l.length ≤ k) : ∀ x ∈ l, p x := by rw [List.take_of_length_le hk] at h; exact h
def E0 (m : ImageV) : Bool := ((((!(withinS m.heap 1 64)) || (!(withinS m.full 1 4096))) || (!(withinS ((m.comps.length : Nat) : Int) 1 4))) || (decide (16 < ((m.links.length : Nat) : Int)))) || (decide (4 < ((m.shares.length : Nat) : Int)))
theorem E0_eq (m : ImageV) : E0 m = !form0S m := by
 have e1 : decide ((16 : Int) < ((m.links.length : Nat) : Int)) = !decide (((m.links.length : Nat) : Int) ≤ 16) := by rw [Bool.eq_iff_iff]; simp
 have e2 : decide ((4 : Int) < ((m.shares.length : Nat) : Int)) = !decide (((m.shares.length : Nat) : Int) ≤ 4) := by rw [Bool.eq_iff_iff]; simp
 unfold E0 form0S
 rw [e1, e2]
 simp only [Bool.not_and, Bool.or_assoc]
theorem formS_split (m : ImageV) : formS m = true ↔ form0S m = true ∧ (∀ c ∈ m.comps, compS c = true) ∧ (∀ l ∈ m.links, linkS m l = true) ∧ manyS m.links = true ∧ ∀ s ∈ m.shares, shareS m s = true := by
 simp only [formS, Bool.and_eq_true, List.all_eq_true, and_assoc]
theorem formS_no {m : ImageV} (h : ¬ (form0S m = true ∧ (∀ c ∈ m.comps, compS c = true) ∧ (∀ l ∈ m.links, linkS m l = true) ∧ manyS m.links = true ∧ ∀ s ∈ m.shares, shareS m s = true)) : formS m = false := by
 cases hf : formS m
 ·rfl
 ·exact absurd ((formS_split m).1 hf) h
theorem rf_0 {m : ImageV} (h : E0 m = true) : formS m = false := formS_no fun hh => by rw [E0_eq, hh.1] at h; cases h
theorem rf_0f {m : ImageV} (h : E0 m = false) : form0S m = true := by rw [E0_eq] at h; simpa using h
theorem rf_small {m : ImageV} (h : form0S m = true) : 1 ≤ m.comps.length ∧ m.comps.length ≤ 4 ∧ m.links.length ≤ 16 ∧ m.shares.length ≤ 4 := by
 simp only [form0S, Bool.and_eq_true, decide_eq_true_eq, withinS_iff] at h
 omega
theorem rf_yes {m : ImageV} (h0 : form0S m = true) (h1 : ∀ c ∈ m.comps, compS c = true) (h2 : ∀ l ∈ m.links, linkS m l = true) (h3 : manyS m.links = true) (h4 : ∀ s ∈ m.shares, shareS m s = true) : formS m = true := (formS_split m).2 ⟨h0, h1, h2, h3, h4⟩
theorem rf_nc {m : ImageV} {c : CompV} (hc : c ∈ m.comps) (h : compS c = false) : formS m = false := formS_no fun hh => by rw [hh.2.1 c hc] at h; cases h
theorem rf_nl {m : ImageV} {c : LinkV} (hc : c ∈ m.links) (h : linkS m c = false) : formS m = false := formS_no fun hh => by rw [hh.2.2.1 c hc] at h; cases h
theorem rf_ns {m : ImageV} {c : ShareV} (hc : c ∈ m.shares) (h : shareS m c = false) : formS m = false := formS_no fun hh => by rw [hh.2.2.2.2 c hc] at h; cases h
theorem rf_comp (c : CompV) : (((!(withinS ((c.code.length : Nat) : Int) 4 4096)) || (decide (((c.code.length : Nat) : Int) % 4 ≠ 0))) || (!(withinS c.data 1 8))) = !compS c := by
 have e1 : decide (((c.code.length : Nat) : Int) % 4 ≠ 0) = !decide (((c.code.length : Nat) : Int) % 4 = 0) := by rw [Bool.eq_iff_iff]; simp
 unfold compS
 rw [e1]
 simp only [Bool.not_and, Bool.or_assoc]
theorem rf_link {m : ImageV} {k : LinkV} (h0 : 0 ≤ k.to) (h1 : k.to < m.comps.length) : (((((!(withinS k.fr 0 (((m.comps.length : Nat) : Int) - 1))) || (!(withinS k.to 0 (((m.comps.length : Nat) : Int) - 1)))) || (decide (k.fr = k.to))) || (decide (k.ad < 0))) || (decide (((((m.comps[k.to.toNat]'(by omega)).code.length : Nat) : Int) / 4) ≤ k.ad))) = !linkS m k := by
 have e := codeLen_at h0 h1
 unfold linkS
 rw [e, Bool.eq_iff_iff]
 simp only [Bool.or_eq_true, Bool.not_eq_true', decide_eq_true_eq, Bool.and_eq_false_imp, Bool.and_eq_true, withinS, decide_eq_false_iff_not, Bool.not_eq_false', Decidable.not_not]
 omega
theorem rf_linkn {m : ImageV} {k : LinkV} (h : ¬ (0 ≤ k.to ∧ k.to < m.comps.length)) : linkS m k = false := by
 cases hl : linkS m k
 ·rfl
 ·have := linkS_ok hl; exact absurd ⟨this.2.2.1, this.2.2.2.1⟩ h
theorem rf_wn {t : Int} {n : Nat} (h : ¬ (0 ≤ t ∧ t < n)) : withinS t 0 (((n : Nat) : Int) - 1) = false := by
 cases hw : withinS t 0 (((n : Nat) : Int) - 1)
 ·rfl
 ·rw [withinS_iff] at hw; exact absurd ⟨hw.1, by omega⟩ h
def cntI (ls : List LinkV) (x : Int) : Nat := (ls.filter fun k => decide (k.fr = x)).length
theorem cntI_eq (ls : List LinkV) (i : Nat) : cntI ls (i : Int) = cntL ls i := rfl
theorem cntI_succ {ls : List LinkV} {k : Nat} (h : k < ls.length) (x : Int) : cntI (ls.take (k + 1)) x = cntI (ls.take k) x + (if (ls[k]).fr = x then 1 else 0) := by
 unfold cntI
 rw [List.take_succ_eq_append_getElem h, List.filter_append, List.length_append]
 congr 1
 by_cases h : (ls[k]).fr = x <;> simp [h]
theorem cntI_y {ls : List LinkV} {k : Nat} (h : k < ls.length) {x : Int} (hx : (ls[k]).fr = x) : cntI (ls.take k) x + 1 = cntI (ls.take (k + 1)) x := by rw [cntI_succ h, if_pos hx]
theorem cntI_n {ls : List LinkV} {k : Nat} (h : k < ls.length) {x : Int} (hx : ¬ (ls[k]).fr = x) : cntI (ls.take k) x = cntI (ls.take (k + 1)) x := by rw [cntI_succ h, if_neg hx]; rfl
theorem cntI_le2 (ls : List LinkV) (k : Nat) (x : Int) : cntI (ls.take k) x ≤ ls.length := Nat.le_trans (List.length_filter_le _ _) (by rw [List.length_take]; omega)
theorem cntI_le (ls : List LinkV) (x : Int) : cntI ls x ≤ ls.length := List.length_filter_le _ _
theorem rf_cnt {ls : List LinkV} {i : Nat} (h : ∀ f : Nat, cntL (ls.take i) f ≤ 8) (hi : i < ls.length) (_h0 : 0 ≤ (ls[i]).fr) {j : Nat} (he : j = i + 1) (hc : cntI (ls.take j) (ls[i]).fr ≤ 8) : ∀ f : Nat, cntL (ls.take (i + 1)) f ≤ 8 := by
 subst he
 intro f
 by_cases e : (ls[i]).fr = (f : Int)
 ·rw [← cntI_eq, ← e]; exact hc
 ·rw [← cntI_eq, cntI_succ hi, if_neg e]; exact h f
theorem rf_many {ls : List LinkV} {i : Nat} (h : ∀ f : Nat, cntL (ls.take i) f ≤ 8) (hi : ls.length ≤ i) : manyS ls = true := by
 rw [List.take_of_length_le hi] at h
 simp only [manyS, List.all_eq_true, decide_eq_true_eq]
 exact fun f _ => h f
theorem cntI_mono {ls : List LinkV} {k : Nat} (x : Int) : cntI (ls.take k) x ≤ cntI ls x := by
 unfold cntI
 exact ((List.take_sublist k ls).filter _).length_le
theorem rf_nm {m : ImageV} {i : Nat} (hi : i < m.links.length) (h0 : 0 ≤ (m.links[i]).fr) (h4 : (m.links[i]).fr < 4) {j : Nat} (he : j = i + 1) (h : 8 < cntI (m.links.take j) (m.links[i]).fr) : formS m = false := formS_no fun hh => by
 subst he
 have hm := hh.2.2.2.1
 simp only [manyS, List.all_eq_true, decide_eq_true_eq] at hm
 have h1 := hm (m.links[i]).fr.toNat (by simp; omega)
 have h2 : cntL m.links (m.links[i]).fr.toNat = cntI m.links (m.links[i]).fr := by
  rw [← cntI_eq]; congr 1; omega
 have := cntI_mono (ls := m.links) (k := i + 1) (m.links[i]).fr
 omega
theorem and_not_eq {x y : BitVec 64} : (x &&& y = x) ↔ (x &&& ~~~y = 0#64) := by
 constructor
 ·intro h
  rw [← h, BitVec.and_assoc]; simp
 ·intro h
  have e : x = (x &&& y) ||| (x &&& ~~~y) := by
   apply BitVec.eq_of_getLsbD_eq
   intro i hi
   simp only [BitVec.getLsbD_or, BitVec.getLsbD_and, BitVec.getLsbD_not, hi, decide_true, Bool.true_and]
   cases x.getLsbD i <;> cases y.getLsbD i <;> rfl
  rw [h] at e
  simpa using e.symm
theorem and_wr {a b : Int} (h0 : 0 ≤ a) (h1 : a ≤ 9223372036854775807) : decide (bitsI .and .i64 a b ≠ a) = !decide (bitsI .andNot .i64 a b = 0) := by
 have e1 : bitsI .and .i64 a b = IntKind.i64.wrap (((BitVec.ofInt 64 a &&& BitVec.ofInt 64 b).toNat : Nat) : Int) := rfl
 have e2 : bitsI .andNot .i64 a b = IntKind.i64.wrap (((BitVec.ofInt 64 a &&& ~~~ BitVec.ofInt 64 b).toNat : Nat) : Int) := rfl
 have hx : (BitVec.ofInt 64 a).toNat = a.toNat := by
  rw [BitVec.toNat_ofInt]
  have : a % ((2 ^ 64 : Nat) : Int) = a := Int.emod_eq_of_lt h0 (by omega)
  rw [this]
 have l1 : (BitVec.ofInt 64 a &&& BitVec.ofInt 64 b).toNat ≤ a.toNat := by rw [BitVec.toNat_and, hx]; exact Nat.and_le_left
 have l2 : (BitVec.ofInt 64 a &&& ~~~ BitVec.ofInt 64 b).toNat ≤ a.toNat := by rw [BitVec.toNat_and, hx]; exact Nat.and_le_left
 rw [e1, e2, wrap_i64 (by omega), wrap_i64 (by omega)]
 have k1 : ((BitVec.ofInt 64 a &&& BitVec.ofInt 64 b).toNat : Int) = a ↔ BitVec.ofInt 64 a &&& BitVec.ofInt 64 b = BitVec.ofInt 64 a := by
  rw [← BitVec.toNat_inj, hx]; omega
 have k2 : ((BitVec.ofInt 64 a &&& ~~~ BitVec.ofInt 64 b).toNat : Int) = 0 ↔ BitVec.ofInt 64 a &&& ~~~ BitVec.ofInt 64 b = 0#64 := by
  rw [← BitVec.toNat_inj]; simp
 rw [Bool.eq_iff_iff]
 simp only [decide_eq_true_eq, Bool.not_eq_true', decide_eq_false_iff_not, ne_eq, k1, k2, and_not_eq]
theorem rf_share {m : ImageV} {s : ShareV} (h : s.wr ≤ 9223372036854775807) : (((!(withinS s.rd 0 ((2 : Int) ^ m.comps.length - 1))) || (decide (s.wr < 0))) || (decide (bitsI .and .i64 s.wr s.rd ≠ s.wr))) = !shareS m s := by
 unfold shareS
 by_cases h0 : 0 ≤ s.wr
 ·rw [and_wr h0 h, decide_eq_true h0, decide_eq_false (by omega : ¬ s.wr < 0)]
  simp
 ·rw [decide_eq_false h0, decide_eq_true (by omega : s.wr < 0)]
  simp
theorem rr_0 {m : ImageV} (h : formS m = false) : rightS m = false := by unfold rightS; rw [h]; rfl
theorem rr_yes {m : ImageV} (h : formS m = true) (h2 : ∀ c ∈ m.comps, runsS c m.strict = true) : rightS m = true := by
 unfold rightS; rw [h, Bool.true_and, List.all_eq_true]; exact h2
theorem rr_n {m : ImageV} {c : CompV} (hc : c ∈ m.comps) (h : runsS c m.strict = false) : rightS m = false := by
 cases hr : rightS m
 ·rfl
 ·simp only [rightS, Bool.and_eq_true, List.all_eq_true] at hr; rw [hr.2 c hc] at h; cases h
theorem rr_bad {c : CompV} {b : Bool} (h : (allS c.code).2.2 ≠ 0) : runsS c b = false := by unfold runsS; rw [decide_eq_false h]; rfl
theorem rr_run {c : CompV} {b : Bool} (h : (allS c.code).2.2 = 0) (h2 : ∀ x ∈ (allS c.code).1, (b && decide (x.op = 28)) = false) : runsS c b = true := by
 unfold runsS
 rw [decide_eq_true h, Bool.true_and]
 cases b
 ·rfl
 ·simp only [Bool.true_and] at h2
  simp only [Bool.not_true, Bool.false_or, Bool.not_eq_true', List.any_eq_false]
  intro x hx; rw [h2 x hx]; simp
theorem rr_ask {c : CompV} {b : Bool} {x : InsV} (hx : x ∈ (allS c.code).1) (h : (b && decide (x.op = 28)) = true) : runsS c b = false := by
 unfold runsS
 simp only [Bool.and_eq_true] at h
 rw [h.1]
 have : ((allS c.code).1.any fun x => decide (x.op = 28)) = true := List.any_eq_true.2 ⟨x, hx, h.2⟩
 rw [this]; simp


theorem en15 : ∀ args w, (callFunc 15 args).run Try.prog w = .ok (.enter 15 args) w := fun args w => callFunc_run Try.func15 (by kernel_rfl) rfl args w
theorem en36 : ∀ args w, (callFunc 36 args).run Try.prog w = .ok (.enter 36 args) w := fun args w => callFunc_run Try.func36 (by kernel_rfl) rfl args w
theorem en23 : ∀ args w, (callFunc 23 args).run Try.prog w = .ok (.enter 23 args) w := fun args w => callFunc_run Try.func23 (by kernel_rfl) rfl args w
theorem en46 : ∀ args w, (callFunc 46 args).run Try.prog w = .ok (.enter 46 args) w := fun args w => callFunc_run Try.func46 (by kernel_rfl) rfl args w
theorem en26 : ∀ args w, (callFunc 26 args).run Try.prog w = .ok (.enter 26 args) w := fun args w => callFunc_run Try.func26 (by kernel_rfl) rfl args w
theorem fd39_1 : FdAt Try.prog 39 1 1 1 false := FdAt.mk' _ _ Try.underlying39 rfl rfl (fun _ => by kernel_rfl) (fun _ => by kernel_rfl)

theorem conv_mod (n : Int) : IntKind.u8.wrap (n % 256) = ((byteV n).toNat : Int) := by
 rw [conv_byte, byteV_toNat, byteV_toNat]; omega
theorem rlink_ad {m : ImageV} (h : RightOk m) {k : LinkV} (hk : k ∈ m.links) : 0 ≤ k.ad ∧ k.ad ≤ 1024 := link_ad h hk
theorem bitS_b (x k : Int) : 0 ≤ bitS x k ∧ bitS x k ≤ 1 := by unfold bitS; omega
theorem shPerm_eq (s : ShareV) (k : Int) : 1 + bitS s.wr k * 2 = shPerm s k := by
 have := bitS_b s.wr k
 unfold shPerm
 split <;> omega
theorem share_nn {m : ImageV} (h : RightOk m) {s : ShareV} (hs : s ∈ m.shares) : 0 ≤ s.rd ∧ 0 ≤ s.wr := by
 have := h.share s hs
 simp only [shareS, Bool.and_eq_true, withinS_iff, decide_eq_true_eq] at this
 exact ⟨this.1.1, this.2.1⟩
theorem rpairs_end {m : ImageV} {k : Int} {i : Nat} (hi : i ≤ m.links.length) (hr : rightS m = true ∨ i = 0) (h : (decide (((i : Nat) : Int) < ((m.links.length : Nat) : Int)) && rightS m) = false) : pairsS m k = prTo m k i := by
 unfold pairsS
 cases hm : rightS m
 ·rw [hm] at hr
  rcases hr with hr | rfl
  ·cases hr
  ·rfl
 ·rw [hm, Bool.and_true, decide_eq_false_iff_not] at h
  have : i = m.links.length := by omega
  rw [this]; rfl



end Go.Proofs.Ytgddigkdldnmdaa
