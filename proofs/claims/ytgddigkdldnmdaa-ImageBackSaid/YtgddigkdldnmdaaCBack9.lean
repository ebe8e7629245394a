import Derived.Test.YtgddigkdldnmdaaCBack8
namespace Go.Proofs.Ytgddigkdldnmdaa
open Go Go.Vg Go.Img
set_option linter.unusedSimpArgs false
set_option maxHeartbeats 4000000


theorem _root_.Go.Vg.Src.arrN {α : Type} {P : Program} {w : World} {enc : α → List Value} {m c n : Nat} {a : Option Addr} {l : List α} (h : (arrI enc m a l).φ w) (hm : ∀ x, (enc x).length = m) (h1 : ∀ x, (enc x).all (·.oneCell') = true) (hnil : a = none → c = 0) (hlc : l.length ≤ c) (hn : l.length = n) :
  Src P w (.slice a n c) m n (l.flatMap enc) := by
 subst hn; exact Src.arr h hm h1 hnil hlc
theorem where_q (m : ImageV) (hr : rightS m = true) (w : World) (hm : ∀ i ∈ imgIs m, i.φ w) (hb : ImgB m) :
  C Try.prog 22 [.agg (imgCells m).toArray] w fun v w' =>
   (∃ a1 c1 a2 c2 a3 c3 a4 c4, v = .agg #[.slice a1 m.comps.length c1, .slice a2 m.comps.length c2, .slice a3 m.comps.length c3, .slice a4 m.shares.length c4, .int .i64 (pgEnd m + ((m.shares.length : Nat) : Int))] ∧
    (m.comps.length ≤ c1 ∧ (a1 = none → c1 = 0)) ∧ (m.comps.length ≤ c2 ∧ (a2 = none → c2 = 0)) ∧ (m.comps.length ≤ c3 ∧ (a3 = none → c3 = 0)) ∧
    ∀ i ∈ [arrI encR 2 a1 (codesTo m m.comps.length), arrI encR 2 a2 (datasTo m m.comps.length), arrI encR 2 a3 (heapsTo m m.comps.length), arrI encI 1 a4 (shsTo m m.shares.length)], i.φ w' ∧ ∀ b, i.fp b → w.heap.size ≤ b) ∧ Grow w w' := by
 refine C.mono (where_c m w hm hb) ?_
 rintro v w' ⟨⟨A, rfl, h1, h2, h3⟩, hk⟩
 have he := whereS_yes hr
 rw [he] at h1 h2 h3
 have q1 := h3.l1; have q2 := h3.l2; have q3 := h3.l3
 simp only [codesTo_len, datasTo_len, heapsTo_len] at q1 q2 q3
 refine ⟨⟨A.a1, A.c1, A.a2, A.c2, A.a3, A.c3, A.a4, A.c4, by rw [he, ← lay_v], ⟨q1, h3.n1⟩, ⟨q2, h3.n2⟩, ⟨q3, h3.n3⟩, fun i hi => ⟨h1 i hi, h2 i hi⟩⟩, hk⟩
theorem apart0 (m : ImageV) : apartL m 0 = ((codesTo m m.comps.length) ++ (datasTo m m.comps.length)) ++ (heapsTo m m.comps.length) := List.append_nil _
theorem apart_snoc (m : ImageV) (j : Nat) : (apartL m j).flatMap encR ++ [.int .i64 (shAt m j), .int .i64 (shAt m j + 256)] = (apartL m (j + 1)).flatMap encR := by
 have e : apartL m (j + 1) = apartL m j ++ [shPair (shAt m j)] := by
  unfold apartL shsTo
  rw [List.range_succ, List.map_append, List.map_append, ← List.append_assoc]; rfl
 rw [e, List.flatMap_append]; rfl
theorem apart_len (m : ImageV) (k : Nat) : (apartL m k).length = m.comps.length + m.comps.length + m.comps.length + k := by
 simp [apartL, codesTo_len, datasTo_len, heapsTo_len, shsTo_len]; omega
theorem apart_1 {m : ImageV} (h : RightOk m) {x : Int × Int} (hx : x ∈ apartL m m.shares.length) : (0 ≤ x.1 ∧ x.2 ≤ 1000000) ∧ 256 ≤ x.1 ∧ x.1 % 256 = 0 ∧ x.1 < x.2 ∧ x.2 ≤ 256 * (pgEnd m + ((m.shares.length : Nat) : Int)) := by
 obtain ⟨lo, hi, hp, h1, h2⟩ := apart_in h x hx
 have := hp.a; have := hp.b; have := hp.c; have := pgEnd_b h; have := h.s4
 omega
theorem ap_E {x : Int × Int} {p : Int} (h : (0 ≤ x.1 ∧ x.2 ≤ 1000000) ∧ 256 ≤ x.1 ∧ x.1 % 256 = 0 ∧ x.1 < x.2 ∧ x.2 ≤ 256 * p) : (((decide (x.1 < 256) || decide (x.1 % 256 ≠ 0)) || decide (x.2 ≤ x.1)) || decide (256 * p < x.2)) = false := by
 simp only [Bool.or_eq_false_iff, decide_eq_false_iff_not]
 omega
theorem apart_2 {m : ImageV} (h : RightOk m) {i k : Nat} (hki : k < i) (hi : i < (apartL m m.shares.length).length) : Disj ((apartL m m.shares.length)[k]'(by omega)) ((apartL m m.shares.length)[i]) :=
 List.pairwise_iff_getElem.1 (apart_dis h) k i (by omega) hi hki
theorem ap_D {x y : Int × Int} (h : Disj y x) : (decide (x.1 < y.2) && decide (y.1 < x.2)) = false := by
 unfold Disj at h
 simp only [Bool.and_eq_false_iff, decide_eq_false_iff_not]
 omega
theorem lay_b {m : ImageV} (h : RightOk m) {i : Nat} (hi : i < m.comps.length) : ((0 ≤ (codeAt m i).1 ∧ (codeAt m i).1 ≤ 1000000) ∧ (0 ≤ (codeAt m i).2 ∧ (codeAt m i).2 ≤ 1000000)) ∧ ((0 ≤ (dataAt m i).1 ∧ (dataAt m i).1 ≤ 1000000) ∧ (0 ≤ (dataAt m i).2 ∧ (dataAt m i).2 ≤ 1000000)) ∧ ((0 ≤ (heapAt m i).1 ∧ (heapAt m i).1 ≤ 1000000) ∧ (0 ≤ (heapAt m i).2 ∧ (heapAt m i).2 ≤ 1000000)) := by
 have h1 := code_ps h hi; have h2 := data_ps h hi; have h3 := heap_ps h hi
 have := h1.a; have := h1.b; have := h1.c; have := h2.a; have := h2.b; have := h2.c; have := h3.a; have := h3.b; have := h3.c
 have hp := pgAt_b h i (by omega); have := h.n4; have hc := cmpOk h hi; have := hc.g1; have := hc.g16; have := hc.d1; have := hc.d8; have := h.h1; have := h.h64
 omega
theorem ap_S {m : ImageV} (h : RightOk m) {i : Nat} (hi : i < m.comps.length) : ((decide ((codeAt m i).2 - (codeAt m i).1 ≠ (((compAt m i).code.length : Nat) : Int)) || decide ((dataAt m i).2 - (dataAt m i).1 ≠ 256 * (compAt m i).data)) || decide ((heapAt m i).2 - (heapAt m i).1 ≠ 256 * m.heap)) = false := by
 simp only [Bool.or_eq_false_iff, decide_eq_false_iff_not, ne_eq, Decidable.not_not]
 unfold codeAt dataAt heapAt
 refine ⟨⟨?_, ?_⟩, ?_⟩ <;> (simp only; omega)

set_option maxHeartbeats 2000000 in
/-- seizin/seizinlaw17.ImageBack -/
theorem back_c (m : ImageV) (a : Option Addr) (cap : Nat) (l : List UInt8) (w : World) (hm : ∀ i ∈ imgIs m, i.φ w) (hI : ImgI m) (h : (arrI encB 1 a l).φ w) (hlc : l.length ≤ cap) (hnil : a = none → cap = 0) (hl2 : l.length ≤ 200000000000000) :
  C Try.prog 5 [.agg (imgCells m).toArray, .slice a l.length cap] w fun v w' => v = .bool true ∧ Grow w w' := by
 have hs0 : St w (fun _ => False) w [] [arrI encB 1 a l, arrI encComp 2 m.ca m.comps, arrI encLink 3 m.la m.links, arrI encShare 2 m.sa m.shares, codesI m.comps] := St.start w _ (List.forall_mem_cons.2 ⟨h, hm⟩)
 refine C_of_W [.tmp 4] 78 Try.func5 rfl Try.ntmps5 rfl rfl ?_
 refine W_seq (W_region ?_)
 refine L_cons rfl (O_box (v := .agg (imgCells m).toArray) (cs := (imgCells m)) hs0 rfl rfl rfl ?_)
 intro b1 w2 hb4 hs3
 refine L_cons rfl (O_assign (v := .bool false) rfl rfl ?_)
 refine L_nil (thenQ_n (W_seq (W_region ?_)))
 refine L_cons rfl (O_call (args := []) rfl rfl rfl en10 (head_c _) ?_)
 rintro _ w5 ⟨rfl, hk7⟩
 have hs6 := hs3.keep hk7
 refine L_cons rfl (O_assign (v := .bool true) rfl rfl ?_)
 refine L_nil (thenQ_n (W_seq (W_seq (W_region ?_))))
 refine L_cons rfl (O_load_agg (vs := (imgCells m)) rfl ag26 sz26 (Rd.of_blk (hs6.get 0 rfl) 0 6) rfl rfl ?_)
 refine L_cons rfl (O_call (args := [.agg (imgCells m).toArray]) rfl rfl rfl en11 (great_c m _ (hs6.popR.r) hI.cl hI.ll hI.sl) ?_)
 rintro _ w8 ⟨⟨bg, rfl, hg⟩, hk10⟩
 have hs9 := hs6.keep hk10
 refine L_cons rfl (O_move (v := .bool bg) rfl rfl ?_)
 refine L_guard_fp (v := .slice a l.length cap) rfl rfl rfl rfl (fun hg11 => O_move (v := .slice a l.length cap) rfl rfl ⟨rfl, rfl⟩) ?_
 refine L_guard_fp (v := .int .i64 ((l.length : Nat) : Int)) rfl rfl rfl rfl (fun hg12 => O_len_slice (len := l.length) (show ev _ _ = .slice a l.length cap from if_pos hg12) un27 rfl ⟨rfl, rfl⟩) ?_
 refine L_guard_fp (v := .bool (decide (20000 < ((l.length : Nat) : Int)))) rfl rfl rfl rfl (fun hg13 => O_bin (k := .i64) (k' := .i64) (a := ((l.length : Nat) : Int)) (b := 20000) (show ev _ _ = .int .i64 ((l.length : Nat) : Int) from if_pos hg13) rfl rfl b_gtr ⟨rfl, rfl⟩) ?_
 refine L_cons rfl (O_pick rfl (pick_or _ _) rfl ?_)
 refine L_nil (thenQ_n ?_)
 refine W_cond (t := (bg || (decide (20000 < ((l.length : Nat) : Int))))) rfl (fun hc14 => ?_) (fun hc14 => ?_)
 ·refine W_seq (W_region ?_)
  refine L_cons rfl (O_move (v := .bool true) rfl rfl ?_)
  refine L_cons rfl (O_assign (v := .bool true) rfl rfl ?_)
  refine L_nil (thenQ_n (W_ret (thenQ_r ?_)))
  refine ⟨.bool true, res1 rfl, ?_⟩
  exact ⟨rfl, hs9.base⟩
 ·refine W_skip (thenQ_n (W_seq ?_))
  have hgg := Bool.or_eq_false_iff.1 hc14
  have hb := imgB_of hI (hg hgg.1)
  have hl : l.length ≤ 20000 := by have := of_decide_eq_false hgg.2; omega
  refine W_region ?_
  refine L_cons rfl (O_load_agg (vs := (imgCells m)) rfl ag26 sz26 (Rd.of_blk (hs9.get 0 rfl) 0 6) rfl rfl ?_)
  refine L_cons rfl (O_call (args := [.agg (imgCells m).toArray]) rfl rfl rfl en16 (put_c m _ (hs9.popR.r) hb) ?_)
  rintro _ w17 ⟨⟨a15, c16, rfl, ha19, hn20⟩, hk21⟩
  have hqa15 := own_cap ha19
  have hs18 := hs9.addRf hk21 [arrI encB 1 a15 (putS m)] (List.forall_mem_cons.2 ⟨⟨arr_of_own (m := 1) (fun _ => rfl) (by decide) ha19, fun b hb => hn20 b hb.2⟩, fun _ h => by cases h⟩)
  refine L_cons rfl (O_assign (v := .slice a15 ((putS m).length) c16) rfl rfl ?_)
  refine L_nil (thenQ_n (W_seq (W_seq (W_region ?_))))
  refine L_cons rfl (O_move (v := .slice a15 ((putS m).length) c16) rfl rfl ?_)
  refine L_cons rfl (O_len_slice (len := ((putS m).length)) rfl un27 rfl ?_)
  refine L_cons rfl (O_bin (k := .i64) (k' := .i64) (a := (((putS m).length : Nat) : Int)) (b := 0) rfl rfl rfl b_gtr ?_)
  refine L_cons rfl (O_load_agg (vs := (imgCells m)) rfl ag26 sz26 (Rd.of_blk (hs18.get 0 rfl) 0 6) rfl rfl ?_)
  refine L_cons rfl (O_call (args := [.agg (imgCells m).toArray]) rfl rfl rfl en14 (iright_c m _ (hs18.popR.popR.r) (hb)) ?_)
  rintro _ w22 ⟨rfl, hk24⟩
  have hs23 := hs18.keep hk24
  refine L_cons rfl (O_binv (a := .bool (decide (0 < (((putS m).length : Nat) : Int)))) (b := .bool (rightS m)) rfl rfl rfl eg_bool (b_neq_bool un4) ?_)
  refine L_nil (thenQ_n ?_)
  refine W_cond (t := (!decide ((decide (0 < (((putS m).length : Nat) : Int))) = (rightS m)))) rfl (fun hc25 => absurd hc25 (by rw [put_pos]; simp)) (fun hc25 => ?_)
  refine W_skip (thenQ_n ?_)
  refine W_cut (fun f_ w_ => f_ 1 = .slice a l.length cap ∧ f_ 5 = .bool true ∧ St w (fun _ => False) w_ [blk b1 (imgCells m) 26] [arrI encB 1 a15 (putS m), arrI encB 1 a l, arrI encComp 2 m.ca m.comps, arrI encLink 3 m.la m.links, arrI encShare 2 m.sa m.shares, codesI m.comps]) ?_ ?_
  ·refine W_seq (W_region ?_)
   refine L_cons rfl (O_move (v := .slice a15 ((putS m).length) c16) rfl rfl ?_)
   refine L_cons rfl (O_len_slice (len := ((putS m).length)) rfl un27 rfl ?_)
   refine L_cons rfl (O_bin (k := .i64) (k' := .i64) (a := (((putS m).length : Nat) : Int)) (b := 0) rfl rfl rfl b_gtr ?_)
   refine L_nil (thenQ_n ?_)
   refine W_cond_d rfl (fun hc26 => ?_) (fun hc26 => ?_)
   ·refine W_seq ?_
    have hright := put_right (m := m) (by have := hc26; omega)
    refine W_region ?_
    refine L_cons rfl (O_move (v := .slice a15 ((putS m).length) c16) rfl rfl ?_)
    refine L_cons rfl (O_call (args := [.slice a15 ((putS m).length) c16]) rfl rfl rfl en12 (getI_at a15 c16 ((putS m).length) (putS m) (rfl) _ (hs23.getR 0 rfl) (by have := put_small hb; omega) (hqa15).1 (hqa15).2) ?_)
    rintro _ w27 ⟨⟨y, e33, rfl, hp29, hn30, yb, yc, hx32⟩, hk31⟩
    rw [get_put hright hI.wr] at yc hx32; obtain rfl : e33 = 0 := hx32
    have hs28 := hs23.addRf hk31 (imgIs y) (fun i hi => ⟨hp29 i hi, hn30 i hi⟩)
    refine L_cons rfl (O_move (v := .tuple #[.agg #[.bool y.strict, .int .i64 y.heap, .int .i64 y.full, .slice y.ca y.comps.length y.ccap, .slice y.la y.links.length y.lcap, .slice y.sa y.shares.length y.scap], .int .i64 0]) rfl rfl ?_)
    refine L_cons rfl (O_extract (v := .agg #[.bool y.strict, .int .i64 y.heap, .int .i64 y.full, .slice y.ca y.comps.length y.ccap, .slice y.la y.links.length y.lcap, .slice y.sa y.shares.length y.scap]) rfl rfl rfl ?_)
    refine L_cons rfl (O_extract (v := .int .i64 0) rfl rfl rfl ?_)
    refine L_cons rfl (O_alloc (cs := [.bool false, .int .i64 0, .int .i64 0, .slice none 0 0, .slice none 0 0, .slice none 0 0]) hs28 zv26 rfl rfl ?_)
    intro b34 w35 hb37 hs36
    refine L_cons rfl (O_store (v := .agg #[.bool y.strict, .int .i64 y.heap, .int .i64 y.full, .slice y.ca y.comps.length y.ccap, .slice y.la y.links.length y.lcap, .slice y.sa y.shares.length y.scap]) (vs := [.bool y.strict, .int .i64 y.heap, .int .i64 y.full, .slice y.ca y.comps.length y.ccap, .slice y.la y.links.length y.lcap, .slice y.sa y.shares.length y.scap]) (cs' := [.bool y.strict, .int .i64 y.heap, .int .i64 y.full, .slice y.ca y.comps.length y.ccap, .slice y.la y.links.length y.lcap, .slice y.sa y.shares.length y.scap]) hs36 0 rfl rfl rfl sz26 rfl rfl rfl rfl rfl ?_)
    intro w38 hs39
    refine L_cons rfl (O_assign (v := .int .i64 0) rfl rfl ?_)
    refine L_nil (thenQ_n (W_seq (W_region ?_)))
    refine L_cons rfl (O_move (v := .int .i64 0) rfl rfl ?_)
    refine L_cons rfl (O_bin (k := .i64) (k' := .i64) (a := 0) (b := 0) (v := .bool false) rfl rfl rfl (fun w => (b_neq w).trans (by first | rfl | decide)) ?_)
    refine L_cons rfl (O_move (v := .bool false) rfl rfl ?_)
    refine L_guard_yes rfl rfl (O_load_agg (vs := (imgCells m)) rfl ag26 sz26 (Rd.of_blk (hs39.get 1 rfl) 0 6) rfl rfl ?_)
    refine L_guard_yes rfl rfl (O_load_agg (vs := [.bool y.strict, .int .i64 y.heap, .int .i64 y.full, .slice y.ca y.comps.length y.ccap, .slice y.la y.links.length y.lcap, .slice y.sa y.shares.length y.scap]) rfl ag26 sz26 (Rd.of_blk (hs39.get 0 rfl) 0 6) rfl rfl ?_)
    refine L_guard_yes rfl rfl (O_call (args := [.agg (imgCells m).toArray, .agg #[.bool y.strict, .int .i64 y.heap, .int .i64 y.full, .slice y.ca y.comps.length y.ccap, .slice y.la y.links.length y.lcap, .slice y.sa y.shares.length y.scap]]) rfl rfl rfl en18 (C.vt (same_c m y _ (List.forall_mem_append.2 ⟨(fun i hi => hs39.r i (List.mem_of_mem_drop (l := [arrI encComp 2 y.ca y.comps, arrI encLink 3 y.la y.links, arrI encShare 2 y.sa y.shares, codesI y.comps, arrI encB 1 a15 (putS m), arrI encB 1 a l, arrI encComp 2 m.ca m.comps, arrI encLink 3 m.la m.links, arrI encShare 2 m.sa m.shares, codesI m.comps]) (i := 6) hi)), (fun i hi => hs39.r i (List.mem_of_mem_drop (l := [arrI encComp 2 y.ca y.comps, arrI encLink 3 y.la y.links, arrI encShare 2 y.sa y.shares, codesI y.comps, arrI encB 1 a15 (putS m), arrI encB 1 a l, arrI encComp 2 m.ca m.comps, arrI encLink 3 m.la m.links, arrI encShare 2 m.sa m.shares, codesI m.comps]) (i := 0) (List.mem_append_left [arrI encB 1 a15 (putS m), arrI encB 1 a l, arrI encComp 2 m.ca m.comps, arrI encLink 3 m.la m.links, arrI encShare 2 m.sa m.shares, codesI m.comps] hi)))⟩) hb yb) (yc.symm)) ?_)
    rintro _ w40 ⟨rfl, hk42⟩
    have hs41 := hs39.keep hk42
    refine L_guard_yes rfl rfl (O_not (b := true) rfl rfl ?_)
    refine L_cons rfl (O_pick (v := .bool false) rfl rfl rfl ?_)
    refine L_nil (thenQ_n ?_)
    refine W_cond_f rfl ?_
    refine W_skip (thenQ_n ?_)
    exact ⟨rfl, rfl, hs41.popR.popR.popR.popR.popM⟩
   ·refine W_skip (thenQ_n ?_)
    exact ⟨rfl, rfl, hs23⟩
  ·intro f43 w44; rintro ⟨e46, e47, hs45⟩
   rewrite [upd_id e46]
   rewrite [upd_id e47]
   refine W_seq (W_region ?_)
   refine L_cons rfl (O_move (v := .slice a l.length cap) rfl rfl ?_)
   refine L_cons rfl (O_call (args := [.slice a l.length cap]) rfl rfl rfl en12 (getI_at a cap l.length l (rfl) _ (hs45.getR 1 rfl) (hl) ((show _ ∧ _ from ⟨hlc, hnil⟩)).1 ((show _ ∧ _ from ⟨hlc, hnil⟩)).2) ?_)
   rintro _ w48 ⟨⟨z, e54, rfl, hp50, hn51, zb, zc, hx53⟩, hk52⟩
   subst hx53
   have hs49 := hs45.addRf hk52 (imgIs z) (fun i hi => ⟨hp50 i hi, hn51 i hi⟩)
   refine L_cons rfl (O_move (v := .tuple #[.agg #[.bool z.strict, .int .i64 z.heap, .int .i64 z.full, .slice z.ca z.comps.length z.ccap, .slice z.la z.links.length z.lcap, .slice z.sa z.shares.length z.scap], .int .i64 ((getI l).2)]) rfl rfl ?_)
   refine L_cons rfl (O_extract (v := .agg #[.bool z.strict, .int .i64 z.heap, .int .i64 z.full, .slice z.ca z.comps.length z.ccap, .slice z.la z.links.length z.lcap, .slice z.sa z.shares.length z.scap]) rfl rfl rfl ?_)
   refine L_cons rfl (O_extract (v := .int .i64 ((getI l).2)) rfl rfl rfl ?_)
   refine L_cons rfl (O_alloc (cs := [.bool false, .int .i64 0, .int .i64 0, .slice none 0 0, .slice none 0 0, .slice none 0 0]) hs49 zv26 rfl rfl ?_)
   intro b55 w56 hb58 hs57
   refine L_cons rfl (O_store (v := .agg #[.bool z.strict, .int .i64 z.heap, .int .i64 z.full, .slice z.ca z.comps.length z.ccap, .slice z.la z.links.length z.lcap, .slice z.sa z.shares.length z.scap]) (vs := [.bool z.strict, .int .i64 z.heap, .int .i64 z.full, .slice z.ca z.comps.length z.ccap, .slice z.la z.links.length z.lcap, .slice z.sa z.shares.length z.scap]) (cs' := [.bool z.strict, .int .i64 z.heap, .int .i64 z.full, .slice z.ca z.comps.length z.ccap, .slice z.la z.links.length z.lcap, .slice z.sa z.shares.length z.scap]) hs57 0 rfl rfl rfl sz26 rfl rfl rfl rfl rfl ?_)
   intro w59 hs60
   refine L_cons rfl (O_assign (v := .int .i64 ((getI l).2)) rfl rfl ?_)
   refine L_nil (thenQ_n (W_seq (W_seq ?_)))
   rcases get_ways l with hq | hq | ⟨hq, hr, hp⟩
   ·refine W_norm 10 (.int .i64 1) (congrArg (Value.int .i64) (congrArg Prod.snd hq)) ?_
    refine W_region ?_
    refine L_cons rfl (O_move (v := .int .i64 1) rfl rfl ?_)
    refine L_cons rfl (O_bin (k := .i64) (k' := .i64) (a := 1) (b := 0) (v := .bool true) rfl rfl rfl (fun w => (b_neq w).trans (by first | rfl | decide)) ?_)
    refine L_nil (thenQ_n ?_)
    refine W_cond_t rfl ?_
    refine W_seq (W_region ?_)
    refine L_cons rfl (O_move (v := .bool true) rfl rfl ?_)
    refine L_cons rfl (O_move (v := .bool true) rfl rfl ?_)
    refine L_guard_yes rfl rfl (O_load_agg (vs := [.bool z.strict, .int .i64 z.heap, .int .i64 z.full, .slice z.ca z.comps.length z.ccap, .slice z.la z.links.length z.lcap, .slice z.sa z.shares.length z.scap]) rfl ag26 sz26 (Rd.of_blk (hs60.get 0 rfl) 0 6) rfl rfl ?_)
    refine L_guard_yes rfl rfl (O_build (ps := []) (cells := [.bool false, .int .i64 0, .int .i64 0, .slice none 0 0, .slice none 0 0, .slice none 0 0]) bt26 rfl rfl rfl ?_)
    refine L_guard_yes rfl rfl (O_call (args := [.agg #[.bool z.strict, .int .i64 z.heap, .int .i64 z.full, .slice z.ca z.comps.length z.ccap, .slice z.la z.links.length z.lcap, .slice z.sa z.shares.length z.scap], .agg #[.bool false, .int .i64 0, .int .i64 0, .slice none 0 0, .slice none 0 0, .slice none 0 0]]) rfl rfl rfl en18 (C.vt (same_c z noImg _ (List.forall_mem_append.2 ⟨(fun i hi => hs60.r i (List.mem_of_mem_drop (l := [arrI encComp 2 z.ca z.comps, arrI encLink 3 z.la z.links, arrI encShare 2 z.sa z.shares, codesI z.comps, arrI encB 1 a15 (putS m), arrI encB 1 a l, arrI encComp 2 m.ca m.comps, arrI encLink 3 m.la m.links, arrI encShare 2 m.sa m.shares, codesI m.comps]) (i := 0) (List.mem_append_left [arrI encB 1 a15 (putS m), arrI encB 1 a l, arrI encComp 2 m.ca m.comps, arrI encLink 3 m.la m.links, arrI encShare 2 m.sa m.shares, codesI m.comps] hi))), noImg_ok⟩) zb noImg_B) (zc.trans (congrArg Prod.fst hq))) ?_)
    rintro _ w61 ⟨rfl, hk63⟩
    have hs62 := hs60.keep hk63
    refine L_cons rfl (O_pick (v := .bool true) rfl rfl rfl ?_)
    refine L_cons rfl (O_move (v := .bool true) rfl rfl ?_)
    refine L_guard_yes rfl rfl (O_move (v := .int .i64 1) rfl rfl ?_)
    refine L_guard_yes rfl rfl (O_bin (k := .i64) (k' := .i64) (a := 1) (b := 1) (v := .bool true) rfl rfl rfl (fun w => (b_eql w).trans (by first | rfl | decide)) ?_)
    refine L_guard_yes rfl rfl (O_move (v := .bool true) rfl rfl ?_)
    refine L_guard_no rfl rfl rfl rfl ?_
    refine L_guard_no rfl rfl rfl rfl ?_
    refine L_guard_yes rfl rfl (O_pick (v := .bool true) rfl rfl rfl ?_)
    refine L_cons rfl (O_pick (v := .bool true) rfl rfl rfl ?_)
    refine L_cons rfl (O_assign (v := .bool true) rfl rfl ?_)
    refine L_nil (thenQ_n (W_ret (thenQ_r ?_)))
    refine ⟨.bool true, res1 rfl, ?_⟩
    exact ⟨rfl, hs62.base⟩
   ·refine W_norm 10 (.int .i64 151) (congrArg (Value.int .i64) (congrArg Prod.snd hq)) ?_
    refine W_region ?_
    refine L_cons rfl (O_move (v := .int .i64 151) rfl rfl ?_)
    refine L_cons rfl (O_bin (k := .i64) (k' := .i64) (a := 151) (b := 0) (v := .bool true) rfl rfl rfl (fun w => (b_neq w).trans (by first | rfl | decide)) ?_)
    refine L_nil (thenQ_n ?_)
    refine W_cond_t rfl ?_
    refine W_seq (W_region ?_)
    refine L_cons rfl (O_move (v := .bool true) rfl rfl ?_)
    refine L_cons rfl (O_move (v := .bool true) rfl rfl ?_)
    refine L_guard_yes rfl rfl (O_load_agg (vs := [.bool z.strict, .int .i64 z.heap, .int .i64 z.full, .slice z.ca z.comps.length z.ccap, .slice z.la z.links.length z.lcap, .slice z.sa z.shares.length z.scap]) rfl ag26 sz26 (Rd.of_blk (hs60.get 0 rfl) 0 6) rfl rfl ?_)
    refine L_guard_yes rfl rfl (O_build (ps := []) (cells := [.bool false, .int .i64 0, .int .i64 0, .slice none 0 0, .slice none 0 0, .slice none 0 0]) bt26 rfl rfl rfl ?_)
    refine L_guard_yes rfl rfl (O_call (args := [.agg #[.bool z.strict, .int .i64 z.heap, .int .i64 z.full, .slice z.ca z.comps.length z.ccap, .slice z.la z.links.length z.lcap, .slice z.sa z.shares.length z.scap], .agg #[.bool false, .int .i64 0, .int .i64 0, .slice none 0 0, .slice none 0 0, .slice none 0 0]]) rfl rfl rfl en18 (C.vt (same_c z noImg _ (List.forall_mem_append.2 ⟨(fun i hi => hs60.r i (List.mem_of_mem_drop (l := [arrI encComp 2 z.ca z.comps, arrI encLink 3 z.la z.links, arrI encShare 2 z.sa z.shares, codesI z.comps, arrI encB 1 a15 (putS m), arrI encB 1 a l, arrI encComp 2 m.ca m.comps, arrI encLink 3 m.la m.links, arrI encShare 2 m.sa m.shares, codesI m.comps]) (i := 0) (List.mem_append_left [arrI encB 1 a15 (putS m), arrI encB 1 a l, arrI encComp 2 m.ca m.comps, arrI encLink 3 m.la m.links, arrI encShare 2 m.sa m.shares, codesI m.comps] hi))), noImg_ok⟩) zb noImg_B) (zc.trans (congrArg Prod.fst hq))) ?_)
    rintro _ w64 ⟨rfl, hk66⟩
    have hs65 := hs60.keep hk66
    refine L_cons rfl (O_pick (v := .bool true) rfl rfl rfl ?_)
    refine L_cons rfl (O_move (v := .bool true) rfl rfl ?_)
    refine L_guard_yes rfl rfl (O_move (v := .int .i64 151) rfl rfl ?_)
    refine L_guard_yes rfl rfl (O_bin (k := .i64) (k' := .i64) (a := 151) (b := 1) (v := .bool false) rfl rfl rfl (fun w => (b_eql w).trans (by first | rfl | decide)) ?_)
    refine L_guard_yes rfl rfl (O_move (v := .bool false) rfl rfl ?_)
    refine L_guard_yes rfl rfl (O_move (v := .int .i64 151) rfl rfl ?_)
    refine L_guard_yes rfl rfl (O_bin (k := .i64) (k' := .i64) (a := 151) (b := 151) (v := .bool true) rfl rfl rfl (fun w => (b_eql w).trans (by first | rfl | decide)) ?_)
    refine L_guard_yes rfl rfl (O_pick (v := .bool true) rfl rfl rfl ?_)
    refine L_cons rfl (O_pick (v := .bool true) rfl rfl rfl ?_)
    refine L_cons rfl (O_assign (v := .bool true) rfl rfl ?_)
    refine L_nil (thenQ_n (W_ret (thenQ_r ?_)))
    refine ⟨.bool true, res1 rfl, ?_⟩
    exact ⟨rfl, hs65.base⟩
   ·refine W_norm 10 (.int .i64 0) (congrArg (Value.int .i64) (hq)) ?_
    refine W_region ?_
    refine L_cons rfl (O_move (v := .int .i64 0) rfl rfl ?_)
    refine L_cons rfl (O_bin (k := .i64) (k' := .i64) (a := 0) (b := 0) (v := .bool false) rfl rfl rfl (fun w => (b_neq w).trans (by first | rfl | decide)) ?_)
    refine L_nil (thenQ_n ?_)
    refine W_cond_f rfl ?_
    refine W_skip (thenQ_n (W_seq ?_))
    refine W_par' mixed (show St w (fun _ => False) _ [blk b55 [.bool z.strict, .int .i64 z.heap, .int .i64 z.full, .slice z.ca z.comps.length z.ccap, .slice z.la z.links.length z.lcap, .slice z.sa z.shares.length z.scap] 26, blk b1 (imgCells m) 26] [arrI encComp 2 z.ca z.comps, arrI encLink 3 z.la z.links, arrI encShare 2 z.sa z.shares, codesI z.comps, arrI encB 1 a15 (putS m), arrI encB 1 a l, arrI encComp 2 m.ca m.comps, arrI encLink 3 m.la m.links, arrI encShare 2 m.sa m.shares, codesI m.comps] from hs60) (fun i_ => match i_ with | 7 => some ([72], fun vs_ => match vs_ with | [x72] => ownI 5 1 (vaddr x72) (vcap x72) l.length (l.flatMap encB) | _ => emp) | _ => none) (fun i_ => match i_ with | _ => []) (fun i_ => match i_ with | 2 => [14] | 6 => [14] | 8 => [7] | _ => []) (fun i_ => match i_ with | 1 => [0] | 2 => [1] | 3 => [1, 2] | 4 => [1, 3] | 5 => [4] | 6 => [5] | 7 => [5, 6] | 8 => [5, 7] | 9 => [5] | 10 => [5, 9] | 11 => [5, 8, 10] | 12 => [5, 11] | 13 => [12] | _ => []) [7, 14, 15, 0, 1, 2, 3, 4, 5, 6, 8, 9, 10, 11, 12, 13, 16, 17, 18, 19, 20, 21, 22, 23, 24, 25, 26, 27, 28, 29] [7, 13] (fun i_ v_ => match i_ with | 0 => v_ = .bool true | 1 => v_ = .bool true | 2 => v_ = .agg #[.bool z.strict, .int .i64 z.heap, .int .i64 z.full, .slice z.ca z.comps.length z.ccap, .slice z.la z.links.length z.lcap, .slice z.sa z.shares.length z.scap] | 3 => v_ = .bool true | 4 => v_ = .bool true | 5 => v_ = .bool true | 6 => v_ = .agg #[.bool z.strict, .int .i64 z.heap, .int .i64 z.full, .slice z.ca z.comps.length z.ccap, .slice z.la z.links.length z.lcap, .slice z.sa z.shares.length z.scap] | 7 => ∃ a74 : Option Addr, ∃ c75 : Nat, v_ = .slice a74 l.length c75 | 8 => v_ = .string ⟨l.toArray⟩ | 9 => v_ = .slice a l.length cap | 10 => v_ = .string ⟨l.toArray⟩ | 11 => v_ = .bool true | 12 => v_ = .bool true | 13 => v_ = .bool true | _ => True) (by kernel_rfl) (by kernel_rfl) ⟨?_, ?_, ?_, ?_, ?_, ?_, ?_, ?_, ?_, ?_, ?_, ?_, ?_, ?_, trivial⟩ ?_
    ·intro f0_ w0_ X0_ hfr hus hrd hst
     have hb5 : f0_ 5 = .bool true := (hfr 5 rfl)
     refine og_none rfl (O_move (v := .bool true) hb5 rfl ?_)
     exact ⟨.bool true, rfl, rfl, hst⟩
    ·intro f1_ w1_ X1_ hfr hus hrd hst
     obtain ⟨hu0, -⟩ := hus
     have hu0 : f1_ 65 = .bool true := hu0
     refine og_none rfl (O_move (v := .bool true) hu0 rfl ?_)
     exact ⟨.bool true, rfl, rfl, hst⟩
    ·intro f2_ w2_ X2_ hfr hus hrd hst
     obtain ⟨hu1, -⟩ := hus
     have hu1 : f2_ 66 = .bool true := hu1
     have hb9 : f2_ 9 = .pointer (some ⟨b55, 0, none⟩) := (hfr 9 rfl)
     obtain ⟨hr14, -⟩ := hrd
     have hr14 : Item.φ (blk b55 [.bool z.strict, .int .i64 z.heap, .int .i64 z.full, .slice z.ca z.comps.length z.ccap, .slice z.la z.links.length z.lcap, .slice z.sa z.shares.length z.scap] 26) w2_ := hr14
     refine og_yes rfl hu1 (O_load_agg (vs := [.bool z.strict, .int .i64 z.heap, .int .i64 z.full, .slice z.ca z.comps.length z.ccap, .slice z.la z.links.length z.lcap, .slice z.sa z.shares.length z.scap]) hb9 ag26 sz26 (Rd.of_blk (hr14) 0 6) rfl rfl ?_)
     exact ⟨.agg #[.bool z.strict, .int .i64 z.heap, .int .i64 z.full, .slice z.ca z.comps.length z.ccap, .slice z.la z.links.length z.lcap, .slice z.sa z.shares.length z.scap], rfl, rfl, hst⟩
    ·intro f3_ w3_ X3_ hfr hus hrd hst
     obtain ⟨hu1, hu2, -⟩ := hus
     have hu1 : f3_ 66 = .bool true := hu1
     have hu2 : f3_ 67 = .agg #[.bool z.strict, .int .i64 z.heap, .int .i64 z.full, .slice z.ca z.comps.length z.ccap, .slice z.la z.links.length z.lcap, .slice z.sa z.shares.length z.scap] := hu2
     refine og_yes rfl hu1 (O_call (args := [.agg #[.bool z.strict, .int .i64 z.heap, .int .i64 z.full, .slice z.ca z.comps.length z.ccap, .slice z.la z.links.length z.lcap, .slice z.sa z.shares.length z.scap]]) rfl (by simp only [List.map_cons, List.map_nil, List.nil_append, List.cons_append, List.append_nil, ev, Value.cells, hu2]) rfl en14 (C.vb (b' := true) (iright_c z _ (fun i hi => hst.r i (List.mem_of_mem_drop (l := [arrI encComp 2 z.ca z.comps, arrI encLink 3 z.la z.links, arrI encShare 2 z.sa z.shares, codesI z.comps, arrI encB 1 a15 (putS m), arrI encB 1 a l, arrI encComp 2 m.ca m.comps, arrI encLink 3 m.la m.links, arrI encShare 2 m.sa m.shares, codesI m.comps]) (i := 0) (List.mem_append_left [arrI encB 1 a15 (putS m), arrI encB 1 a l, arrI encComp 2 m.ca m.comps, arrI encLink 3 m.la m.links, arrI encShare 2 m.sa m.shares, codesI m.comps] hi))) zb) (by rw [← rightS_canon, zc]; exact hr)) ?_)
     rintro _ w69 ⟨rfl, hk71⟩
     have hs70 := hst.keep hk71
     exact ⟨.bool true, rfl, rfl, hs70⟩
    ·intro f4_ w4_ X4_ hfr hus hrd hst
     obtain ⟨hu1, hu3, -⟩ := hus
     have hu1 : f4_ 66 = .bool true := hu1
     have hu3 : f4_ 68 = .bool true := hu3
     refine og_none rfl (O_pick (v := .bool true) hu1 (Eq.trans (if_pos rfl) hu3) rfl ?_)
     exact ⟨.bool true, rfl, rfl, hst⟩
    ·intro f5_ w5_ X5_ hfr hus hrd hst
     obtain ⟨hu4, -⟩ := hus
     have hu4 : f5_ 69 = .bool true := hu4
     refine og_none rfl (O_move (v := .bool true) hu4 rfl ?_)
     exact ⟨.bool true, rfl, rfl, hst⟩
    ·intro f6_ w6_ X6_ hfr hus hrd hst
     obtain ⟨hu5, -⟩ := hus
     have hu5 : f6_ 70 = .bool true := hu5
     have hb9 : f6_ 9 = .pointer (some ⟨b55, 0, none⟩) := (hfr 9 rfl)
     obtain ⟨hr14, -⟩ := hrd
     have hr14 : Item.φ (blk b55 [.bool z.strict, .int .i64 z.heap, .int .i64 z.full, .slice z.ca z.comps.length z.ccap, .slice z.la z.links.length z.lcap, .slice z.sa z.shares.length z.scap] 26) w6_ := hr14
     refine og_yes rfl hu5 (O_load_agg (vs := [.bool z.strict, .int .i64 z.heap, .int .i64 z.full, .slice z.ca z.comps.length z.ccap, .slice z.la z.links.length z.lcap, .slice z.sa z.shares.length z.scap]) hb9 ag26 sz26 (Rd.of_blk (hr14) 0 6) rfl rfl ?_)
     exact ⟨.agg #[.bool z.strict, .int .i64 z.heap, .int .i64 z.full, .slice z.ca z.comps.length z.ccap, .slice z.la z.links.length z.lcap, .slice z.sa z.shares.length z.scap], rfl, rfl, hst⟩
    ·intro f7_ w7_ X7_ hfr hus hrd hst
     obtain ⟨hu5, hu6, -⟩ := hus
     have hu5 : f7_ 70 = .bool true := hu5
     have hu6 : f7_ 71 = .agg #[.bool z.strict, .int .i64 z.heap, .int .i64 z.full, .slice z.ca z.comps.length z.ccap, .slice z.la z.links.length z.lcap, .slice z.sa z.shares.length z.scap] := hu6
     refine og_yes rfl hu5 (O_call (args := [.agg #[.bool z.strict, .int .i64 z.heap, .int .i64 z.full, .slice z.ca z.comps.length z.ccap, .slice z.la z.links.length z.lcap, .slice z.sa z.shares.length z.scap]]) rfl (by simp only [List.map_cons, List.map_nil, List.nil_append, List.cons_append, List.append_nil, ev, Value.cells, hu6]) rfl en16 (C.own (l2 := l) (put_c z _ (fun i hi => hst.r i (List.mem_of_mem_drop (l := [arrI encComp 2 z.ca z.comps, arrI encLink 3 z.la z.links, arrI encShare 2 z.sa z.shares, codesI z.comps, arrI encB 1 a15 (putS m), arrI encB 1 a l, arrI encComp 2 m.ca m.comps, arrI encLink 3 m.la m.links, arrI encShare 2 m.sa m.shares, codesI m.comps]) (i := 0) (List.mem_append_left [arrI encB 1 a15 (putS m), arrI encB 1 a l, arrI encComp 2 m.ca m.comps, arrI encLink 3 m.la m.links, arrI encShare 2 m.sa m.shares, codesI m.comps] hi))) zb) (by rw [← putS_canon, zc]; exact hp)) ?_)
     rintro _ w76 ⟨⟨a74, c75, rfl, ha78, hn79⟩, hk80⟩
     have hs77 := hst.add hk80 (ownI 5 1 a74 c75 l.length (l.flatMap encB)) ha78 hn79
     refine ⟨.slice a74 l.length c75, rfl, ⟨_, _, rfl⟩, ?_⟩
     show St _ _ _ ((ownI 5 1 (vaddr ((upd f7_ 72 (.slice a74 l.length c75)) 72)) (vcap ((upd f7_ 72 (.slice a74 l.length c75)) 72)) l.length (l.flatMap encB)) :: X7_) _
     exact hs77
    ·intro f8_ w8_ X8_ hfr hus hrd hst
     obtain ⟨hu5, hu7, -⟩ := hus
     have hu5 : f8_ 70 = .bool true := hu5
     obtain ⟨a74, c75, hu7⟩ := (show ∃ a74 : Option Addr, ∃ c75 : Nat, f8_ 72 = .slice a74 l.length c75 from hu7)
     obtain ⟨hr7, -⟩ := hrd
     have hr7 : Item.φ (ownI 5 1 (vaddr (f8_ 72)) (vcap (f8_ 72)) l.length (l.flatMap encB)) w8_ := hr7
     rw [hu7] at hr7; simp only [vblk, vaddr, vcap, vcell] at hr7
     refine og_yes rfl hu5 (O_bytes_str (enc := encB) (fun _ => rfl) hu7 (arr_of_own (m := 1) (fun _ => rfl) (by decide) (hr7)) rfl un27 un5 un9 rfl ?_)
     exact ⟨.string ⟨l.toArray⟩, rfl, rfl, hst⟩
    ·intro f9_ w9_ X9_ hfr hus hrd hst
     obtain ⟨hu5, -⟩ := hus
     have hu5 : f9_ 70 = .bool true := hu5
     have hb1 : f9_ 1 = .slice a l.length cap := (hfr 1 rfl)
     refine og_yes rfl hu5 (O_move (v := .slice a l.length cap) hb1 rfl ?_)
     exact ⟨.slice a l.length cap, rfl, rfl, hst⟩
    ·intro f10_ w10_ X10_ hfr hus hrd hst
     obtain ⟨hu5, hu9, -⟩ := hus
     have hu5 : f10_ 70 = .bool true := hu5
     have hu9 : f10_ 74 = .slice a l.length cap := hu9
     refine og_yes rfl hu5 (O_bytes_str (enc := encB) (fun _ => rfl) hu9 (hst.getR 5 rfl) rfl un27 un5 un9 rfl ?_)
     exact ⟨.string ⟨l.toArray⟩, rfl, rfl, hst⟩
    ·intro f11_ w11_ X11_ hfr hus hrd hst
     obtain ⟨hu5, hu8, hu10, -⟩ := hus
     have hu5 : f11_ 70 = .bool true := hu5
     have hu8 : f11_ 73 = .string ⟨l.toArray⟩ := hu8
     have hu10 : f11_ 75 = .string ⟨l.toArray⟩ := hu10
     refine og_yes rfl hu5 (O_binv (a := .string ⟨l.toArray⟩) (b := .string ⟨l.toArray⟩) (v := .bool true) hu8 hu10 rfl eg_string (b_eql_string.trans (by simp)) ?_)
     exact ⟨.bool true, rfl, rfl, hst⟩
    ·intro f12_ w12_ X12_ hfr hus hrd hst
     obtain ⟨hu5, hu11, -⟩ := hus
     have hu5 : f12_ 70 = .bool true := hu5
     have hu11 : f12_ 76 = .bool true := hu11
     refine og_none rfl (O_pick (v := .bool true) hu5 (Eq.trans (if_pos rfl) hu11) rfl ?_)
     exact ⟨.bool true, rfl, rfl, hst⟩
    ·intro f13_ w13_ X13_ hfr hus hrd hst
     obtain ⟨hu12, -⟩ := hus
     have hu12 : f13_ 77 = .bool true := hu12
     refine og_none rfl (O_assign (v := .bool true) hu12 rfl ?_)
     exact ⟨.bool true, rfl, rfl, hst⟩
    intro f85 w86 hfr hus hs87
    obtain ⟨hu7, hu13, -⟩ := hus
    obtain ⟨a74, c75, hu7⟩ := (show ∃ a74 : Option Addr, ∃ c75 : Nat, f85 72 = .slice a74 l.length c75 from hu7)
    have hu13 : f85 4 = .bool true := hu13
    have hs87 : St w (fun _ => False) w86 [ownI 5 1 (vaddr (f85 72)) (vcap (f85 72)) l.length (l.flatMap encB), blk b55 [.bool z.strict, .int .i64 z.heap, .int .i64 z.full, .slice z.ca z.comps.length z.ccap, .slice z.la z.links.length z.lcap, .slice z.sa z.shares.length z.scap] 26, blk b1 (imgCells m) 26] [arrI encComp 2 z.ca z.comps, arrI encLink 3 z.la z.links, arrI encShare 2 z.sa z.shares, codesI z.comps, arrI encB 1 a15 (putS m), arrI encB 1 a l, arrI encComp 2 m.ca m.comps, arrI encLink 3 m.la m.links, arrI encShare 2 m.sa m.shares, codesI m.comps] := hs87
    simp only [hu7, vblk, vaddr, vcap, vcell] at hs87
    have hs87 : St w (fun _ => False) w86 [ownI 5 1 a74 c75 l.length (l.flatMap encB), blk b55 [.bool z.strict, .int .i64 z.heap, .int .i64 z.full, .slice z.ca z.comps.length z.ccap, .slice z.la z.links.length z.lcap, .slice z.sa z.shares.length z.scap] 26, blk b1 (imgCells m) 26] [arrI encComp 2 z.ca z.comps, arrI encLink 3 z.la z.links, arrI encShare 2 z.sa z.shares, codesI z.comps, arrI encB 1 a15 (putS m), arrI encB 1 a l, arrI encComp 2 m.ca m.comps, arrI encLink 3 m.la m.links, arrI encShare 2 m.sa m.shares, codesI m.comps] := hs87
    rewrite [upd_id hu13]
    refine thenQ_n (W_ret ?_)
    refine ⟨.bool true, res1 rfl, ?_⟩
    exact ⟨rfl, hs87.base⟩


end Go.Proofs.Ytgddigkdldnmdaa
