import Derived.Test.YtgddigkdldnmdaaCApart8
namespace Go.Proofs.Ytgddigkdldnmdaa
open Go Go.Vg Go.Img
set_option linter.unusedSimpArgs false
set_option maxHeartbeats 4000000


theorem _root_.Go.Vg.Src.arrN {α : Type} {P : Program} {w : World} {enc : α → List Value} {m c n : Nat} {a : Option Addr} {l : List α} (h : (arrI enc m a l).φ w) (hm : ∀ x, (enc x).length = m) (h1 : ∀ x, (enc x).all (·.oneCell') = true) (hnil : a = none → c = 0) (hlc : l.length ≤ c) (hn : l.length = n) :
  Src P w (.slice a n c) m n (l.flatMap enc) := by
 subst hn; exact Src.arr h hm h1 hnil hlc
theorem where_q (m : ImageV) (hr : rightS m = true) (w : World) (hm : ∀ i ∈ imgIs m, i.φ w) (hb : ImgB m) :
  C Try.prog 22 [.agg (imgCells m).toArray] w fun v w' =>
   (∃ a1 c1 a2 c2 a3 c3 a4 c4, v = .agg #[.slice a1 m.comps.length c1, .slice a2 m.comps.length c2, .slice a3 m.comps.length c3, .slice a4 m.shares.length c4, .int .i64 (pgEnd m + ((m.shares.length : Nat) : Int))] ∧
    (m.comps.length ≤ c1 ∧ (a1 = none → c1 = 0)) ∧ (m.comps.length ≤ c2 ∧ (a2 = none → c2 = 0)) ∧ (m.comps.length ≤ c3 ∧ (a3 = none → c3 = 0)) ∧
    ∀ i ∈ [arrI encR 2 a1 (codesTo m m.comps.length), arrI encR 2 a2 (datasTo m m.comps.length), arrI encR 2 a3 (heapsTo m m.comps.length), arrI encI 1 a4 (shsTo m m.shares.length)], i.φ w' ∧ ∀ b, i.fp b → w.heap.size ≤ b) ∧ Grow w w' := by
 refine C.mono (where_c m w hm hb) ?_
 rintro v w' ⟨⟨A, rfl, h1, h2, h3⟩, hk⟩
 have he := whereS_yes hr
 rw [he] at h1 h2 h3
 have q1 := h3.l1; have q2 := h3.l2; have q3 := h3.l3
 simp only [codesTo_len, datasTo_len, heapsTo_len] at q1 q2 q3
 refine ⟨⟨A.a1, A.c1, A.a2, A.c2, A.a3, A.c3, A.a4, A.c4, by rw [he, ← lay_v], ⟨q1, h3.n1⟩, ⟨q2, h3.n2⟩, ⟨q3, h3.n3⟩, fun i hi => ⟨h1 i hi, h2 i hi⟩⟩, hk⟩
theorem apart0 (m : ImageV) : apartL m 0 = ((codesTo m m.comps.length) ++ (datasTo m m.comps.length)) ++ (heapsTo m m.comps.length) := List.append_nil _
theorem apart_snoc (m : ImageV) (j : Nat) : (apartL m j).flatMap encR ++ [.int .i64 (shAt m j), .int .i64 (shAt m j + 256)] = (apartL m (j + 1)).flatMap encR := by
 have e : apartL m (j + 1) = apartL m j ++ [shPair (shAt m j)] := by
  unfold apartL shsTo
  rw [List.range_succ, List.map_append, List.map_append, ← List.append_assoc]; rfl
 rw [e, List.flatMap_append]; rfl
theorem apart_len (m : ImageV) (k : Nat) : (apartL m k).length = m.comps.length + m.comps.length + m.comps.length + k := by
 simp [apartL, codesTo_len, datasTo_len, heapsTo_len, shsTo_len]; omega
theorem apart_1 {m : ImageV} (h : RightOk m) {x : Int × Int} (hx : x ∈ apartL m m.shares.length) : (0 ≤ x.1 ∧ x.2 ≤ 1000000) ∧ 256 ≤ x.1 ∧ x.1 % 256 = 0 ∧ x.1 < x.2 ∧ x.2 ≤ 256 * (pgEnd m + ((m.shares.length : Nat) : Int)) := by
 obtain ⟨lo, hi, hp, h1, h2⟩ := apart_in h x hx
 have := hp.a; have := hp.b; have := hp.c; have := pgEnd_b h; have := h.s4
 omega
theorem ap_E {x : Int × Int} {p : Int} (h : (0 ≤ x.1 ∧ x.2 ≤ 1000000) ∧ 256 ≤ x.1 ∧ x.1 % 256 = 0 ∧ x.1 < x.2 ∧ x.2 ≤ 256 * p) : (((decide (x.1 < 256) || decide (x.1 % 256 ≠ 0)) || decide (x.2 ≤ x.1)) || decide (256 * p < x.2)) = false := by
 simp only [Bool.or_eq_false_iff, decide_eq_false_iff_not]
 omega
theorem apart_2 {m : ImageV} (h : RightOk m) {i k : Nat} (hki : k < i) (hi : i < (apartL m m.shares.length).length) : Disj ((apartL m m.shares.length)[k]'(by omega)) ((apartL m m.shares.length)[i]) :=
 List.pairwise_iff_getElem.1 (apart_dis h) k i (by omega) hi hki
theorem ap_D {x y : Int × Int} (h : Disj y x) : (decide (x.1 < y.2) && decide (y.1 < x.2)) = false := by
 unfold Disj at h
 simp only [Bool.and_eq_false_iff, decide_eq_false_iff_not]
 omega
theorem lay_b {m : ImageV} (h : RightOk m) {i : Nat} (hi : i < m.comps.length) : ((0 ≤ (codeAt m i).1 ∧ (codeAt m i).1 ≤ 1000000) ∧ (0 ≤ (codeAt m i).2 ∧ (codeAt m i).2 ≤ 1000000)) ∧ ((0 ≤ (dataAt m i).1 ∧ (dataAt m i).1 ≤ 1000000) ∧ (0 ≤ (dataAt m i).2 ∧ (dataAt m i).2 ≤ 1000000)) ∧ ((0 ≤ (heapAt m i).1 ∧ (heapAt m i).1 ≤ 1000000) ∧ (0 ≤ (heapAt m i).2 ∧ (heapAt m i).2 ≤ 1000000)) := by
 have h1 := code_ps h hi; have h2 := data_ps h hi; have h3 := heap_ps h hi
 have := h1.a; have := h1.b; have := h1.c; have := h2.a; have := h2.b; have := h2.c; have := h3.a; have := h3.b; have := h3.c
 have hp := pgAt_b h i (by omega); have := h.n4; have hc := cmpOk h hi; have := hc.g1; have := hc.g16; have := hc.d1; have := hc.d8; have := h.h1; have := h.h64
 omega
theorem ap_S {m : ImageV} (h : RightOk m) {i : Nat} (hi : i < m.comps.length) : ((decide ((codeAt m i).2 - (codeAt m i).1 ≠ (((compAt m i).code.length : Nat) : Int)) || decide ((dataAt m i).2 - (dataAt m i).1 ≠ 256 * (compAt m i).data)) || decide ((heapAt m i).2 - (heapAt m i).1 ≠ 256 * m.heap)) = false := by
 simp only [Bool.or_eq_false_iff, decide_eq_false_iff_not, ne_eq, Decidable.not_not]
 unfold codeAt dataAt heapAt
 refine ⟨⟨?_, ?_⟩, ?_⟩ <;> (simp only; omega)

set_option maxHeartbeats 4000000 in
/-- seizin/seizinlaw17.ImageApart -/
theorem apart_c (m : ImageV) (w : World) (hm : ∀ i ∈ imgIs m, i.φ w) (hI : ImgI m) :
  C Try.prog 6 [.agg (imgCells m).toArray] w fun v w' => v = .bool true ∧ Grow w w' := by
 have hs0 : St w (fun _ => False) w [] (imgIs m) := St.start w _ hm
 refine C_of_W [.tmp 2] 228 Try.func6 rfl Try.ntmps6 rfl rfl ?_
 refine W_seq (W_region ?_)
 refine L_cons rfl (O_box (v := .agg (imgCells m).toArray) (cs := (imgCells m)) hs0 rfl rfl rfl ?_)
 intro b1 w2 hb4 hs3
 refine L_cons rfl (O_assign (v := .bool false) rfl rfl ?_)
 refine L_nil (thenQ_n (W_seq (W_region ?_)))
 refine L_cons rfl (O_call (args := []) rfl rfl rfl en10 (head_c _) ?_)
 rintro _ w5 ⟨rfl, hk7⟩
 have hs6 := hs3.keep hk7
 refine L_cons rfl (O_assign (v := .bool true) rfl rfl ?_)
 refine L_nil (thenQ_n (W_seq (W_seq (W_region ?_))))
 refine L_cons rfl (O_load_agg (vs := (imgCells m)) rfl ag26 sz26 (Rd.of_blk (hs6.get 0 rfl) 0 6) rfl rfl ?_)
 refine L_cons rfl (O_call (args := [.agg (imgCells m).toArray]) rfl rfl rfl en11 (great_c m _ (hs6.r) hI.cl hI.ll hI.sl) ?_)
 rintro _ w8 ⟨⟨bg, rfl, hg⟩, hk10⟩
 have hs9 := hs6.keep hk10
 refine L_cons rfl (O_move (v := .bool bg) rfl rfl ?_)
 refine L_guard_fp (v := .agg (imgCells m).toArray) rfl rfl rfl rfl (fun hg11 => O_load_agg (vs := (imgCells m)) rfl ag26 sz26 (Rd.of_blk (hs9.get 0 rfl) 0 6) rfl rfl ⟨rfl, rfl⟩) ?_
 refine L_guard_f (v := .bool (rightS m)) rfl rfl rfl rfl hs9 (fun hg12 => ?_) (fun w16 hs17 => ?_)
 ·refine O_call (args := [.agg (imgCells m).toArray]) rfl (cons2 (if_pos hg12) rfl) rfl en14 (iright_c m _ (hs9.r) (imgB_of hI (hg hg12))) ?_
  rintro _ w13 ⟨rfl, hk15⟩
  have hs14 := hs9.keep hk15
  exact ⟨rfl, hs14⟩
 refine L_guard_fp (v := .bool (!(rightS m))) rfl rfl rfl rfl (fun hg18 => O_not (b := (rightS m)) (show ev _ _ = .bool (rightS m) from if_pos hg18) rfl ⟨rfl, rfl⟩) ?_
 refine L_cons rfl (O_pick rfl (pick_or _ _) rfl ?_)
 refine L_nil (thenQ_n ?_)
 refine W_cond (t := (bg || (!(rightS m)))) rfl (fun hc19 => ?_) (fun hc19 => ?_)
 ·refine W_seq (W_region ?_)
  refine L_cons rfl (O_move (v := .bool true) rfl rfl ?_)
  refine L_cons rfl (O_assign (v := .bool true) rfl rfl ?_)
  refine L_nil (thenQ_n (W_ret (thenQ_r ?_)))
  refine ⟨.bool true, res1 rfl, ?_⟩
  exact ⟨rfl, hs17.base⟩
 ·refine W_skip (thenQ_n (W_seq ?_))
  have hgg := Bool.or_eq_false_iff.1 hc19
  have hb := imgB_of hI (hg hgg.1)
  have hright : rightS m = true := by simpa using hgg.2
  have hok := rightS_ok hright
  have := hok.n4; have := hok.s4; have := hok.h1; have := hok.h64; have hpe := pgEnd_b hok
  refine W_region ?_
  refine L_cons rfl (O_load_agg (vs := (imgCells m)) rfl ag26 sz26 (Rd.of_blk (hs17.get 0 rfl) 0 6) rfl rfl ?_)
  refine L_cons rfl (O_call (args := [.agg (imgCells m).toArray]) rfl rfl rfl en22 (where_q m hright _ (hs17.r) hb) ?_)
  rintro _ w20 ⟨⟨a1, c1, a2, c2, a3, c3, a4, c4, rfl, hz1, hz2, hz3, hr22⟩, hk23⟩
  have hs21 := hs17.addRf hk23 [arrI encR 2 a1 (codesTo m m.comps.length), arrI encR 2 a2 (datasTo m m.comps.length), arrI encR 2 a3 (heapsTo m m.comps.length), arrI encI 1 a4 (shsTo m m.shares.length)] hr22
  refine L_cons rfl (O_alloc (cs := [.slice none 0 0, .slice none 0 0, .slice none 0 0, .slice none 0 0, .int .i64 0]) hs21 zv45 rfl rfl ?_)
  intro b24 w25 hb27 hs26
  refine L_cons rfl (O_store (v := .agg #[.slice a1 m.comps.length c1, .slice a2 m.comps.length c2, .slice a3 m.comps.length c3, .slice a4 m.shares.length c4, .int .i64 (pgEnd m + ((m.shares.length : Nat) : Int))]) (vs := [.slice a1 m.comps.length c1, .slice a2 m.comps.length c2, .slice a3 m.comps.length c3, .slice a4 m.shares.length c4, .int .i64 (pgEnd m + ((m.shares.length : Nat) : Int))]) (cs' := [.slice a1 m.comps.length c1, .slice a2 m.comps.length c2, .slice a3 m.comps.length c3, .slice a4 m.shares.length c4, .int .i64 (pgEnd m + ((m.shares.length : Nat) : Int))]) hs26 0 rfl rfl rfl sz45 rfl rfl rfl rfl rfl ?_)
  intro w28 hs29
  refine L_nil (thenQ_n (W_seq (W_region ?_)))
  refine L_cons rfl (O_fieldAddr rfl fd26_3 rfl (o' := 3) rfl rfl ?_)
  refine L_cons rfl (O_load (v := .slice m.ca m.comps.length m.ccap) rfl ag22 (cell_of_blk (hs29.get 1 rfl) rfl) rfl ?_)
  refine L_cons rfl (O_len_slice (len := m.comps.length) rfl un22 rfl ?_)
  refine L_cons rfl (O_assign (v := .int .i64 ((m.comps.length : Nat) : Int)) rfl rfl ?_)
  refine L_nil (thenQ_n (W_seq (W_seq (W_region ?_))))
  refine L_cons rfl (O_fieldAddr rfl fd45_0 rfl (o' := 0) rfl rfl ?_)
  refine L_cons rfl (O_load (v := .slice a1 m.comps.length c1) rfl ag42 (cell_of_blk (hs29.get 0 rfl) rfl) rfl ?_)
  refine L_cons rfl (O_len_slice (len := m.comps.length) rfl un42 rfl ?_)
  refine L_cons rfl (O_move (v := .int .i64 ((m.comps.length : Nat) : Int)) rfl rfl ?_)
  refine L_cons rfl (O_bin (k := .i64) (k' := .i64) (a := ((m.comps.length : Nat) : Int)) (b := ((m.comps.length : Nat) : Int)) (v := .bool false) rfl rfl rfl (fun w => (b_neq w).trans (by rw [show decide (((m.comps.length : Nat) : Int) ≠ ((m.comps.length : Nat) : Int)) = false from by simp])) ?_)
  refine L_cons rfl (O_move (v := .bool false) rfl rfl ?_)
  refine L_guard_yes rfl rfl (O_fieldAddr rfl fd45_1 rfl (o' := 1) rfl rfl ?_)
  refine L_guard_yes rfl rfl (O_load (v := .slice a2 m.comps.length c2) rfl ag42 (cell_of_blk (hs29.get 0 rfl) rfl) rfl ?_)
  refine L_guard_yes rfl rfl (O_len_slice (len := m.comps.length) rfl un42 rfl ?_)
  refine L_guard_yes rfl rfl (O_move (v := .int .i64 ((m.comps.length : Nat) : Int)) rfl rfl ?_)
  refine L_guard_yes rfl rfl (O_bin (k := .i64) (k' := .i64) (a := ((m.comps.length : Nat) : Int)) (b := ((m.comps.length : Nat) : Int)) (v := .bool false) rfl rfl rfl (fun w => (b_neq w).trans (by rw [show decide (((m.comps.length : Nat) : Int) ≠ ((m.comps.length : Nat) : Int)) = false from by simp])) ?_)
  refine L_cons rfl (O_pick (v := .bool false) rfl rfl rfl ?_)
  refine L_cons rfl (O_move (v := .bool false) rfl rfl ?_)
  refine L_guard_yes rfl rfl (O_fieldAddr rfl fd45_2 rfl (o' := 2) rfl rfl ?_)
  refine L_guard_yes rfl rfl (O_load (v := .slice a3 m.comps.length c3) rfl ag42 (cell_of_blk (hs29.get 0 rfl) rfl) rfl ?_)
  refine L_guard_yes rfl rfl (O_len_slice (len := m.comps.length) rfl un42 rfl ?_)
  refine L_guard_yes rfl rfl (O_move (v := .int .i64 ((m.comps.length : Nat) : Int)) rfl rfl ?_)
  refine L_guard_yes rfl rfl (O_bin (k := .i64) (k' := .i64) (a := ((m.comps.length : Nat) : Int)) (b := ((m.comps.length : Nat) : Int)) (v := .bool false) rfl rfl rfl (fun w => (b_neq w).trans (by rw [show decide (((m.comps.length : Nat) : Int) ≠ ((m.comps.length : Nat) : Int)) = false from by simp])) ?_)
  refine L_cons rfl (O_pick (v := .bool false) rfl rfl rfl ?_)
  refine L_cons rfl (O_move (v := .bool false) rfl rfl ?_)
  refine L_guard_yes rfl rfl (O_fieldAddr rfl fd45_3 rfl (o' := 3) rfl rfl ?_)
  refine L_guard_yes rfl rfl (O_load (v := .slice a4 m.shares.length c4) rfl ag43 (cell_of_blk (hs29.get 0 rfl) rfl) rfl ?_)
  refine L_guard_yes rfl rfl (O_len_slice (len := m.shares.length) rfl un43 rfl ?_)
  refine L_guard_yes rfl rfl (O_fieldAddr rfl fd26_5 rfl (o' := 5) rfl rfl ?_)
  refine L_guard_yes rfl rfl (O_load (v := .slice m.sa m.shares.length m.scap) rfl ag24 (cell_of_blk (hs29.get 1 rfl) rfl) rfl ?_)
  refine L_guard_yes rfl rfl (O_len_slice (len := m.shares.length) rfl un24 rfl ?_)
  refine L_guard_yes rfl rfl (O_bin (k := .i64) (k' := .i64) (a := ((m.shares.length : Nat) : Int)) (b := ((m.shares.length : Nat) : Int)) (v := .bool false) rfl rfl rfl (fun w => (b_neq w).trans (by rw [show decide (((m.shares.length : Nat) : Int) ≠ ((m.shares.length : Nat) : Int)) = false from by simp])) ?_)
  refine L_cons rfl (O_pick (v := .bool false) rfl rfl rfl ?_)
  refine L_nil (thenQ_n ?_)
  refine W_cond_f rfl ?_
  refine W_skip (thenQ_n (W_seq ?_))
  refine W_par' mixed (show St w (fun _ => False) _ [blk b24 [.slice a1 m.comps.length c1, .slice a2 m.comps.length c2, .slice a3 m.comps.length c3, .slice a4 m.shares.length c4, .int .i64 (pgEnd m + ((m.shares.length : Nat) : Int))] 45, blk b1 (imgCells m) 26] [arrI encR 2 a1 (codesTo m m.comps.length), arrI encR 2 a2 (datasTo m m.comps.length), arrI encR 2 a3 (heapsTo m m.comps.length), arrI encI 1 a4 (shsTo m m.shares.length), arrI encComp 2 m.ca m.comps, arrI encLink 3 m.la m.links, arrI encShare 2 m.sa m.shares, codesI m.comps] from hs29) (fun i_ => match i_ with | 0 => some ([53], fun vs_ => match vs_ with | [x53] => blk (vblk x53) [] 51 | _ => emp) | 3 => some ([56], fun vs_ => match vs_ with | [x56] => ownI 51 2 (vaddr x56) (vcap x56) m.comps.length ((codesTo m m.comps.length).flatMap encR) | _ => emp) | 6 => some ([59], fun vs_ => match vs_ with | [x59] => ownI 51 2 (vaddr x59) (vcap x59) (m.comps.length + m.comps.length) (((codesTo m m.comps.length) ++ (datasTo m m.comps.length)).flatMap encR) | _ => emp) | 9 => some ([62], fun vs_ => match vs_ with | [x62] => ownI 51 2 (vaddr x62) (vcap x62) (m.comps.length + m.comps.length + m.comps.length) ((((codesTo m m.comps.length) ++ (datasTo m m.comps.length)) ++ (heapsTo m m.comps.length)).flatMap encR) | _ => emp) | 10 => some ([6], fun vs_ => match vs_ with | [x6] => ownI 51 2 (vaddr x6) (vcap x6) (m.comps.length + m.comps.length + m.comps.length) ((((codesTo m m.comps.length) ++ (datasTo m m.comps.length)) ++ (heapsTo m m.comps.length)).flatMap encR) | _ => emp) | _ => none) (fun i_ => match i_ with | 3 => [0] | 6 => [3] | 9 => [6] | 10 => [9] | _ => []) (fun i_ => match i_ with | 2 => [11] | 5 => [11] | 8 => [11] | _ => []) (fun i_ => match i_ with | 2 => [1] | 3 => [0, 2] | 5 => [4] | 6 => [3, 5] | 8 => [7] | 9 => [6, 8] | 10 => [9] | _ => []) [10, 11, 12, 1, 2, 4, 5, 7, 8, 13, 14, 15, 16, 17, 18, 19, 20, 21, 22, 23] [10] (fun i_ v_ => match i_ with | 0 => ∃ b30 : Nat, v_ = .slice (some ⟨b30, 0, none⟩) 0 0 | 1 => v_ = .pointer (some ⟨b24, 0, none⟩) | 2 => v_ = .slice a1 m.comps.length c1 | 3 => ∃ a35 : Option Addr, ∃ c36 : Nat, v_ = .slice a35 m.comps.length c36 | 4 => v_ = .pointer (some ⟨b24, 1, none⟩) | 5 => v_ = .slice a2 m.comps.length c2 | 6 => ∃ a39 : Option Addr, ∃ c40 : Nat, v_ = .slice a39 (m.comps.length + m.comps.length) c40 | 7 => v_ = .pointer (some ⟨b24, 2, none⟩) | 8 => v_ = .slice a3 m.comps.length c3 | 9 => ∃ a43 : Option Addr, ∃ c44 : Nat, v_ = .slice a43 (m.comps.length + m.comps.length + m.comps.length) c44 | 10 => ∃ a47 : Option Addr, ∃ c48 : Nat, v_ = .slice a47 (m.comps.length + m.comps.length + m.comps.length) c48 | _ => True) (by kernel_rfl) (by kernel_rfl) ⟨?_, ?_, ?_, ?_, ?_, ?_, ?_, ?_, ?_, ?_, ?_, trivial⟩ ?_
  ·intro f0_ w0_ X0_ hfr hus hrd hst
   refine og_none rfl (O_buildSlice (zs := []) (ps := []) (cs := []) hst un42 sz51 zv51 rfl rfl rfl rfl rfl ?_)
   intro b30 w31 hb33 hs32
   refine ⟨.slice (some ⟨b30, 0, none⟩) 0 0, rfl, ⟨_, rfl⟩, ?_⟩
   show St _ _ _ ((blk (vblk ((upd f0_ 53 (.slice (some ⟨b30, 0, none⟩) 0 0)) 53)) [] 51) :: X0_) _
   exact hs32
  ·intro f1_ w1_ X1_ hfr hus hrd hst
   have hb4 : f1_ 4 = .pointer (some ⟨b24, 0, none⟩) := (hfr 4 rfl)
   refine og_none rfl (O_fieldAddr hb4 fd45_0 rfl (o' := 0) rfl rfl ?_)
   exact ⟨.pointer (some ⟨b24, 0, none⟩), rfl, rfl, hst⟩
  ·intro f2_ w2_ X2_ hfr hus hrd hst
   obtain ⟨hu1, -⟩ := hus
   have hu1 : f2_ 54 = .pointer (some ⟨b24, 0, none⟩) := hu1
   obtain ⟨hr11, -⟩ := hrd
   have hr11 : Item.φ (blk b24 [.slice a1 m.comps.length c1, .slice a2 m.comps.length c2, .slice a3 m.comps.length c3, .slice a4 m.shares.length c4, .int .i64 (pgEnd m + ((m.shares.length : Nat) : Int))] 45) w2_ := hr11
   refine og_none rfl (O_load (v := .slice a1 m.comps.length c1) hu1 ag42 (cell_of_blk (hr11) rfl) rfl ?_)
   exact ⟨.slice a1 m.comps.length c1, rfl, rfl, hst⟩
  ·intro f3_ w3_ X3_ hfr hus hrd hst
   obtain ⟨hu0, hu2, -⟩ := hus
   obtain ⟨b30, hu0⟩ := (show ∃ b30 : Nat, f3_ 53 = .slice (some ⟨b30, 0, none⟩) 0 0 from hu0)
   have hu2 : f3_ 55 = .slice a1 m.comps.length c1 := hu2
   have hst : St w (fun _ => False) w3_ ((blk (vblk (f3_ 53)) [] 51) :: X3_) [arrI encR 2 a1 (codesTo m m.comps.length), arrI encR 2 a2 (datasTo m m.comps.length), arrI encR 2 a3 (heapsTo m m.comps.length), arrI encI 1 a4 (shsTo m m.shares.length), arrI encComp 2 m.ca m.comps, arrI encLink 3 m.la m.links, arrI encShare 2 m.sa m.shares, codesI m.comps] := hst
   rw [hu0] at hst; simp only [vblk, vaddr, vcap, vcell] at hst
   have hs34 := hst.ownBlk 0 rfl 2 0 rfl (by decide)
   refine og_none rfl (O_appendE (n2 := m.comps.length) (xs2 := (codesTo m m.comps.length).flatMap encR) hs34 0 rfl hu0 hu2 un42 ni42 inf51 rfl (Src.arrN (hs34.getR 0 rfl) (fun _ => rfl) (fun _ => rfl) (hz1.2) ((by rw [codesTo_len]; exact hz1.1)) (codesTo_len _ _)) (by omega) (by simp) (by omega) (by omega) rfl ?_)
   intro a35 c36 w37 hs38
   refine ⟨.slice a35 m.comps.length c36, rfl, ⟨_, _, rfl⟩, ?_⟩
   show St _ _ _ ((ownI 51 2 (vaddr ((upd f3_ 56 (.slice a35 m.comps.length c36)) 56)) (vcap ((upd f3_ 56 (.slice a35 m.comps.length c36)) 56)) m.comps.length ((codesTo m m.comps.length).flatMap encR)) :: X3_) _
   exact hs38
  ·intro f4_ w4_ X4_ hfr hus hrd hst
   have hb4 : f4_ 4 = .pointer (some ⟨b24, 0, none⟩) := (hfr 4 rfl)
   refine og_none rfl (O_fieldAddr hb4 fd45_1 rfl (o' := 1) rfl rfl ?_)
   exact ⟨.pointer (some ⟨b24, 1, none⟩), rfl, rfl, hst⟩
  ·intro f5_ w5_ X5_ hfr hus hrd hst
   obtain ⟨hu4, -⟩ := hus
   have hu4 : f5_ 57 = .pointer (some ⟨b24, 1, none⟩) := hu4
   obtain ⟨hr11, -⟩ := hrd
   have hr11 : Item.φ (blk b24 [.slice a1 m.comps.length c1, .slice a2 m.comps.length c2, .slice a3 m.comps.length c3, .slice a4 m.shares.length c4, .int .i64 (pgEnd m + ((m.shares.length : Nat) : Int))] 45) w5_ := hr11
   refine og_none rfl (O_load (v := .slice a2 m.comps.length c2) hu4 ag42 (cell_of_blk (hr11) rfl) rfl ?_)
   exact ⟨.slice a2 m.comps.length c2, rfl, rfl, hst⟩
  ·intro f6_ w6_ X6_ hfr hus hrd hst
   obtain ⟨hu3, hu5, -⟩ := hus
   obtain ⟨a35, c36, hu3⟩ := (show ∃ a35 : Option Addr, ∃ c36 : Nat, f6_ 56 = .slice a35 m.comps.length c36 from hu3)
   have hu5 : f6_ 58 = .slice a2 m.comps.length c2 := hu5
   have hst : St w (fun _ => False) w6_ ((ownI 51 2 (vaddr (f6_ 56)) (vcap (f6_ 56)) m.comps.length ((codesTo m m.comps.length).flatMap encR)) :: X6_) [arrI encR 2 a1 (codesTo m m.comps.length), arrI encR 2 a2 (datasTo m m.comps.length), arrI encR 2 a3 (heapsTo m m.comps.length), arrI encI 1 a4 (shsTo m m.shares.length), arrI encComp 2 m.ca m.comps, arrI encLink 3 m.la m.links, arrI encShare 2 m.sa m.shares, codesI m.comps] := hst
   rw [hu3] at hst; simp only [vblk, vaddr, vcap, vcell] at hst
   refine og_none rfl (O_appendE (n2 := m.comps.length + m.comps.length) (xs2 := ((codesTo m m.comps.length) ++ (datasTo m m.comps.length)).flatMap encR) hst 0 rfl hu3 hu5 un42 ni42 inf51 rfl (Src.arrN (hst.getR 1 rfl) (fun _ => rfl) (fun _ => rfl) (hz2.2) ((by rw [datasTo_len]; exact hz2.1)) (datasTo_len _ _)) (by omega) (by simp) (by omega) (by omega) rfl ?_)
   intro a39 c40 w41 hs42
   refine ⟨.slice a39 (m.comps.length + m.comps.length) c40, rfl, ⟨_, _, rfl⟩, ?_⟩
   show St _ _ _ ((ownI 51 2 (vaddr ((upd f6_ 59 (.slice a39 (m.comps.length + m.comps.length) c40)) 59)) (vcap ((upd f6_ 59 (.slice a39 (m.comps.length + m.comps.length) c40)) 59)) (m.comps.length + m.comps.length) (((codesTo m m.comps.length) ++ (datasTo m m.comps.length)).flatMap encR)) :: X6_) _
   exact hs42
  ·intro f7_ w7_ X7_ hfr hus hrd hst
   have hb4 : f7_ 4 = .pointer (some ⟨b24, 0, none⟩) := (hfr 4 rfl)
   refine og_none rfl (O_fieldAddr hb4 fd45_2 rfl (o' := 2) rfl rfl ?_)
   exact ⟨.pointer (some ⟨b24, 2, none⟩), rfl, rfl, hst⟩
  ·intro f8_ w8_ X8_ hfr hus hrd hst
   obtain ⟨hu7, -⟩ := hus
   have hu7 : f8_ 60 = .pointer (some ⟨b24, 2, none⟩) := hu7
   obtain ⟨hr11, -⟩ := hrd
   have hr11 : Item.φ (blk b24 [.slice a1 m.comps.length c1, .slice a2 m.comps.length c2, .slice a3 m.comps.length c3, .slice a4 m.shares.length c4, .int .i64 (pgEnd m + ((m.shares.length : Nat) : Int))] 45) w8_ := hr11
   refine og_none rfl (O_load (v := .slice a3 m.comps.length c3) hu7 ag42 (cell_of_blk (hr11) rfl) rfl ?_)
   exact ⟨.slice a3 m.comps.length c3, rfl, rfl, hst⟩
  ·intro f9_ w9_ X9_ hfr hus hrd hst
   obtain ⟨hu6, hu8, -⟩ := hus
   obtain ⟨a39, c40, hu6⟩ := (show ∃ a39 : Option Addr, ∃ c40 : Nat, f9_ 59 = .slice a39 (m.comps.length + m.comps.length) c40 from hu6)
   have hu8 : f9_ 61 = .slice a3 m.comps.length c3 := hu8
   have hst : St w (fun _ => False) w9_ ((ownI 51 2 (vaddr (f9_ 59)) (vcap (f9_ 59)) (m.comps.length + m.comps.length) (((codesTo m m.comps.length) ++ (datasTo m m.comps.length)).flatMap encR)) :: X9_) [arrI encR 2 a1 (codesTo m m.comps.length), arrI encR 2 a2 (datasTo m m.comps.length), arrI encR 2 a3 (heapsTo m m.comps.length), arrI encI 1 a4 (shsTo m m.shares.length), arrI encComp 2 m.ca m.comps, arrI encLink 3 m.la m.links, arrI encShare 2 m.sa m.shares, codesI m.comps] := hst
   rw [hu6] at hst; simp only [vblk, vaddr, vcap, vcell] at hst
   refine og_none rfl (O_appendE (n2 := m.comps.length + m.comps.length + m.comps.length) (xs2 := (((codesTo m m.comps.length) ++ (datasTo m m.comps.length)) ++ (heapsTo m m.comps.length)).flatMap encR) hst 0 rfl hu6 hu8 un42 ni42 inf51 rfl (Src.arrN (hst.getR 2 rfl) (fun _ => rfl) (fun _ => rfl) (hz3.2) ((by rw [heapsTo_len]; exact hz3.1)) (heapsTo_len _ _)) (by omega) (by simp) (by omega) (by omega) rfl ?_)
   intro a43 c44 w45 hs46
   refine ⟨.slice a43 (m.comps.length + m.comps.length + m.comps.length) c44, rfl, ⟨_, _, rfl⟩, ?_⟩
   show St _ _ _ ((ownI 51 2 (vaddr ((upd f9_ 62 (.slice a43 (m.comps.length + m.comps.length + m.comps.length) c44)) 62)) (vcap ((upd f9_ 62 (.slice a43 (m.comps.length + m.comps.length + m.comps.length) c44)) 62)) (m.comps.length + m.comps.length + m.comps.length) ((((codesTo m m.comps.length) ++ (datasTo m m.comps.length)) ++ (heapsTo m m.comps.length)).flatMap encR)) :: X9_) _
   exact hs46
  ·intro f10_ w10_ X10_ hfr hus hrd hst
   obtain ⟨hu9, -⟩ := hus
   obtain ⟨a43, c44, hu9⟩ := (show ∃ a43 : Option Addr, ∃ c44 : Nat, f10_ 62 = .slice a43 (m.comps.length + m.comps.length + m.comps.length) c44 from hu9)
   have hst : St w (fun _ => False) w10_ ((ownI 51 2 (vaddr (f10_ 62)) (vcap (f10_ 62)) (m.comps.length + m.comps.length + m.comps.length) ((((codesTo m m.comps.length) ++ (datasTo m m.comps.length)) ++ (heapsTo m m.comps.length)).flatMap encR)) :: X10_) [arrI encR 2 a1 (codesTo m m.comps.length), arrI encR 2 a2 (datasTo m m.comps.length), arrI encR 2 a3 (heapsTo m m.comps.length), arrI encI 1 a4 (shsTo m m.shares.length), arrI encComp 2 m.ca m.comps, arrI encLink 3 m.la m.links, arrI encShare 2 m.sa m.shares, codesI m.comps] := hst
   rw [hu9] at hst; simp only [vblk, vaddr, vcap, vcell] at hst
   refine og_none rfl (O_assign (v := .slice a43 (m.comps.length + m.comps.length + m.comps.length) c44) hu9 rfl ?_)
   refine ⟨.slice a43 (m.comps.length + m.comps.length + m.comps.length) c44, rfl, ⟨_, _, rfl⟩, ?_⟩
   show St _ _ _ ((ownI 51 2 (vaddr ((upd f10_ 6 (.slice a43 (m.comps.length + m.comps.length + m.comps.length) c44)) 6)) (vcap ((upd f10_ 6 (.slice a43 (m.comps.length + m.comps.length + m.comps.length) c44)) 6)) (m.comps.length + m.comps.length + m.comps.length) ((((codesTo m m.comps.length) ++ (datasTo m m.comps.length)) ++ (heapsTo m m.comps.length)).flatMap encR)) :: X10_) _
   exact hst
  intro f49 w50 hfr hus hs51
  obtain ⟨hu10, -⟩ := hus
  obtain ⟨a47, c48, hu10⟩ := (show ∃ a47 : Option Addr, ∃ c48 : Nat, f49 6 = .slice a47 (m.comps.length + m.comps.length + m.comps.length) c48 from hu10)
  have hs51 : St w (fun _ => False) w50 [ownI 51 2 (vaddr (f49 6)) (vcap (f49 6)) (m.comps.length + m.comps.length + m.comps.length) ((((codesTo m m.comps.length) ++ (datasTo m m.comps.length)) ++ (heapsTo m m.comps.length)).flatMap encR), blk b24 [.slice a1 m.comps.length c1, .slice a2 m.comps.length c2, .slice a3 m.comps.length c3, .slice a4 m.shares.length c4, .int .i64 (pgEnd m + ((m.shares.length : Nat) : Int))] 45, blk b1 (imgCells m) 26] [arrI encR 2 a1 (codesTo m m.comps.length), arrI encR 2 a2 (datasTo m m.comps.length), arrI encR 2 a3 (heapsTo m m.comps.length), arrI encI 1 a4 (shsTo m m.shares.length), arrI encComp 2 m.ca m.comps, arrI encLink 3 m.la m.links, arrI encShare 2 m.sa m.shares, codesI m.comps] := hs51
  simp only [hu10, vblk, vaddr, vcap, vcell] at hs51
  have hs51 : St w (fun _ => False) w50 [ownI 51 2 a47 c48 (m.comps.length + m.comps.length + m.comps.length) ((((codesTo m m.comps.length) ++ (datasTo m m.comps.length)) ++ (heapsTo m m.comps.length)).flatMap encR), blk b24 [.slice a1 m.comps.length c1, .slice a2 m.comps.length c2, .slice a3 m.comps.length c3, .slice a4 m.shares.length c4, .int .i64 (pgEnd m + ((m.shares.length : Nat) : Int))] 45, blk b1 (imgCells m) 26] [arrI encR 2 a1 (codesTo m m.comps.length), arrI encR 2 a2 (datasTo m m.comps.length), arrI encR 2 a3 (heapsTo m m.comps.length), arrI encI 1 a4 (shsTo m m.shares.length), arrI encComp 2 m.ca m.comps, arrI encLink 3 m.la m.links, arrI encShare 2 m.sa m.shares, codesI m.comps] := hs51
  have e52 : f49 1 = .pointer (some ⟨b1, 0, none⟩) := (hfr 1 rfl)
  rewrite [upd_id e52]
  have e53 : f49 3 = .bool true := (hfr 3 rfl)
  rewrite [upd_id e53]
  have e54 : f49 4 = .pointer (some ⟨b24, 0, none⟩) := (hfr 4 rfl)
  rewrite [upd_id e54]
  have e55 : f49 5 = .int .i64 ((m.comps.length : Nat) : Int) := (hfr 5 rfl)
  rewrite [upd_id e55]
  rewrite [upd_id hu10]
  refine thenQ_n (W_seq (W_seq (W_region ?_)))
  refine L_cons rfl (O_assign (v := .int .i64 0) rfl rfl ?_)
  refine L_nil (thenQ_n (W_block ?_))
  have hs56 : St w (fun _ => False) w50 [ownI 51 2 a47 c48 (m.comps.length + m.comps.length + m.comps.length + 0) ((apartL m 0).flatMap encR), blk b24 [.slice a1 m.comps.length c1, .slice a2 m.comps.length c2, .slice a3 m.comps.length c3, .slice a4 m.shares.length c4, .int .i64 (pgEnd m + ((m.shares.length : Nat) : Int))] 45, blk b1 (imgCells m) 26] [arrI encR 2 a1 (codesTo m m.comps.length), arrI encR 2 a2 (datasTo m m.comps.length), arrI encR 2 a3 (heapsTo m m.comps.length), arrI encI 1 a4 (shsTo m m.shares.length), arrI encComp 2 m.ca m.comps, arrI encLink 3 m.la m.links, arrI encShare 2 m.sa m.shares, codesI m.comps] := by rw [apart0]; exact hs51
  refine W_loopm (fun m_ f_ w_ => ∃ j : Nat, ∃ a6 : Option Addr, ∃ c6 : Nat, m_ = m.shares.length - j ∧ (j ≤ m.shares.length) ∧ f_ 1 = .pointer (some ⟨b1, 0, none⟩) ∧ f_ 3 = .bool true ∧ f_ 4 = .pointer (some ⟨b24, 0, none⟩) ∧ f_ 5 = .int .i64 ((m.comps.length : Nat) : Int) ∧ f_ 6 = .slice a6 (m.comps.length + m.comps.length + m.comps.length + j) c6 ∧ f_ 7 = .int .i64 ((j : Nat) : Int) ∧ St w (fun _ => False) w_ [ownI 51 2 a6 c6 (m.comps.length + m.comps.length + m.comps.length + j) ((apartL m j).flatMap encR), blk b24 [.slice a1 m.comps.length c1, .slice a2 m.comps.length c2, .slice a3 m.comps.length c3, .slice a4 m.shares.length c4, .int .i64 (pgEnd m + ((m.shares.length : Nat) : Int))] 45, blk b1 (imgCells m) 26] [arrI encR 2 a1 (codesTo m m.comps.length), arrI encR 2 a2 (datasTo m m.comps.length), arrI encR 2 a3 (heapsTo m m.comps.length), arrI encI 1 a4 (shsTo m m.shares.length), arrI encComp 2 m.ca m.comps, arrI encLink 3 m.la m.links, arrI encShare 2 m.sa m.shares, codesI m.comps]) ?_ ?_
  ·exact ⟨_, 0, a47, c48, rfl, by omega, rfl, rfl, rfl, rfl, rfl, rfl, hs56⟩
  ·intro m60 f57 w58; rintro ⟨j, a6, c6, rfl, hj, e61, e62, e63, e64, e65, e66, hs59⟩
   rewrite [upd_id e61]
   rewrite [upd_id e62]
   rewrite [upd_id e63]
   rewrite [upd_id e64]
   rewrite [upd_id e65]
   rewrite [upd_id e66]
   refine W_seq (W_seq (W_region ?_))
   refine L_cons rfl (O_move (v := .int .i64 ((j : Nat) : Int)) rfl rfl ?_)
   refine L_cons rfl (O_fieldAddr rfl fd45_3 rfl (o' := 3) rfl rfl ?_)
   refine L_cons rfl (O_load (v := .slice a4 m.shares.length c4) rfl ag43 (cell_of_blk (hs59.get 1 rfl) rfl) rfl ?_)
   refine L_cons rfl (O_len_slice (len := m.shares.length) rfl un43 rfl ?_)
   refine L_cons rfl (O_bin (k := .i64) (k' := .i64) (a := ((j : Nat) : Int)) (b := ((m.shares.length : Nat) : Int)) rfl rfl rfl b_lss ?_)
   refine L_nil (thenQ_n ?_)
   refine W_cond_d rfl (fun hc67 => ?_) (fun hc67 => ?_)
   ·refine W_skip (thenQ_n (W_seq (W_block ?_)))
    have hsb := shAt_b hok (i := j) (by omega)
    obtain ⟨b68, o69, ha70, hs71⟩ := hs59.elem 3 rfl j (by rw [shsTo_len]; omega)
    rw [shsTo_get] at hs71
    refine W_par' mixed (show St w (fun _ => False) _ [ownI 51 2 a6 c6 (m.comps.length + m.comps.length + m.comps.length + j) ((apartL m j).flatMap encR), blk b24 [.slice a1 m.comps.length c1, .slice a2 m.comps.length c2, .slice a3 m.comps.length c3, .slice a4 m.shares.length c4, .int .i64 (pgEnd m + ((m.shares.length : Nat) : Int))] 45, blk b1 (imgCells m) 26] [rdI b68 (o69 + j * 1) (encI (shAt m j)), arrI encR 2 a1 (codesTo m m.comps.length), arrI encR 2 a2 (datasTo m m.comps.length), arrI encR 2 a3 (heapsTo m m.comps.length), arrI encI 1 a4 (shsTo m m.shares.length), arrI encComp 2 m.ca m.comps, arrI encLink 3 m.la m.links, arrI encShare 2 m.sa m.shares, codesI m.comps] from hs71) (fun i_ => match i_ with | 13 => some ([83], fun vs_ => match vs_ with | [x83] => blk (vblk x83) [.int .i64 (shAt m j), .int .i64 ((shAt m j) + 256)] 51 | _ => emp) | 14 => some ([84], fun vs_ => match vs_ with | [x84] => ownI 51 2 (vaddr x84) (vcap x84) (m.comps.length + m.comps.length + m.comps.length + (j + 1)) ((apartL m (j + 1)).flatMap encR) | _ => emp) | 15 => some ([6], fun vs_ => match vs_ with | [x6] => ownI 51 2 (vaddr x6) (vcap x6) (m.comps.length + m.comps.length + m.comps.length + (j + 1)) ((apartL m (j + 1)).flatMap encR) | _ => emp) | _ => none) (fun i_ => match i_ with | 14 => [16] | 15 => [14] | _ => []) (fun i_ => match i_ with | 2 => [17] | 7 => [17] | 14 => [13] | _ => []) (fun i_ => match i_ with | 2 => [1] | 4 => [2, 3] | 5 => [4] | 7 => [6] | 9 => [7, 8] | 10 => [9] | 11 => [10] | 12 => [5, 11] | 13 => [12] | 14 => [0, 13] | 15 => [14] | _ => []) [13, 15, 17, 18, 0, 1, 2, 3, 4, 5, 6, 7, 8, 9, 10, 11, 12, 19, 20, 21, 22, 23, 24, 25, 26, 27, 28, 29, 30, 31, 32, 33, 34] [13, 15] (fun i_ v_ => match i_ with | 0 => v_ = .slice a6 (m.comps.length + m.comps.length + m.comps.length + j) c6 | 1 => v_ = .pointer (some ⟨b24, 3, none⟩) | 2 => v_ = .slice a4 m.shares.length c4 | 3 => v_ = .int .i64 ((j : Nat) : Int) | 4 => v_ = .pointer (some ⟨b68, o69 + j * 1, none⟩) | 5 => v_ = .int .i64 (shAt m j) | 6 => v_ = .pointer (some ⟨b24, 3, none⟩) | 7 => v_ = .slice a4 m.shares.length c4 | 8 => v_ = .int .i64 ((j : Nat) : Int) | 9 => v_ = .pointer (some ⟨b68, o69 + j * 1, none⟩) | 10 => v_ = .int .i64 (shAt m j) | 11 => v_ = .int .i64 ((shAt m j) + 256) | 12 => v_ = .agg #[.int .i64 (shAt m j), .int .i64 ((shAt m j) + 256)] | 13 => ∃ b72 : Nat, v_ = .slice (some ⟨b72, 0, none⟩) 1 1 | 14 => ∃ a76 : Option Addr, ∃ c77 : Nat, v_ = .slice a76 (m.comps.length + m.comps.length + m.comps.length + (j + 1)) c77 | 15 => ∃ a80 : Option Addr, ∃ c81 : Nat, v_ = .slice a80 (m.comps.length + m.comps.length + m.comps.length + (j + 1)) c81 | _ => True) (by kernel_rfl) (by kernel_rfl) ⟨?_, ?_, ?_, ?_, ?_, ?_, ?_, ?_, ?_, ?_, ?_, ?_, ?_, ?_, ?_, ?_, trivial⟩ ?_
    ·intro f0_ w0_ X0_ hfr hus hrd hst
     have hb6 : f0_ 6 = .slice a6 (m.comps.length + m.comps.length + m.comps.length + j) c6 := (hfr 6 rfl)
     refine og_none rfl (O_move (v := .slice a6 (m.comps.length + m.comps.length + m.comps.length + j) c6) hb6 rfl ?_)
     exact ⟨.slice a6 (m.comps.length + m.comps.length + m.comps.length + j) c6, rfl, rfl, hst⟩
    ·intro f1_ w1_ X1_ hfr hus hrd hst
     have hb4 : f1_ 4 = .pointer (some ⟨b24, 0, none⟩) := (hfr 4 rfl)
     refine og_none rfl (O_fieldAddr hb4 fd45_3 rfl (o' := 3) rfl rfl ?_)
     exact ⟨.pointer (some ⟨b24, 3, none⟩), rfl, rfl, hst⟩
    ·intro f2_ w2_ X2_ hfr hus hrd hst
     obtain ⟨hu1, -⟩ := hus
     have hu1 : f2_ 71 = .pointer (some ⟨b24, 3, none⟩) := hu1
     obtain ⟨hr17, -⟩ := hrd
     have hr17 : Item.φ (blk b24 [.slice a1 m.comps.length c1, .slice a2 m.comps.length c2, .slice a3 m.comps.length c3, .slice a4 m.shares.length c4, .int .i64 (pgEnd m + ((m.shares.length : Nat) : Int))] 45) w2_ := hr17
     refine og_none rfl (O_load (v := .slice a4 m.shares.length c4) hu1 ag43 (cell_of_blk (hr17) rfl) rfl ?_)
     exact ⟨.slice a4 m.shares.length c4, rfl, rfl, hst⟩
    ·intro f3_ w3_ X3_ hfr hus hrd hst
     have hb7 : f3_ 7 = .int .i64 ((j : Nat) : Int) := (hfr 7 rfl)
     refine og_none rfl (O_move (v := .int .i64 ((j : Nat) : Int)) hb7 rfl ?_)
     exact ⟨.int .i64 ((j : Nat) : Int), rfl, rfl, hst⟩
    ·intro f4_ w4_ X4_ hfr hus hrd hst
     obtain ⟨hu2, hu3, -⟩ := hus
     have hu2 : f4_ 72 = .slice a4 m.shares.length c4 := hu2
     have hu3 : f4_ 73 = .int .i64 ((j : Nat) : Int) := hu3
     refine og_none rfl (O_indexAddr_at hu2 ha70 hu3 un43 sz3 (by omega) (by omega) (o' := o69 + j * 1) (by omega) rfl ?_)
     exact ⟨.pointer (some ⟨b68, o69 + j * 1, none⟩), rfl, rfl, hst⟩
    ·intro f5_ w5_ X5_ hfr hus hrd hst
     obtain ⟨hu4, -⟩ := hus
     have hu4 : f5_ 74 = .pointer (some ⟨b68, o69 + j * 1, none⟩) := hu4
     refine og_none rfl (O_load (v := .int .i64 (shAt m j)) hu4 ag3 ((hst.getR 0 rfl).2 0 _ rfl) rfl ?_)
     exact ⟨.int .i64 (shAt m j), rfl, rfl, hst⟩
    ·intro f6_ w6_ X6_ hfr hus hrd hst
     have hb4 : f6_ 4 = .pointer (some ⟨b24, 0, none⟩) := (hfr 4 rfl)
     refine og_none rfl (O_fieldAddr hb4 fd45_3 rfl (o' := 3) rfl rfl ?_)
     exact ⟨.pointer (some ⟨b24, 3, none⟩), rfl, rfl, hst⟩
    ·intro f7_ w7_ X7_ hfr hus hrd hst
     obtain ⟨hu6, -⟩ := hus
     have hu6 : f7_ 76 = .pointer (some ⟨b24, 3, none⟩) := hu6
     obtain ⟨hr17, -⟩ := hrd
     have hr17 : Item.φ (blk b24 [.slice a1 m.comps.length c1, .slice a2 m.comps.length c2, .slice a3 m.comps.length c3, .slice a4 m.shares.length c4, .int .i64 (pgEnd m + ((m.shares.length : Nat) : Int))] 45) w7_ := hr17
     refine og_none rfl (O_load (v := .slice a4 m.shares.length c4) hu6 ag43 (cell_of_blk (hr17) rfl) rfl ?_)
     exact ⟨.slice a4 m.shares.length c4, rfl, rfl, hst⟩
    ·intro f8_ w8_ X8_ hfr hus hrd hst
     have hb7 : f8_ 7 = .int .i64 ((j : Nat) : Int) := (hfr 7 rfl)
     refine og_none rfl (O_move (v := .int .i64 ((j : Nat) : Int)) hb7 rfl ?_)
     exact ⟨.int .i64 ((j : Nat) : Int), rfl, rfl, hst⟩
    ·intro f9_ w9_ X9_ hfr hus hrd hst
     obtain ⟨hu7, hu8, -⟩ := hus
     have hu7 : f9_ 77 = .slice a4 m.shares.length c4 := hu7
     have hu8 : f9_ 78 = .int .i64 ((j : Nat) : Int) := hu8
     refine og_none rfl (O_indexAddr_at hu7 ha70 hu8 un43 sz3 (by omega) (by omega) (o' := o69 + j * 1) (by omega) rfl ?_)
     exact ⟨.pointer (some ⟨b68, o69 + j * 1, none⟩), rfl, rfl, hst⟩
    ·intro f10_ w10_ X10_ hfr hus hrd hst
     obtain ⟨hu9, -⟩ := hus
     have hu9 : f10_ 79 = .pointer (some ⟨b68, o69 + j * 1, none⟩) := hu9
     refine og_none rfl (O_load (v := .int .i64 (shAt m j)) hu9 ag3 ((hst.getR 0 rfl).2 0 _ rfl) rfl ?_)
     exact ⟨.int .i64 (shAt m j), rfl, rfl, hst⟩
    ·intro f11_ w11_ X11_ hfr hus hrd hst
     obtain ⟨hu10, -⟩ := hus
     have hu10 : f11_ 80 = .int .i64 (shAt m j) := hu10
     refine og_none rfl (O_bin (v := .int .i64 ((shAt m j) + 256)) hu10 rfl rfl (b_add (wrap_i64e (by omega) (by omega))) ?_)
     exact ⟨.int .i64 ((shAt m j) + 256), rfl, rfl, hst⟩
    ·intro f12_ w12_ X12_ hfr hus hrd hst
     obtain ⟨hu5, hu11, -⟩ := hus
     have hu5 : f12_ 75 = .int .i64 (shAt m j) := hu5
     have hu11 : f12_ 81 = .int .i64 ((shAt m j) + 256) := hu11
     refine og_none rfl (O_build_arr (ps := [(0, [.int .i64 (shAt m j)]), (1, [.int .i64 ((shAt m j) + 256)])]) (zero := [.int .i64 0, .int .i64 0]) (cells := [.int .i64 (shAt m j), .int .i64 ((shAt m j) + 256)]) un51 sz3 zv51 rfl (by simp only [List.map_cons, List.map_nil, List.nil_append, List.cons_append, List.append_nil, ev, Value.cells, hu5, hu11]) rfl rfl ?_)
     exact ⟨.agg #[.int .i64 (shAt m j), .int .i64 ((shAt m j) + 256)], rfl, rfl, hst⟩
    ·intro f13_ w13_ X13_ hfr hus hrd hst
     obtain ⟨hu12, -⟩ := hus
     have hu12 : f13_ 82 = .agg #[.int .i64 (shAt m j), .int .i64 ((shAt m j) + 256)] := hu12
     refine og_none rfl (O_buildSlice (zs := [.int .i64 0, .int .i64 0]) (ps := [(0, [.int .i64 (shAt m j), .int .i64 ((shAt m j) + 256)])]) (cs := [.int .i64 (shAt m j), .int .i64 ((shAt m j) + 256)]) hst un42 sz51 zv51 rfl rfl (by simp only [List.map_cons, List.map_nil, List.nil_append, List.cons_append, List.append_nil, ev, Value.cells, hu12]) rfl rfl ?_)
     intro b72 w73 hb75 hs74
     refine ⟨.slice (some ⟨b72, 0, none⟩) 1 1, rfl, ⟨_, rfl⟩, ?_⟩
     show St _ _ _ ((blk (vblk ((upd f13_ 83 (.slice (some ⟨b72, 0, none⟩) 1 1)) 83)) [.int .i64 (shAt m j), .int .i64 ((shAt m j) + 256)] 51) :: X13_) _
     exact hs74
    ·intro f14_ w14_ X14_ hfr hus hrd hst
     obtain ⟨hu0, hu13, -⟩ := hus
     have hu0 : f14_ 70 = .slice a6 (m.comps.length + m.comps.length + m.comps.length + j) c6 := hu0
     obtain ⟨b72, hu13⟩ := (show ∃ b72 : Nat, f14_ 83 = .slice (some ⟨b72, 0, none⟩) 1 1 from hu13)
     have hst : St w (fun _ => False) w14_ ((ownI 51 2 a6 c6 (m.comps.length + m.comps.length + m.comps.length + j) ((apartL m j).flatMap encR)) :: X14_) [rdI b68 (o69 + j * 1) (encI (shAt m j)), arrI encR 2 a1 (codesTo m m.comps.length), arrI encR 2 a2 (datasTo m m.comps.length), arrI encR 2 a3 (heapsTo m m.comps.length), arrI encI 1 a4 (shsTo m m.shares.length), arrI encComp 2 m.ca m.comps, arrI encLink 3 m.la m.links, arrI encShare 2 m.sa m.shares, codesI m.comps] := hst
     obtain ⟨hr13, -⟩ := hrd
     have hr13 : Item.φ (blk (vblk (f14_ 83)) [.int .i64 (shAt m j), .int .i64 ((shAt m j) + 256)] 51) w14_ := hr13
     rw [hu13] at hr13; simp only [vblk, vaddr, vcap, vcell] at hr13
     refine og_none rfl (O_appendE (n2 := m.comps.length + m.comps.length + m.comps.length + (j + 1)) (xs2 := (apartL m (j + 1)).flatMap encR) hst 0 rfl hu0 hu13 un42 ni42 inf51 rfl (Src.rd (news := [.int .i64 (shAt m j), .int .i64 ((shAt m j) + 256)]) (Rd.of_blk (hr13) 0 2) rfl rfl) (rfl) (apart_snoc m j) (by omega) (by omega) rfl ?_)
     intro a76 c77 w78 hs79
     refine ⟨.slice a76 (m.comps.length + m.comps.length + m.comps.length + (j + 1)) c77, rfl, ⟨_, _, rfl⟩, ?_⟩
     show St _ _ _ ((ownI 51 2 (vaddr ((upd f14_ 84 (.slice a76 (m.comps.length + m.comps.length + m.comps.length + (j + 1)) c77)) 84)) (vcap ((upd f14_ 84 (.slice a76 (m.comps.length + m.comps.length + m.comps.length + (j + 1)) c77)) 84)) (m.comps.length + m.comps.length + m.comps.length + (j + 1)) ((apartL m (j + 1)).flatMap encR)) :: X14_) _
     exact hs79
    ·intro f15_ w15_ X15_ hfr hus hrd hst
     obtain ⟨hu14, -⟩ := hus
     obtain ⟨a76, c77, hu14⟩ := (show ∃ a76 : Option Addr, ∃ c77 : Nat, f15_ 84 = .slice a76 (m.comps.length + m.comps.length + m.comps.length + (j + 1)) c77 from hu14)
     have hst : St w (fun _ => False) w15_ ((ownI 51 2 (vaddr (f15_ 84)) (vcap (f15_ 84)) (m.comps.length + m.comps.length + m.comps.length + (j + 1)) ((apartL m (j + 1)).flatMap encR)) :: X15_) [rdI b68 (o69 + j * 1) (encI (shAt m j)), arrI encR 2 a1 (codesTo m m.comps.length), arrI encR 2 a2 (datasTo m m.comps.length), arrI encR 2 a3 (heapsTo m m.comps.length), arrI encI 1 a4 (shsTo m m.shares.length), arrI encComp 2 m.ca m.comps, arrI encLink 3 m.la m.links, arrI encShare 2 m.sa m.shares, codesI m.comps] := hst
     rw [hu14] at hst; simp only [vblk, vaddr, vcap, vcell] at hst
     refine og_none rfl (O_assign (v := .slice a76 (m.comps.length + m.comps.length + m.comps.length + (j + 1)) c77) hu14 rfl ?_)
     refine ⟨.slice a76 (m.comps.length + m.comps.length + m.comps.length + (j + 1)) c77, rfl, ⟨_, _, rfl⟩, ?_⟩
     show St _ _ _ ((ownI 51 2 (vaddr ((upd f15_ 6 (.slice a76 (m.comps.length + m.comps.length + m.comps.length + (j + 1)) c77)) 6)) (vcap ((upd f15_ 6 (.slice a76 (m.comps.length + m.comps.length + m.comps.length + (j + 1)) c77)) 6)) (m.comps.length + m.comps.length + m.comps.length + (j + 1)) ((apartL m (j + 1)).flatMap encR)) :: X15_) _
     exact hst
    intro f82 w83 hfr hus hs84
    obtain ⟨hu13, hu15, -⟩ := hus
    obtain ⟨b72, hu13⟩ := (show ∃ b72 : Nat, f82 83 = .slice (some ⟨b72, 0, none⟩) 1 1 from hu13)
    obtain ⟨a80, c81, hu15⟩ := (show ∃ a80 : Option Addr, ∃ c81 : Nat, f82 6 = .slice a80 (m.comps.length + m.comps.length + m.comps.length + (j + 1)) c81 from hu15)
    have hs84 : St w (fun _ => False) w83 [blk (vblk (f82 83)) [.int .i64 (shAt m j), .int .i64 ((shAt m j) + 256)] 51, ownI 51 2 (vaddr (f82 6)) (vcap (f82 6)) (m.comps.length + m.comps.length + m.comps.length + (j + 1)) ((apartL m (j + 1)).flatMap encR), blk b24 [.slice a1 m.comps.length c1, .slice a2 m.comps.length c2, .slice a3 m.comps.length c3, .slice a4 m.shares.length c4, .int .i64 (pgEnd m + ((m.shares.length : Nat) : Int))] 45, blk b1 (imgCells m) 26] [rdI b68 (o69 + j * 1) (encI (shAt m j)), arrI encR 2 a1 (codesTo m m.comps.length), arrI encR 2 a2 (datasTo m m.comps.length), arrI encR 2 a3 (heapsTo m m.comps.length), arrI encI 1 a4 (shsTo m m.shares.length), arrI encComp 2 m.ca m.comps, arrI encLink 3 m.la m.links, arrI encShare 2 m.sa m.shares, codesI m.comps] := hs84
    simp only [hu13, hu15, vblk, vaddr, vcap, vcell] at hs84
    have hs84 : St w (fun _ => False) w83 [blk b72 [.int .i64 (shAt m j), .int .i64 ((shAt m j) + 256)] 51, ownI 51 2 a80 c81 (m.comps.length + m.comps.length + m.comps.length + (j + 1)) ((apartL m (j + 1)).flatMap encR), blk b24 [.slice a1 m.comps.length c1, .slice a2 m.comps.length c2, .slice a3 m.comps.length c3, .slice a4 m.shares.length c4, .int .i64 (pgEnd m + ((m.shares.length : Nat) : Int))] 45, blk b1 (imgCells m) 26] [rdI b68 (o69 + j * 1) (encI (shAt m j)), arrI encR 2 a1 (codesTo m m.comps.length), arrI encR 2 a2 (datasTo m m.comps.length), arrI encR 2 a3 (heapsTo m m.comps.length), arrI encI 1 a4 (shsTo m m.shares.length), arrI encComp 2 m.ca m.comps, arrI encLink 3 m.la m.links, arrI encShare 2 m.sa m.shares, codesI m.comps] := hs84
    have e85 : f82 1 = .pointer (some ⟨b1, 0, none⟩) := (hfr 1 rfl)
    rewrite [upd_id e85]
    have e86 : f82 3 = .bool true := (hfr 3 rfl)
    rewrite [upd_id e86]
    have e87 : f82 4 = .pointer (some ⟨b24, 0, none⟩) := (hfr 4 rfl)
    rewrite [upd_id e87]
    have e88 : f82 5 = .int .i64 ((m.comps.length : Nat) : Int) := (hfr 5 rfl)
    rewrite [upd_id e88]
    rewrite [upd_id hu15]
    have e89 : f82 7 = .int .i64 ((j : Nat) : Int) := (hfr 7 rfl)
    rewrite [upd_id e89]
    refine blockQ_n (thenQ_n (W_region ?_))
    refine L_cons rfl (O_move (v := .int .i64 ((j : Nat) : Int)) rfl rfl ?_)
    refine L_cons rfl (O_bin (v := .int .i64 ((j + 1 : Nat) : Int)) rfl rfl rfl (b_add (wrap_i64e (by omega) (by omega))) ?_)
    refine L_cons rfl (O_assign (v := .int .i64 ((j + 1 : Nat) : Int)) rfl rfl ?_)
    refine L_nil (thenQ_n ?_)
    refine ⟨_, ?_, j + 1, a80, c81, rfl, by omega, rfl, rfl, rfl, rfl, rfl, rfl, hs84.popR.popM⟩
    omega
   ·refine W_exit (thenQ_e (thenQ_e (blockQ_x (thenQ_n (W_seq (W_seq ?_))))))
    obtain rfl : j = m.shares.length := by omega
    have hlen := apart_len m m.shares.length
    have hs90 := hs59.ownArr 0 (enc := encR) (l := apartL m m.shares.length) rfl (fun _ => rfl) (by decide)
    refine W_region ?_
    refine L_cons rfl (O_assign (v := .int .i64 0) rfl rfl ?_)
    refine L_nil (thenQ_n (W_block ?_))
    refine W_loopm (fun m_ f_ w_ => ∃ i : Nat, m_ = m.comps.length + m.comps.length + m.comps.length + m.shares.length - i ∧ (i ≤ m.comps.length + m.comps.length + m.comps.length + m.shares.length) ∧ f_ 1 = .pointer (some ⟨b1, 0, none⟩) ∧ f_ 3 = .bool true ∧ f_ 4 = .pointer (some ⟨b24, 0, none⟩) ∧ f_ 5 = .int .i64 ((m.comps.length : Nat) : Int) ∧ f_ 6 = .slice a6 (m.comps.length + m.comps.length + m.comps.length + m.shares.length) c6 ∧ f_ 8 = .int .i64 ((i : Nat) : Int) ∧ St w (fun _ => False) w_ [blk b24 [.slice a1 m.comps.length c1, .slice a2 m.comps.length c2, .slice a3 m.comps.length c3, .slice a4 m.shares.length c4, .int .i64 (pgEnd m + ((m.shares.length : Nat) : Int))] 45, blk b1 (imgCells m) 26] [arrI encR 2 a6 (apartL m m.shares.length), arrI encR 2 a1 (codesTo m m.comps.length), arrI encR 2 a2 (datasTo m m.comps.length), arrI encR 2 a3 (heapsTo m m.comps.length), arrI encI 1 a4 (shsTo m m.shares.length), arrI encComp 2 m.ca m.comps, arrI encLink 3 m.la m.links, arrI encShare 2 m.sa m.shares, codesI m.comps]) ?_ ?_
    ·exact ⟨_, 0, rfl, by omega, rfl, rfl, rfl, rfl, rfl, rfl, hs90⟩
    ·intro m94 f91 w92; rintro ⟨i, rfl, hi, e95, e96, e97, e98, e99, e100, hs93⟩
     rewrite [upd_id e95]
     rewrite [upd_id e96]
     rewrite [upd_id e97]
     rewrite [upd_id e98]
     rewrite [upd_id e99]
     rewrite [upd_id e100]
     refine W_seq (W_seq (W_region ?_))
     refine L_cons rfl (O_move (v := .int .i64 ((i : Nat) : Int)) rfl rfl ?_)
     refine L_cons rfl (O_move (v := .slice a6 (m.comps.length + m.comps.length + m.comps.length + m.shares.length) c6) rfl rfl ?_)
     refine L_cons rfl (O_len_slice (len := (m.comps.length + m.comps.length + m.comps.length + m.shares.length)) rfl un42 rfl ?_)
     refine L_cons rfl (O_bin (k := .i64) (k' := .i64) (a := ((i : Nat) : Int)) (b := ((m.comps.length + m.comps.length + m.comps.length + m.shares.length : Nat) : Int)) rfl rfl rfl b_lss ?_)
     refine L_nil (thenQ_n ?_)
     refine W_cond_d rfl (fun hc101 => ?_) (fun hc101 => ?_)
     ·refine W_skip (thenQ_n (W_seq (W_block (W_seq (W_seq ?_)))))
      have hap := apart_1 hok (List.getElem_mem (by omega : i < (apartL m m.shares.length).length))
      have hab := hap.1
      obtain ⟨b102, o103, ha104, hs105⟩ := hs93.elem 0 rfl i (by omega)
      refine W_par' mixed (show St w (fun _ => False) _ [blk b24 [.slice a1 m.comps.length c1, .slice a2 m.comps.length c2, .slice a3 m.comps.length c3, .slice a4 m.shares.length c4, .int .i64 (pgEnd m + ((m.shares.length : Nat) : Int))] 45, blk b1 (imgCells m) 26] [rdI b102 (o103 + i * 2) (encR ((apartL m m.shares.length)[i]'(by omega))), arrI encR 2 a6 (apartL m m.shares.length), arrI encR 2 a1 (codesTo m m.comps.length), arrI encR 2 a2 (datasTo m m.comps.length), arrI encR 2 a3 (heapsTo m m.comps.length), arrI encI 1 a4 (shsTo m m.shares.length), arrI encComp 2 m.ca m.comps, arrI encLink 3 m.la m.links, arrI encShare 2 m.sa m.shares, codesI m.comps] from hs105) (fun i_ => match i_ with | _ => none) (fun i_ => match i_ with | _ => []) (fun i_ => match i_ with | 35 => [39] | _ => []) (fun i_ => match i_ with | 2 => [0, 1] | 3 => [2] | 4 => [3] | 5 => [4] | 6 => [5] | 7 => [6] | 8 => [6] | 9 => [6, 7, 8] | 10 => [6, 9] | 11 => [6, 10] | 12 => [6, 11] | 13 => [6, 12] | 14 => [6, 13] | 15 => [14] | 16 => [15] | 17 => [15] | 18 => [15, 16, 17] | 19 => [15, 18] | 20 => [15, 19] | 21 => [15] | 22 => [15] | 23 => [15, 21, 22] | 24 => [15, 23] | 25 => [15, 24] | 26 => [15, 20, 25] | 27 => [15, 26] | 28 => [27] | 29 => [28] | 30 => [28] | 31 => [28, 29, 30] | 32 => [28, 31] | 33 => [28, 32] | 34 => [28] | 35 => [28, 34] | 36 => [28, 35] | 37 => [28, 33, 36] | 38 => [28, 37] | _ => []) [39, 40, 0, 1, 2, 3, 4, 5, 6, 7, 8, 9, 10, 11, 12, 13, 14, 15, 16, 17, 18, 19, 20, 21, 22, 23, 24, 25, 26, 27, 28, 29, 30, 31, 32, 33, 34, 35, 36, 37, 38, 41, 42, 43, 44, 45, 46, 47, 48, 49, 50, 51, 52, 53, 54, 55, 56, 57, 58, 59, 60, 61, 62, 63, 64, 65, 66, 67, 68, 69, 70, 71, 72, 73, 74, 75, 76, 77, 78, 79] [38] (fun i_ v_ => match i_ with | 0 => v_ = .slice a6 (m.comps.length + m.comps.length + m.comps.length + m.shares.length) c6 | 1 => v_ = .int .i64 ((i : Nat) : Int) | 2 => v_ = .pointer (some ⟨b102, o103 + i * 2, none⟩) | 3 => v_ = .pointer (some ⟨b102, o103 + i * 2, none⟩) | 4 => v_ = .int .i64 (((apartL m m.shares.length)[i]'(by omega)).1) | 5 => v_ = .bool (decide ((((apartL m m.shares.length)[i]'(by omega)).1) < 256)) | 6 => v_ = .bool (decide ((((apartL m m.shares.length)[i]'(by omega)).1) < 256)) | 7 => v_ = if (decide ((((apartL m m.shares.length)[i]'(by omega)).1) < 256)) = false then .slice a6 (m.comps.length + m.comps.length + m.comps.length + m.shares.length) c6 else undef | 8 => v_ = if (decide ((((apartL m m.shares.length)[i]'(by omega)).1) < 256)) = false then .int .i64 ((i : Nat) : Int) else undef | 9 => v_ = if (decide ((((apartL m m.shares.length)[i]'(by omega)).1) < 256)) = false then .pointer (some ⟨b102, o103 + i * 2, none⟩) else undef | 10 => v_ = if (decide ((((apartL m m.shares.length)[i]'(by omega)).1) < 256)) = false then .pointer (some ⟨b102, o103 + i * 2, none⟩) else undef | 11 => v_ = if (decide ((((apartL m m.shares.length)[i]'(by omega)).1) < 256)) = false then .int .i64 (((apartL m m.shares.length)[i]'(by omega)).1) else undef | 12 => v_ = if (decide ((((apartL m m.shares.length)[i]'(by omega)).1) < 256)) = false then .int .i64 ((((apartL m m.shares.length)[i]'(by omega)).1) % 256) else undef | 13 => v_ = if (decide ((((apartL m m.shares.length)[i]'(by omega)).1) < 256)) = false then .bool (decide (((((apartL m m.shares.length)[i]'(by omega)).1) % 256) ≠ 0)) else undef | 14 => v_ = .bool ((decide ((((apartL m m.shares.length)[i]'(by omega)).1) < 256)) || (decide (((((apartL m m.shares.length)[i]'(by omega)).1) % 256) ≠ 0))) | 15 => v_ = .bool ((decide ((((apartL m m.shares.length)[i]'(by omega)).1) < 256)) || (decide (((((apartL m m.shares.length)[i]'(by omega)).1) % 256) ≠ 0))) | 16 => v_ = if ((decide ((((apartL m m.shares.length)[i]'(by omega)).1) < 256)) || (decide (((((apartL m m.shares.length)[i]'(by omega)).1) % 256) ≠ 0))) = false then .slice a6 (m.comps.length + m.comps.length + m.comps.length + m.shares.length) c6 else undef | 17 => v_ = if ((decide ((((apartL m m.shares.length)[i]'(by omega)).1) < 256)) || (decide (((((apartL m m.shares.length)[i]'(by omega)).1) % 256) ≠ 0))) = false then .int .i64 ((i : Nat) : Int) else undef | 18 => v_ = if ((decide ((((apartL m m.shares.length)[i]'(by omega)).1) < 256)) || (decide (((((apartL m m.shares.length)[i]'(by omega)).1) % 256) ≠ 0))) = false then .pointer (some ⟨b102, o103 + i * 2, none⟩) else undef | 19 => v_ = if ((decide ((((apartL m m.shares.length)[i]'(by omega)).1) < 256)) || (decide (((((apartL m m.shares.length)[i]'(by omega)).1) % 256) ≠ 0))) = false then .pointer (some ⟨b102, o103 + i * 2 + 1, none⟩) else undef | 20 => v_ = if ((decide ((((apartL m m.shares.length)[i]'(by omega)).1) < 256)) || (decide (((((apartL m m.shares.length)[i]'(by omega)).1) % 256) ≠ 0))) = false then .int .i64 (((apartL m m.shares.length)[i]'(by omega)).2) else undef | 21 => v_ = if ((decide ((((apartL m m.shares.length)[i]'(by omega)).1) < 256)) || (decide (((((apartL m m.shares.length)[i]'(by omega)).1) % 256) ≠ 0))) = false then .slice a6 (m.comps.length + m.comps.length + m.comps.length + m.shares.length) c6 else undef | 22 => v_ = if ((decide ((((apartL m m.shares.length)[i]'(by omega)).1) < 256)) || (decide (((((apartL m m.shares.length)[i]'(by omega)).1) % 256) ≠ 0))) = false then .int .i64 ((i : Nat) : Int) else undef | 23 => v_ = if ((decide ((((apartL m m.shares.length)[i]'(by omega)).1) < 256)) || (decide (((((apartL m m.shares.length)[i]'(by omega)).1) % 256) ≠ 0))) = false then .pointer (some ⟨b102, o103 + i * 2, none⟩) else undef | 24 => v_ = if ((decide ((((apartL m m.shares.length)[i]'(by omega)).1) < 256)) || (decide (((((apartL m m.shares.length)[i]'(by omega)).1) % 256) ≠ 0))) = false then .pointer (some ⟨b102, o103 + i * 2, none⟩) else undef | 25 => v_ = if ((decide ((((apartL m m.shares.length)[i]'(by omega)).1) < 256)) || (decide (((((apartL m m.shares.length)[i]'(by omega)).1) % 256) ≠ 0))) = false then .int .i64 (((apartL m m.shares.length)[i]'(by omega)).1) else undef | 26 => v_ = if ((decide ((((apartL m m.shares.length)[i]'(by omega)).1) < 256)) || (decide (((((apartL m m.shares.length)[i]'(by omega)).1) % 256) ≠ 0))) = false then .bool (decide ((((apartL m m.shares.length)[i]'(by omega)).2) ≤ (((apartL m m.shares.length)[i]'(by omega)).1))) else undef | 27 => v_ = .bool (((decide ((((apartL m m.shares.length)[i]'(by omega)).1) < 256)) || (decide (((((apartL m m.shares.length)[i]'(by omega)).1) % 256) ≠ 0))) || (decide ((((apartL m m.shares.length)[i]'(by omega)).2) ≤ (((apartL m m.shares.length)[i]'(by omega)).1)))) | 28 => v_ = .bool (((decide ((((apartL m m.shares.length)[i]'(by omega)).1) < 256)) || (decide (((((apartL m m.shares.length)[i]'(by omega)).1) % 256) ≠ 0))) || (decide ((((apartL m m.shares.length)[i]'(by omega)).2) ≤ (((apartL m m.shares.length)[i]'(by omega)).1)))) | 29 => v_ = if (((decide ((((apartL m m.shares.length)[i]'(by omega)).1) < 256)) || (decide (((((apartL m m.shares.length)[i]'(by omega)).1) % 256) ≠ 0))) || (decide ((((apartL m m.shares.length)[i]'(by omega)).2) ≤ (((apartL m m.shares.length)[i]'(by omega)).1)))) = false then .slice a6 (m.comps.length + m.comps.length + m.comps.length + m.shares.length) c6 else undef | 30 => v_ = if (((decide ((((apartL m m.shares.length)[i]'(by omega)).1) < 256)) || (decide (((((apartL m m.shares.length)[i]'(by omega)).1) % 256) ≠ 0))) || (decide ((((apartL m m.shares.length)[i]'(by omega)).2) ≤ (((apartL m m.shares.length)[i]'(by omega)).1)))) = false then .int .i64 ((i : Nat) : Int) else undef | 31 => v_ = if (((decide ((((apartL m m.shares.length)[i]'(by omega)).1) < 256)) || (decide (((((apartL m m.shares.length)[i]'(by omega)).1) % 256) ≠ 0))) || (decide ((((apartL m m.shares.length)[i]'(by omega)).2) ≤ (((apartL m m.shares.length)[i]'(by omega)).1)))) = false then .pointer (some ⟨b102, o103 + i * 2, none⟩) else undef | 32 => v_ = if (((decide ((((apartL m m.shares.length)[i]'(by omega)).1) < 256)) || (decide (((((apartL m m.shares.length)[i]'(by omega)).1) % 256) ≠ 0))) || (decide ((((apartL m m.shares.length)[i]'(by omega)).2) ≤ (((apartL m m.shares.length)[i]'(by omega)).1)))) = false then .pointer (some ⟨b102, o103 + i * 2 + 1, none⟩) else undef | 33 => v_ = if (((decide ((((apartL m m.shares.length)[i]'(by omega)).1) < 256)) || (decide (((((apartL m m.shares.length)[i]'(by omega)).1) % 256) ≠ 0))) || (decide ((((apartL m m.shares.length)[i]'(by omega)).2) ≤ (((apartL m m.shares.length)[i]'(by omega)).1)))) = false then .int .i64 (((apartL m m.shares.length)[i]'(by omega)).2) else undef | 34 => v_ = if (((decide ((((apartL m m.shares.length)[i]'(by omega)).1) < 256)) || (decide (((((apartL m m.shares.length)[i]'(by omega)).1) % 256) ≠ 0))) || (decide ((((apartL m m.shares.length)[i]'(by omega)).2) ≤ (((apartL m m.shares.length)[i]'(by omega)).1)))) = false then .pointer (some ⟨b24, 4, none⟩) else undef | 35 => v_ = if (((decide ((((apartL m m.shares.length)[i]'(by omega)).1) < 256)) || (decide (((((apartL m m.shares.length)[i]'(by omega)).1) % 256) ≠ 0))) || (decide ((((apartL m m.shares.length)[i]'(by omega)).2) ≤ (((apartL m m.shares.length)[i]'(by omega)).1)))) = false then .int .i64 (pgEnd m + ((m.shares.length : Nat) : Int)) else undef | 36 => v_ = if (((decide ((((apartL m m.shares.length)[i]'(by omega)).1) < 256)) || (decide (((((apartL m m.shares.length)[i]'(by omega)).1) % 256) ≠ 0))) || (decide ((((apartL m m.shares.length)[i]'(by omega)).2) ≤ (((apartL m m.shares.length)[i]'(by omega)).1)))) = false then .int .i64 (256 * (pgEnd m + ((m.shares.length : Nat) : Int))) else undef | 37 => v_ = if (((decide ((((apartL m m.shares.length)[i]'(by omega)).1) < 256)) || (decide (((((apartL m m.shares.length)[i]'(by omega)).1) % 256) ≠ 0))) || (decide ((((apartL m m.shares.length)[i]'(by omega)).2) ≤ (((apartL m m.shares.length)[i]'(by omega)).1)))) = false then .bool (decide ((256 * (pgEnd m + ((m.shares.length : Nat) : Int))) < (((apartL m m.shares.length)[i]'(by omega)).2))) else undef | 38 => v_ = .bool ((((decide ((((apartL m m.shares.length)[i]'(by omega)).1) < 256)) || (decide (((((apartL m m.shares.length)[i]'(by omega)).1) % 256) ≠ 0))) || (decide ((((apartL m m.shares.length)[i]'(by omega)).2) ≤ (((apartL m m.shares.length)[i]'(by omega)).1)))) || (decide ((256 * (pgEnd m + ((m.shares.length : Nat) : Int))) < (((apartL m m.shares.length)[i]'(by omega)).2)))) | _ => True) (by kernel_rfl) (by kernel_rfl) ⟨?_, ?_, ?_, ?_, ?_, ?_, ?_, ?_, ?_, ?_, ?_, ?_, ?_, ?_, ?_, ?_, ?_, ?_, ?_, ?_, ?_, ?_, ?_, ?_, ?_, ?_, ?_, ?_, ?_, ?_, ?_, ?_, ?_, ?_, ?_, ?_, ?_, ?_, ?_, trivial⟩ ?_
      ·intro f0_ w0_ X0_ hfr hus hrd hst
       have hb6 : f0_ 6 = .slice a6 (m.comps.length + m.comps.length + m.comps.length + m.shares.length) c6 := (hfr 6 rfl)
       refine og_none rfl (O_move (v := .slice a6 (m.comps.length + m.comps.length + m.comps.length + m.shares.length) c6) hb6 rfl ?_)
       exact ⟨.slice a6 (m.comps.length + m.comps.length + m.comps.length + m.shares.length) c6, rfl, rfl, hst⟩
      ·intro f1_ w1_ X1_ hfr hus hrd hst
       have hb8 : f1_ 8 = .int .i64 ((i : Nat) : Int) := (hfr 8 rfl)
       refine og_none rfl (O_move (v := .int .i64 ((i : Nat) : Int)) hb8 rfl ?_)
       exact ⟨.int .i64 ((i : Nat) : Int), rfl, rfl, hst⟩
      ·intro f2_ w2_ X2_ hfr hus hrd hst
       obtain ⟨hu0, hu1, -⟩ := hus
       have hu0 : f2_ 91 = .slice a6 (m.comps.length + m.comps.length + m.comps.length + m.shares.length) c6 := hu0
       have hu1 : f2_ 92 = .int .i64 ((i : Nat) : Int) := hu1
       refine og_none rfl (O_indexAddr_at hu0 ha104 hu1 un42 sz51 (by omega) (by omega) (o' := o103 + i * 2) (by omega) rfl ?_)
       exact ⟨.pointer (some ⟨b102, o103 + i * 2, none⟩), rfl, rfl, hst⟩
      ·intro f3_ w3_ X3_ hfr hus hrd hst
       obtain ⟨hu2, -⟩ := hus
       have hu2 : f3_ 93 = .pointer (some ⟨b102, o103 + i * 2, none⟩) := hu2
       refine og_none rfl (O_indexAddr_arr hu2 rfl un51 sz3 (by omega) (by omega) (o' := o103 + i * 2) (by omega) rfl ?_)
       exact ⟨.pointer (some ⟨b102, o103 + i * 2, none⟩), rfl, rfl, hst⟩
      ·intro f4_ w4_ X4_ hfr hus hrd hst
       obtain ⟨hu3, -⟩ := hus
       have hu3 : f4_ 94 = .pointer (some ⟨b102, o103 + i * 2, none⟩) := hu3
       refine og_none rfl (O_load (v := .int .i64 (((apartL m m.shares.length)[i]'(by omega)).1)) hu3 ag3 ((hst.getR 0 rfl).2 0 _ rfl) rfl ?_)
       exact ⟨.int .i64 (((apartL m m.shares.length)[i]'(by omega)).1), rfl, rfl, hst⟩
      ·intro f5_ w5_ X5_ hfr hus hrd hst
       obtain ⟨hu4, -⟩ := hus
       have hu4 : f5_ 95 = .int .i64 (((apartL m m.shares.length)[i]'(by omega)).1) := hu4
       refine og_none rfl (O_bin (k := .i64) (k' := .i64) (a := (((apartL m m.shares.length)[i]'(by omega)).1)) (b := 256) hu4 rfl rfl b_lss ?_)
       exact ⟨.bool (decide ((((apartL m m.shares.length)[i]'(by omega)).1) < 256)), rfl, rfl, hst⟩
      ·intro f6_ w6_ X6_ hfr hus hrd hst
       obtain ⟨hu5, -⟩ := hus
       have hu5 : f6_ 96 = .bool (decide ((((apartL m m.shares.length)[i]'(by omega)).1) < 256)) := hu5
       refine og_none rfl (O_move (v := .bool (decide ((((apartL m m.shares.length)[i]'(by omega)).1) < 256))) hu5 rfl ?_)
       exact ⟨.bool (decide ((((apartL m m.shares.length)[i]'(by omega)).1) < 256)), rfl, rfl, hst⟩
      ·intro f7_ w7_ X7_ hfr hus hrd hst
       obtain ⟨hu6, -⟩ := hus
       have hu6 : f7_ 97 = .bool (decide ((((apartL m m.shares.length)[i]'(by omega)).1) < 256)) := hu6
       have hb6 : f7_ 6 = .slice a6 (m.comps.length + m.comps.length + m.comps.length + m.shares.length) c6 := (hfr 6 rfl)
       refine og_some rfl (c := (decide ((((apartL m m.shares.length)[i]'(by omega)).1) < 256))) hu6 (fun hg106 => ?_) (fun hg106 => ⟨undef, rfl, (if_neg (by rw [hg106]; decide)).symm, hst⟩)
       refine O_move (v := .slice a6 (m.comps.length + m.comps.length + m.comps.length + m.shares.length) c6) hb6 rfl ?_
       exact ⟨.slice a6 (m.comps.length + m.comps.length + m.comps.length + m.shares.length) c6, rfl, (if_pos hg106).symm, hst⟩
      ·intro f8_ w8_ X8_ hfr hus hrd hst
       obtain ⟨hu6, -⟩ := hus
       have hu6 : f8_ 97 = .bool (decide ((((apartL m m.shares.length)[i]'(by omega)).1) < 256)) := hu6
       have hb8 : f8_ 8 = .int .i64 ((i : Nat) : Int) := (hfr 8 rfl)
       refine og_some rfl (c := (decide ((((apartL m m.shares.length)[i]'(by omega)).1) < 256))) hu6 (fun hg107 => ?_) (fun hg107 => ⟨undef, rfl, (if_neg (by rw [hg107]; decide)).symm, hst⟩)
       refine O_move (v := .int .i64 ((i : Nat) : Int)) hb8 rfl ?_
       exact ⟨.int .i64 ((i : Nat) : Int), rfl, (if_pos hg107).symm, hst⟩
      ·intro f9_ w9_ X9_ hfr hus hrd hst
       obtain ⟨hu6, hu7, hu8, -⟩ := hus
       have hu6 : f9_ 97 = .bool (decide ((((apartL m m.shares.length)[i]'(by omega)).1) < 256)) := hu6
       have hu7 : f9_ 98 = if (decide ((((apartL m m.shares.length)[i]'(by omega)).1) < 256)) = false then .slice a6 (m.comps.length + m.comps.length + m.comps.length + m.shares.length) c6 else undef := hu7
       have hu8 : f9_ 99 = if (decide ((((apartL m m.shares.length)[i]'(by omega)).1) < 256)) = false then .int .i64 ((i : Nat) : Int) else undef := hu8
       refine og_some rfl (c := (decide ((((apartL m m.shares.length)[i]'(by omega)).1) < 256))) hu6 (fun hg108 => ?_) (fun hg108 => ⟨undef, rfl, (if_neg (by rw [hg108]; decide)).symm, hst⟩)
       refine O_indexAddr_at (Eq.trans hu7 (if_pos hg108)) ha104 (Eq.trans hu8 (if_pos hg108)) un42 sz51 (by omega) (by omega) (o' := o103 + i * 2) (by omega) rfl ?_
       exact ⟨.pointer (some ⟨b102, o103 + i * 2, none⟩), rfl, (if_pos hg108).symm, hst⟩
      ·intro f10_ w10_ X10_ hfr hus hrd hst
       obtain ⟨hu6, hu9, -⟩ := hus
       have hu6 : f10_ 97 = .bool (decide ((((apartL m m.shares.length)[i]'(by omega)).1) < 256)) := hu6
       have hu9 : f10_ 100 = if (decide ((((apartL m m.shares.length)[i]'(by omega)).1) < 256)) = false then .pointer (some ⟨b102, o103 + i * 2, none⟩) else undef := hu9
       refine og_some rfl (c := (decide ((((apartL m m.shares.length)[i]'(by omega)).1) < 256))) hu6 (fun hg109 => ?_) (fun hg109 => ⟨undef, rfl, (if_neg (by rw [hg109]; decide)).symm, hst⟩)
       refine O_indexAddr_arr (Eq.trans hu9 (if_pos hg109)) rfl un51 sz3 (by omega) (by omega) (o' := o103 + i * 2) (by omega) rfl ?_
       exact ⟨.pointer (some ⟨b102, o103 + i * 2, none⟩), rfl, (if_pos hg109).symm, hst⟩
      ·intro f11_ w11_ X11_ hfr hus hrd hst
       obtain ⟨hu6, hu10, -⟩ := hus
       have hu6 : f11_ 97 = .bool (decide ((((apartL m m.shares.length)[i]'(by omega)).1) < 256)) := hu6
       have hu10 : f11_ 101 = if (decide ((((apartL m m.shares.length)[i]'(by omega)).1) < 256)) = false then .pointer (some ⟨b102, o103 + i * 2, none⟩) else undef := hu10
       refine og_some rfl (c := (decide ((((apartL m m.shares.length)[i]'(by omega)).1) < 256))) hu6 (fun hg110 => ?_) (fun hg110 => ⟨undef, rfl, (if_neg (by rw [hg110]; decide)).symm, hst⟩)
       refine O_load (v := .int .i64 (((apartL m m.shares.length)[i]'(by omega)).1)) (Eq.trans hu10 (if_pos hg110)) ag3 ((hst.getR 0 rfl).2 0 _ rfl) rfl ?_
       exact ⟨.int .i64 (((apartL m m.shares.length)[i]'(by omega)).1), rfl, (if_pos hg110).symm, hst⟩
      ·intro f12_ w12_ X12_ hfr hus hrd hst
       obtain ⟨hu6, hu11, -⟩ := hus
       have hu6 : f12_ 97 = .bool (decide ((((apartL m m.shares.length)[i]'(by omega)).1) < 256)) := hu6
       have hu11 : f12_ 102 = if (decide ((((apartL m m.shares.length)[i]'(by omega)).1) < 256)) = false then .int .i64 (((apartL m m.shares.length)[i]'(by omega)).1) else undef := hu11
       refine og_some rfl (c := (decide ((((apartL m m.shares.length)[i]'(by omega)).1) < 256))) hu6 (fun hg111 => ?_) (fun hg111 => ⟨undef, rfl, (if_neg (by rw [hg111]; decide)).symm, hst⟩)
       refine O_bin (v := .int .i64 ((((apartL m m.shares.length)[i]'(by omega)).1) % 256)) (Eq.trans hu11 (if_pos hg111)) rfl rfl (b_rem (by omega) (rem_nn (by omega) (by omega))) ?_
       exact ⟨.int .i64 ((((apartL m m.shares.length)[i]'(by omega)).1) % 256), rfl, (if_pos hg111).symm, hst⟩
      ·intro f13_ w13_ X13_ hfr hus hrd hst
       obtain ⟨hu6, hu12, -⟩ := hus
       have hu6 : f13_ 97 = .bool (decide ((((apartL m m.shares.length)[i]'(by omega)).1) < 256)) := hu6
       have hu12 : f13_ 103 = if (decide ((((apartL m m.shares.length)[i]'(by omega)).1) < 256)) = false then .int .i64 ((((apartL m m.shares.length)[i]'(by omega)).1) % 256) else undef := hu12
       refine og_some rfl (c := (decide ((((apartL m m.shares.length)[i]'(by omega)).1) < 256))) hu6 (fun hg112 => ?_) (fun hg112 => ⟨undef, rfl, (if_neg (by rw [hg112]; decide)).symm, hst⟩)
       refine O_bin (k := .i64) (k' := .i64) (a := ((((apartL m m.shares.length)[i]'(by omega)).1) % 256)) (b := 0) (Eq.trans hu12 (if_pos hg112)) rfl rfl b_neq ?_
       exact ⟨.bool (decide (((((apartL m m.shares.length)[i]'(by omega)).1) % 256) ≠ 0)), rfl, (if_pos hg112).symm, hst⟩
      ·intro f14_ w14_ X14_ hfr hus hrd hst
       obtain ⟨hu6, hu13, -⟩ := hus
       have hu6 : f14_ 97 = .bool (decide ((((apartL m m.shares.length)[i]'(by omega)).1) < 256)) := hu6
       have hu13 : f14_ 104 = if (decide ((((apartL m m.shares.length)[i]'(by omega)).1) < 256)) = false then .bool (decide (((((apartL m m.shares.length)[i]'(by omega)).1) % 256) ≠ 0)) else undef := hu13
       refine og_none rfl (O_pick hu6 (by simp only [ev, hu13]; exact pick_or _ _) rfl ?_)
       exact ⟨.bool ((decide ((((apartL m m.shares.length)[i]'(by omega)).1) < 256)) || (decide (((((apartL m m.shares.length)[i]'(by omega)).1) % 256) ≠ 0))), rfl, rfl, hst⟩
      ·intro f15_ w15_ X15_ hfr hus hrd hst
       obtain ⟨hu14, -⟩ := hus
       have hu14 : f15_ 105 = .bool ((decide ((((apartL m m.shares.length)[i]'(by omega)).1) < 256)) || (decide (((((apartL m m.shares.length)[i]'(by omega)).1) % 256) ≠ 0))) := hu14
       refine og_none rfl (O_move (v := .bool ((decide ((((apartL m m.shares.length)[i]'(by omega)).1) < 256)) || (decide (((((apartL m m.shares.length)[i]'(by omega)).1) % 256) ≠ 0)))) hu14 rfl ?_)
       exact ⟨.bool ((decide ((((apartL m m.shares.length)[i]'(by omega)).1) < 256)) || (decide (((((apartL m m.shares.length)[i]'(by omega)).1) % 256) ≠ 0))), rfl, rfl, hst⟩
      ·intro f16_ w16_ X16_ hfr hus hrd hst
       obtain ⟨hu15, -⟩ := hus
       have hu15 : f16_ 106 = .bool ((decide ((((apartL m m.shares.length)[i]'(by omega)).1) < 256)) || (decide (((((apartL m m.shares.length)[i]'(by omega)).1) % 256) ≠ 0))) := hu15
       have hb6 : f16_ 6 = .slice a6 (m.comps.length + m.comps.length + m.comps.length + m.shares.length) c6 := (hfr 6 rfl)
       refine og_some rfl (c := ((decide ((((apartL m m.shares.length)[i]'(by omega)).1) < 256)) || (decide (((((apartL m m.shares.length)[i]'(by omega)).1) % 256) ≠ 0)))) hu15 (fun hg113 => ?_) (fun hg113 => ⟨undef, rfl, (if_neg (by rw [hg113]; decide)).symm, hst⟩)
       refine O_move (v := .slice a6 (m.comps.length + m.comps.length + m.comps.length + m.shares.length) c6) hb6 rfl ?_
       exact ⟨.slice a6 (m.comps.length + m.comps.length + m.comps.length + m.shares.length) c6, rfl, (if_pos hg113).symm, hst⟩
      ·intro f17_ w17_ X17_ hfr hus hrd hst
       obtain ⟨hu15, -⟩ := hus
       have hu15 : f17_ 106 = .bool ((decide ((((apartL m m.shares.length)[i]'(by omega)).1) < 256)) || (decide (((((apartL m m.shares.length)[i]'(by omega)).1) % 256) ≠ 0))) := hu15
       have hb8 : f17_ 8 = .int .i64 ((i : Nat) : Int) := (hfr 8 rfl)
       refine og_some rfl (c := ((decide ((((apartL m m.shares.length)[i]'(by omega)).1) < 256)) || (decide (((((apartL m m.shares.length)[i]'(by omega)).1) % 256) ≠ 0)))) hu15 (fun hg114 => ?_) (fun hg114 => ⟨undef, rfl, (if_neg (by rw [hg114]; decide)).symm, hst⟩)
       refine O_move (v := .int .i64 ((i : Nat) : Int)) hb8 rfl ?_
       exact ⟨.int .i64 ((i : Nat) : Int), rfl, (if_pos hg114).symm, hst⟩
      ·intro f18_ w18_ X18_ hfr hus hrd hst
       obtain ⟨hu15, hu16, hu17, -⟩ := hus
       have hu15 : f18_ 106 = .bool ((decide ((((apartL m m.shares.length)[i]'(by omega)).1) < 256)) || (decide (((((apartL m m.shares.length)[i]'(by omega)).1) % 256) ≠ 0))) := hu15
       have hu16 : f18_ 107 = if ((decide ((((apartL m m.shares.length)[i]'(by omega)).1) < 256)) || (decide (((((apartL m m.shares.length)[i]'(by omega)).1) % 256) ≠ 0))) = false then .slice a6 (m.comps.length + m.comps.length + m.comps.length + m.shares.length) c6 else undef := hu16
       have hu17 : f18_ 108 = if ((decide ((((apartL m m.shares.length)[i]'(by omega)).1) < 256)) || (decide (((((apartL m m.shares.length)[i]'(by omega)).1) % 256) ≠ 0))) = false then .int .i64 ((i : Nat) : Int) else undef := hu17
       refine og_some rfl (c := ((decide ((((apartL m m.shares.length)[i]'(by omega)).1) < 256)) || (decide (((((apartL m m.shares.length)[i]'(by omega)).1) % 256) ≠ 0)))) hu15 (fun hg115 => ?_) (fun hg115 => ⟨undef, rfl, (if_neg (by rw [hg115]; decide)).symm, hst⟩)
       refine O_indexAddr_at (Eq.trans hu16 (if_pos hg115)) ha104 (Eq.trans hu17 (if_pos hg115)) un42 sz51 (by omega) (by omega) (o' := o103 + i * 2) (by omega) rfl ?_
       exact ⟨.pointer (some ⟨b102, o103 + i * 2, none⟩), rfl, (if_pos hg115).symm, hst⟩
      ·intro f19_ w19_ X19_ hfr hus hrd hst
       obtain ⟨hu15, hu18, -⟩ := hus
       have hu15 : f19_ 106 = .bool ((decide ((((apartL m m.shares.length)[i]'(by omega)).1) < 256)) || (decide (((((apartL m m.shares.length)[i]'(by omega)).1) % 256) ≠ 0))) := hu15
       have hu18 : f19_ 109 = if ((decide ((((apartL m m.shares.length)[i]'(by omega)).1) < 256)) || (decide (((((apartL m m.shares.length)[i]'(by omega)).1) % 256) ≠ 0))) = false then .pointer (some ⟨b102, o103 + i * 2, none⟩) else undef := hu18
       refine og_some rfl (c := ((decide ((((apartL m m.shares.length)[i]'(by omega)).1) < 256)) || (decide (((((apartL m m.shares.length)[i]'(by omega)).1) % 256) ≠ 0)))) hu15 (fun hg116 => ?_) (fun hg116 => ⟨undef, rfl, (if_neg (by rw [hg116]; decide)).symm, hst⟩)
       refine O_indexAddr_arr (Eq.trans hu18 (if_pos hg116)) rfl un51 sz3 (by omega) (by omega) (o' := o103 + i * 2 + 1) (by omega) rfl ?_
       exact ⟨.pointer (some ⟨b102, o103 + i * 2 + 1, none⟩), rfl, (if_pos hg116).symm, hst⟩
      ·intro f20_ w20_ X20_ hfr hus hrd hst
       obtain ⟨hu15, hu19, -⟩ := hus
       have hu15 : f20_ 106 = .bool ((decide ((((apartL m m.shares.length)[i]'(by omega)).1) < 256)) || (decide (((((apartL m m.shares.length)[i]'(by omega)).1) % 256) ≠ 0))) := hu15
       have hu19 : f20_ 110 = if ((decide ((((apartL m m.shares.length)[i]'(by omega)).1) < 256)) || (decide (((((apartL m m.shares.length)[i]'(by omega)).1) % 256) ≠ 0))) = false then .pointer (some ⟨b102, o103 + i * 2 + 1, none⟩) else undef := hu19
       refine og_some rfl (c := ((decide ((((apartL m m.shares.length)[i]'(by omega)).1) < 256)) || (decide (((((apartL m m.shares.length)[i]'(by omega)).1) % 256) ≠ 0)))) hu15 (fun hg117 => ?_) (fun hg117 => ⟨undef, rfl, (if_neg (by rw [hg117]; decide)).symm, hst⟩)
       refine O_load (v := .int .i64 (((apartL m m.shares.length)[i]'(by omega)).2)) (Eq.trans hu19 (if_pos hg117)) ag3 ((hst.getR 0 rfl).2 1 _ rfl) rfl ?_
       exact ⟨.int .i64 (((apartL m m.shares.length)[i]'(by omega)).2), rfl, (if_pos hg117).symm, hst⟩
      ·intro f21_ w21_ X21_ hfr hus hrd hst
       obtain ⟨hu15, -⟩ := hus
       have hu15 : f21_ 106 = .bool ((decide ((((apartL m m.shares.length)[i]'(by omega)).1) < 256)) || (decide (((((apartL m m.shares.length)[i]'(by omega)).1) % 256) ≠ 0))) := hu15
       have hb6 : f21_ 6 = .slice a6 (m.comps.length + m.comps.length + m.comps.length + m.shares.length) c6 := (hfr 6 rfl)
       refine og_some rfl (c := ((decide ((((apartL m m.shares.length)[i]'(by omega)).1) < 256)) || (decide (((((apartL m m.shares.length)[i]'(by omega)).1) % 256) ≠ 0)))) hu15 (fun hg118 => ?_) (fun hg118 => ⟨undef, rfl, (if_neg (by rw [hg118]; decide)).symm, hst⟩)
       refine O_move (v := .slice a6 (m.comps.length + m.comps.length + m.comps.length + m.shares.length) c6) hb6 rfl ?_
       exact ⟨.slice a6 (m.comps.length + m.comps.length + m.comps.length + m.shares.length) c6, rfl, (if_pos hg118).symm, hst⟩
      ·intro f22_ w22_ X22_ hfr hus hrd hst
       obtain ⟨hu15, -⟩ := hus
       have hu15 : f22_ 106 = .bool ((decide ((((apartL m m.shares.length)[i]'(by omega)).1) < 256)) || (decide (((((apartL m m.shares.length)[i]'(by omega)).1) % 256) ≠ 0))) := hu15
       have hb8 : f22_ 8 = .int .i64 ((i : Nat) : Int) := (hfr 8 rfl)
       refine og_some rfl (c := ((decide ((((apartL m m.shares.length)[i]'(by omega)).1) < 256)) || (decide (((((apartL m m.shares.length)[i]'(by omega)).1) % 256) ≠ 0)))) hu15 (fun hg119 => ?_) (fun hg119 => ⟨undef, rfl, (if_neg (by rw [hg119]; decide)).symm, hst⟩)
       refine O_move (v := .int .i64 ((i : Nat) : Int)) hb8 rfl ?_
       exact ⟨.int .i64 ((i : Nat) : Int), rfl, (if_pos hg119).symm, hst⟩
      ·intro f23_ w23_ X23_ hfr hus hrd hst
       obtain ⟨hu15, hu21, hu22, -⟩ := hus
       have hu15 : f23_ 106 = .bool ((decide ((((apartL m m.shares.length)[i]'(by omega)).1) < 256)) || (decide (((((apartL m m.shares.length)[i]'(by omega)).1) % 256) ≠ 0))) := hu15
       have hu21 : f23_ 112 = if ((decide ((((apartL m m.shares.length)[i]'(by omega)).1) < 256)) || (decide (((((apartL m m.shares.length)[i]'(by omega)).1) % 256) ≠ 0))) = false then .slice a6 (m.comps.length + m.comps.length + m.comps.length + m.shares.length) c6 else undef := hu21
       have hu22 : f23_ 113 = if ((decide ((((apartL m m.shares.length)[i]'(by omega)).1) < 256)) || (decide (((((apartL m m.shares.length)[i]'(by omega)).1) % 256) ≠ 0))) = false then .int .i64 ((i : Nat) : Int) else undef := hu22
       refine og_some rfl (c := ((decide ((((apartL m m.shares.length)[i]'(by omega)).1) < 256)) || (decide (((((apartL m m.shares.length)[i]'(by omega)).1) % 256) ≠ 0)))) hu15 (fun hg120 => ?_) (fun hg120 => ⟨undef, rfl, (if_neg (by rw [hg120]; decide)).symm, hst⟩)
       refine O_indexAddr_at (Eq.trans hu21 (if_pos hg120)) ha104 (Eq.trans hu22 (if_pos hg120)) un42 sz51 (by omega) (by omega) (o' := o103 + i * 2) (by omega) rfl ?_
       exact ⟨.pointer (some ⟨b102, o103 + i * 2, none⟩), rfl, (if_pos hg120).symm, hst⟩
      ·intro f24_ w24_ X24_ hfr hus hrd hst
       obtain ⟨hu15, hu23, -⟩ := hus
       have hu15 : f24_ 106 = .bool ((decide ((((apartL m m.shares.length)[i]'(by omega)).1) < 256)) || (decide (((((apartL m m.shares.length)[i]'(by omega)).1) % 256) ≠ 0))) := hu15
       have hu23 : f24_ 114 = if ((decide ((((apartL m m.shares.length)[i]'(by omega)).1) < 256)) || (decide (((((apartL m m.shares.length)[i]'(by omega)).1) % 256) ≠ 0))) = false then .pointer (some ⟨b102, o103 + i * 2, none⟩) else undef := hu23
       refine og_some rfl (c := ((decide ((((apartL m m.shares.length)[i]'(by omega)).1) < 256)) || (decide (((((apartL m m.shares.length)[i]'(by omega)).1) % 256) ≠ 0)))) hu15 (fun hg121 => ?_) (fun hg121 => ⟨undef, rfl, (if_neg (by rw [hg121]; decide)).symm, hst⟩)
       refine O_indexAddr_arr (Eq.trans hu23 (if_pos hg121)) rfl un51 sz3 (by omega) (by omega) (o' := o103 + i * 2) (by omega) rfl ?_
       exact ⟨.pointer (some ⟨b102, o103 + i * 2, none⟩), rfl, (if_pos hg121).symm, hst⟩
      ·intro f25_ w25_ X25_ hfr hus hrd hst
       obtain ⟨hu15, hu24, -⟩ := hus
       have hu15 : f25_ 106 = .bool ((decide ((((apartL m m.shares.length)[i]'(by omega)).1) < 256)) || (decide (((((apartL m m.shares.length)[i]'(by omega)).1) % 256) ≠ 0))) := hu15
       have hu24 : f25_ 115 = if ((decide ((((apartL m m.shares.length)[i]'(by omega)).1) < 256)) || (decide (((((apartL m m.shares.length)[i]'(by omega)).1) % 256) ≠ 0))) = false then .pointer (some ⟨b102, o103 + i * 2, none⟩) else undef := hu24
       refine og_some rfl (c := ((decide ((((apartL m m.shares.length)[i]'(by omega)).1) < 256)) || (decide (((((apartL m m.shares.length)[i]'(by omega)).1) % 256) ≠ 0)))) hu15 (fun hg122 => ?_) (fun hg122 => ⟨undef, rfl, (if_neg (by rw [hg122]; decide)).symm, hst⟩)
       refine O_load (v := .int .i64 (((apartL m m.shares.length)[i]'(by omega)).1)) (Eq.trans hu24 (if_pos hg122)) ag3 ((hst.getR 0 rfl).2 0 _ rfl) rfl ?_
       exact ⟨.int .i64 (((apartL m m.shares.length)[i]'(by omega)).1), rfl, (if_pos hg122).symm, hst⟩
      ·intro f26_ w26_ X26_ hfr hus hrd hst
       obtain ⟨hu15, hu20, hu25, -⟩ := hus
       have hu15 : f26_ 106 = .bool ((decide ((((apartL m m.shares.length)[i]'(by omega)).1) < 256)) || (decide (((((apartL m m.shares.length)[i]'(by omega)).1) % 256) ≠ 0))) := hu15
       have hu20 : f26_ 111 = if ((decide ((((apartL m m.shares.length)[i]'(by omega)).1) < 256)) || (decide (((((apartL m m.shares.length)[i]'(by omega)).1) % 256) ≠ 0))) = false then .int .i64 (((apartL m m.shares.length)[i]'(by omega)).2) else undef := hu20
       have hu25 : f26_ 116 = if ((decide ((((apartL m m.shares.length)[i]'(by omega)).1) < 256)) || (decide (((((apartL m m.shares.length)[i]'(by omega)).1) % 256) ≠ 0))) = false then .int .i64 (((apartL m m.shares.length)[i]'(by omega)).1) else undef := hu25
       refine og_some rfl (c := ((decide ((((apartL m m.shares.length)[i]'(by omega)).1) < 256)) || (decide (((((apartL m m.shares.length)[i]'(by omega)).1) % 256) ≠ 0)))) hu15 (fun hg123 => ?_) (fun hg123 => ⟨undef, rfl, (if_neg (by rw [hg123]; decide)).symm, hst⟩)
       refine O_bin (k := .i64) (k' := .i64) (a := (((apartL m m.shares.length)[i]'(by omega)).2)) (b := (((apartL m m.shares.length)[i]'(by omega)).1)) (Eq.trans hu20 (if_pos hg123)) (Eq.trans hu25 (if_pos hg123)) rfl b_leq ?_
       exact ⟨.bool (decide ((((apartL m m.shares.length)[i]'(by omega)).2) ≤ (((apartL m m.shares.length)[i]'(by omega)).1))), rfl, (if_pos hg123).symm, hst⟩
      ·intro f27_ w27_ X27_ hfr hus hrd hst
       obtain ⟨hu15, hu26, -⟩ := hus
       have hu15 : f27_ 106 = .bool ((decide ((((apartL m m.shares.length)[i]'(by omega)).1) < 256)) || (decide (((((apartL m m.shares.length)[i]'(by omega)).1) % 256) ≠ 0))) := hu15
       have hu26 : f27_ 117 = if ((decide ((((apartL m m.shares.length)[i]'(by omega)).1) < 256)) || (decide (((((apartL m m.shares.length)[i]'(by omega)).1) % 256) ≠ 0))) = false then .bool (decide ((((apartL m m.shares.length)[i]'(by omega)).2) ≤ (((apartL m m.shares.length)[i]'(by omega)).1))) else undef := hu26
       refine og_none rfl (O_pick hu15 (by simp only [ev, hu26]; exact pick_or _ _) rfl ?_)
       exact ⟨.bool (((decide ((((apartL m m.shares.length)[i]'(by omega)).1) < 256)) || (decide (((((apartL m m.shares.length)[i]'(by omega)).1) % 256) ≠ 0))) || (decide ((((apartL m m.shares.length)[i]'(by omega)).2) ≤ (((apartL m m.shares.length)[i]'(by omega)).1)))), rfl, rfl, hst⟩
      ·intro f28_ w28_ X28_ hfr hus hrd hst
       obtain ⟨hu27, -⟩ := hus
       have hu27 : f28_ 118 = .bool (((decide ((((apartL m m.shares.length)[i]'(by omega)).1) < 256)) || (decide (((((apartL m m.shares.length)[i]'(by omega)).1) % 256) ≠ 0))) || (decide ((((apartL m m.shares.length)[i]'(by omega)).2) ≤ (((apartL m m.shares.length)[i]'(by omega)).1)))) := hu27
       refine og_none rfl (O_move (v := .bool (((decide ((((apartL m m.shares.length)[i]'(by omega)).1) < 256)) || (decide (((((apartL m m.shares.length)[i]'(by omega)).1) % 256) ≠ 0))) || (decide ((((apartL m m.shares.length)[i]'(by omega)).2) ≤ (((apartL m m.shares.length)[i]'(by omega)).1))))) hu27 rfl ?_)
       exact ⟨.bool (((decide ((((apartL m m.shares.length)[i]'(by omega)).1) < 256)) || (decide (((((apartL m m.shares.length)[i]'(by omega)).1) % 256) ≠ 0))) || (decide ((((apartL m m.shares.length)[i]'(by omega)).2) ≤ (((apartL m m.shares.length)[i]'(by omega)).1)))), rfl, rfl, hst⟩
      ·intro f29_ w29_ X29_ hfr hus hrd hst
       obtain ⟨hu28, -⟩ := hus
       have hu28 : f29_ 119 = .bool (((decide ((((apartL m m.shares.length)[i]'(by omega)).1) < 256)) || (decide (((((apartL m m.shares.length)[i]'(by omega)).1) % 256) ≠ 0))) || (decide ((((apartL m m.shares.length)[i]'(by omega)).2) ≤ (((apartL m m.shares.length)[i]'(by omega)).1)))) := hu28
       have hb6 : f29_ 6 = .slice a6 (m.comps.length + m.comps.length + m.comps.length + m.shares.length) c6 := (hfr 6 rfl)
       refine og_some rfl (c := (((decide ((((apartL m m.shares.length)[i]'(by omega)).1) < 256)) || (decide (((((apartL m m.shares.length)[i]'(by omega)).1) % 256) ≠ 0))) || (decide ((((apartL m m.shares.length)[i]'(by omega)).2) ≤ (((apartL m m.shares.length)[i]'(by omega)).1))))) hu28 (fun hg124 => ?_) (fun hg124 => ⟨undef, rfl, (if_neg (by rw [hg124]; decide)).symm, hst⟩)
       refine O_move (v := .slice a6 (m.comps.length + m.comps.length + m.comps.length + m.shares.length) c6) hb6 rfl ?_
       exact ⟨.slice a6 (m.comps.length + m.comps.length + m.comps.length + m.shares.length) c6, rfl, (if_pos hg124).symm, hst⟩
      ·intro f30_ w30_ X30_ hfr hus hrd hst
       obtain ⟨hu28, -⟩ := hus
       have hu28 : f30_ 119 = .bool (((decide ((((apartL m m.shares.length)[i]'(by omega)).1) < 256)) || (decide (((((apartL m m.shares.length)[i]'(by omega)).1) % 256) ≠ 0))) || (decide ((((apartL m m.shares.length)[i]'(by omega)).2) ≤ (((apartL m m.shares.length)[i]'(by omega)).1)))) := hu28
       have hb8 : f30_ 8 = .int .i64 ((i : Nat) : Int) := (hfr 8 rfl)
       refine og_some rfl (c := (((decide ((((apartL m m.shares.length)[i]'(by omega)).1) < 256)) || (decide (((((apartL m m.shares.length)[i]'(by omega)).1) % 256) ≠ 0))) || (decide ((((apartL m m.shares.length)[i]'(by omega)).2) ≤ (((apartL m m.shares.length)[i]'(by omega)).1))))) hu28 (fun hg125 => ?_) (fun hg125 => ⟨undef, rfl, (if_neg (by rw [hg125]; decide)).symm, hst⟩)
       refine O_move (v := .int .i64 ((i : Nat) : Int)) hb8 rfl ?_
       exact ⟨.int .i64 ((i : Nat) : Int), rfl, (if_pos hg125).symm, hst⟩
      ·intro f31_ w31_ X31_ hfr hus hrd hst
       obtain ⟨hu28, hu29, hu30, -⟩ := hus
       have hu28 : f31_ 119 = .bool (((decide ((((apartL m m.shares.length)[i]'(by omega)).1) < 256)) || (decide (((((apartL m m.shares.length)[i]'(by omega)).1) % 256) ≠ 0))) || (decide ((((apartL m m.shares.length)[i]'(by omega)).2) ≤ (((apartL m m.shares.length)[i]'(by omega)).1)))) := hu28
       have hu29 : f31_ 120 = if (((decide ((((apartL m m.shares.length)[i]'(by omega)).1) < 256)) || (decide (((((apartL m m.shares.length)[i]'(by omega)).1) % 256) ≠ 0))) || (decide ((((apartL m m.shares.length)[i]'(by omega)).2) ≤ (((apartL m m.shares.length)[i]'(by omega)).1)))) = false then .slice a6 (m.comps.length + m.comps.length + m.comps.length + m.shares.length) c6 else undef := hu29
       have hu30 : f31_ 121 = if (((decide ((((apartL m m.shares.length)[i]'(by omega)).1) < 256)) || (decide (((((apartL m m.shares.length)[i]'(by omega)).1) % 256) ≠ 0))) || (decide ((((apartL m m.shares.length)[i]'(by omega)).2) ≤ (((apartL m m.shares.length)[i]'(by omega)).1)))) = false then .int .i64 ((i : Nat) : Int) else undef := hu30
       refine og_some rfl (c := (((decide ((((apartL m m.shares.length)[i]'(by omega)).1) < 256)) || (decide (((((apartL m m.shares.length)[i]'(by omega)).1) % 256) ≠ 0))) || (decide ((((apartL m m.shares.length)[i]'(by omega)).2) ≤ (((apartL m m.shares.length)[i]'(by omega)).1))))) hu28 (fun hg126 => ?_) (fun hg126 => ⟨undef, rfl, (if_neg (by rw [hg126]; decide)).symm, hst⟩)
       refine O_indexAddr_at (Eq.trans hu29 (if_pos hg126)) ha104 (Eq.trans hu30 (if_pos hg126)) un42 sz51 (by omega) (by omega) (o' := o103 + i * 2) (by omega) rfl ?_
       exact ⟨.pointer (some ⟨b102, o103 + i * 2, none⟩), rfl, (if_pos hg126).symm, hst⟩
      ·intro f32_ w32_ X32_ hfr hus hrd hst
       obtain ⟨hu28, hu31, -⟩ := hus
       have hu28 : f32_ 119 = .bool (((decide ((((apartL m m.shares.length)[i]'(by omega)).1) < 256)) || (decide (((((apartL m m.shares.length)[i]'(by omega)).1) % 256) ≠ 0))) || (decide ((((apartL m m.shares.length)[i]'(by omega)).2) ≤ (((apartL m m.shares.length)[i]'(by omega)).1)))) := hu28
       have hu31 : f32_ 122 = if (((decide ((((apartL m m.shares.length)[i]'(by omega)).1) < 256)) || (decide (((((apartL m m.shares.length)[i]'(by omega)).1) % 256) ≠ 0))) || (decide ((((apartL m m.shares.length)[i]'(by omega)).2) ≤ (((apartL m m.shares.length)[i]'(by omega)).1)))) = false then .pointer (some ⟨b102, o103 + i * 2, none⟩) else undef := hu31
       refine og_some rfl (c := (((decide ((((apartL m m.shares.length)[i]'(by omega)).1) < 256)) || (decide (((((apartL m m.shares.length)[i]'(by omega)).1) % 256) ≠ 0))) || (decide ((((apartL m m.shares.length)[i]'(by omega)).2) ≤ (((apartL m m.shares.length)[i]'(by omega)).1))))) hu28 (fun hg127 => ?_) (fun hg127 => ⟨undef, rfl, (if_neg (by rw [hg127]; decide)).symm, hst⟩)
       refine O_indexAddr_arr (Eq.trans hu31 (if_pos hg127)) rfl un51 sz3 (by omega) (by omega) (o' := o103 + i * 2 + 1) (by omega) rfl ?_
       exact ⟨.pointer (some ⟨b102, o103 + i * 2 + 1, none⟩), rfl, (if_pos hg127).symm, hst⟩
      ·intro f33_ w33_ X33_ hfr hus hrd hst
       obtain ⟨hu28, hu32, -⟩ := hus
       have hu28 : f33_ 119 = .bool (((decide ((((apartL m m.shares.length)[i]'(by omega)).1) < 256)) || (decide (((((apartL m m.shares.length)[i]'(by omega)).1) % 256) ≠ 0))) || (decide ((((apartL m m.shares.length)[i]'(by omega)).2) ≤ (((apartL m m.shares.length)[i]'(by omega)).1)))) := hu28
       have hu32 : f33_ 123 = if (((decide ((((apartL m m.shares.length)[i]'(by omega)).1) < 256)) || (decide (((((apartL m m.shares.length)[i]'(by omega)).1) % 256) ≠ 0))) || (decide ((((apartL m m.shares.length)[i]'(by omega)).2) ≤ (((apartL m m.shares.length)[i]'(by omega)).1)))) = false then .pointer (some ⟨b102, o103 + i * 2 + 1, none⟩) else undef := hu32
       refine og_some rfl (c := (((decide ((((apartL m m.shares.length)[i]'(by omega)).1) < 256)) || (decide (((((apartL m m.shares.length)[i]'(by omega)).1) % 256) ≠ 0))) || (decide ((((apartL m m.shares.length)[i]'(by omega)).2) ≤ (((apartL m m.shares.length)[i]'(by omega)).1))))) hu28 (fun hg128 => ?_) (fun hg128 => ⟨undef, rfl, (if_neg (by rw [hg128]; decide)).symm, hst⟩)
       refine O_load (v := .int .i64 (((apartL m m.shares.length)[i]'(by omega)).2)) (Eq.trans hu32 (if_pos hg128)) ag3 ((hst.getR 0 rfl).2 1 _ rfl) rfl ?_
       exact ⟨.int .i64 (((apartL m m.shares.length)[i]'(by omega)).2), rfl, (if_pos hg128).symm, hst⟩
      ·intro f34_ w34_ X34_ hfr hus hrd hst
       obtain ⟨hu28, -⟩ := hus
       have hu28 : f34_ 119 = .bool (((decide ((((apartL m m.shares.length)[i]'(by omega)).1) < 256)) || (decide (((((apartL m m.shares.length)[i]'(by omega)).1) % 256) ≠ 0))) || (decide ((((apartL m m.shares.length)[i]'(by omega)).2) ≤ (((apartL m m.shares.length)[i]'(by omega)).1)))) := hu28
       have hb4 : f34_ 4 = .pointer (some ⟨b24, 0, none⟩) := (hfr 4 rfl)
       refine og_some rfl (c := (((decide ((((apartL m m.shares.length)[i]'(by omega)).1) < 256)) || (decide (((((apartL m m.shares.length)[i]'(by omega)).1) % 256) ≠ 0))) || (decide ((((apartL m m.shares.length)[i]'(by omega)).2) ≤ (((apartL m m.shares.length)[i]'(by omega)).1))))) hu28 (fun hg129 => ?_) (fun hg129 => ⟨undef, rfl, (if_neg (by rw [hg129]; decide)).symm, hst⟩)
       refine O_fieldAddr hb4 fd45_4 rfl (o' := 4) rfl rfl ?_
       exact ⟨.pointer (some ⟨b24, 4, none⟩), rfl, (if_pos hg129).symm, hst⟩
      ·intro f35_ w35_ X35_ hfr hus hrd hst
       obtain ⟨hu28, hu34, -⟩ := hus
       have hu28 : f35_ 119 = .bool (((decide ((((apartL m m.shares.length)[i]'(by omega)).1) < 256)) || (decide (((((apartL m m.shares.length)[i]'(by omega)).1) % 256) ≠ 0))) || (decide ((((apartL m m.shares.length)[i]'(by omega)).2) ≤ (((apartL m m.shares.length)[i]'(by omega)).1)))) := hu28
       have hu34 : f35_ 125 = if (((decide ((((apartL m m.shares.length)[i]'(by omega)).1) < 256)) || (decide (((((apartL m m.shares.length)[i]'(by omega)).1) % 256) ≠ 0))) || (decide ((((apartL m m.shares.length)[i]'(by omega)).2) ≤ (((apartL m m.shares.length)[i]'(by omega)).1)))) = false then .pointer (some ⟨b24, 4, none⟩) else undef := hu34
       obtain ⟨hr39, -⟩ := hrd
       have hr39 : Item.φ (blk b24 [.slice a1 m.comps.length c1, .slice a2 m.comps.length c2, .slice a3 m.comps.length c3, .slice a4 m.shares.length c4, .int .i64 (pgEnd m + ((m.shares.length : Nat) : Int))] 45) w35_ := hr39
       refine og_some rfl (c := (((decide ((((apartL m m.shares.length)[i]'(by omega)).1) < 256)) || (decide (((((apartL m m.shares.length)[i]'(by omega)).1) % 256) ≠ 0))) || (decide ((((apartL m m.shares.length)[i]'(by omega)).2) ≤ (((apartL m m.shares.length)[i]'(by omega)).1))))) hu28 (fun hg130 => ?_) (fun hg130 => ⟨undef, rfl, (if_neg (by rw [hg130]; decide)).symm, hst⟩)
       refine O_load (v := .int .i64 (pgEnd m + ((m.shares.length : Nat) : Int))) (Eq.trans hu34 (if_pos hg130)) ag3 (cell_of_blk (hr39) rfl) rfl ?_
       exact ⟨.int .i64 (pgEnd m + ((m.shares.length : Nat) : Int)), rfl, (if_pos hg130).symm, hst⟩
      ·intro f36_ w36_ X36_ hfr hus hrd hst
       obtain ⟨hu28, hu35, -⟩ := hus
       have hu28 : f36_ 119 = .bool (((decide ((((apartL m m.shares.length)[i]'(by omega)).1) < 256)) || (decide (((((apartL m m.shares.length)[i]'(by omega)).1) % 256) ≠ 0))) || (decide ((((apartL m m.shares.length)[i]'(by omega)).2) ≤ (((apartL m m.shares.length)[i]'(by omega)).1)))) := hu28
       have hu35 : f36_ 126 = if (((decide ((((apartL m m.shares.length)[i]'(by omega)).1) < 256)) || (decide (((((apartL m m.shares.length)[i]'(by omega)).1) % 256) ≠ 0))) || (decide ((((apartL m m.shares.length)[i]'(by omega)).2) ≤ (((apartL m m.shares.length)[i]'(by omega)).1)))) = false then .int .i64 (pgEnd m + ((m.shares.length : Nat) : Int)) else undef := hu35
       refine og_some rfl (c := (((decide ((((apartL m m.shares.length)[i]'(by omega)).1) < 256)) || (decide (((((apartL m m.shares.length)[i]'(by omega)).1) % 256) ≠ 0))) || (decide ((((apartL m m.shares.length)[i]'(by omega)).2) ≤ (((apartL m m.shares.length)[i]'(by omega)).1))))) hu28 (fun hg131 => ?_) (fun hg131 => ⟨undef, rfl, (if_neg (by rw [hg131]; decide)).symm, hst⟩)
       refine O_bin (v := .int .i64 (256 * (pgEnd m + ((m.shares.length : Nat) : Int)))) rfl (Eq.trans hu35 (if_pos hg131)) rfl (b_mul (wrap_i64e (by omega) (by omega))) ?_
       exact ⟨.int .i64 (256 * (pgEnd m + ((m.shares.length : Nat) : Int))), rfl, (if_pos hg131).symm, hst⟩
      ·intro f37_ w37_ X37_ hfr hus hrd hst
       obtain ⟨hu28, hu33, hu36, -⟩ := hus
       have hu28 : f37_ 119 = .bool (((decide ((((apartL m m.shares.length)[i]'(by omega)).1) < 256)) || (decide (((((apartL m m.shares.length)[i]'(by omega)).1) % 256) ≠ 0))) || (decide ((((apartL m m.shares.length)[i]'(by omega)).2) ≤ (((apartL m m.shares.length)[i]'(by omega)).1)))) := hu28
       have hu33 : f37_ 124 = if (((decide ((((apartL m m.shares.length)[i]'(by omega)).1) < 256)) || (decide (((((apartL m m.shares.length)[i]'(by omega)).1) % 256) ≠ 0))) || (decide ((((apartL m m.shares.length)[i]'(by omega)).2) ≤ (((apartL m m.shares.length)[i]'(by omega)).1)))) = false then .int .i64 (((apartL m m.shares.length)[i]'(by omega)).2) else undef := hu33
       have hu36 : f37_ 127 = if (((decide ((((apartL m m.shares.length)[i]'(by omega)).1) < 256)) || (decide (((((apartL m m.shares.length)[i]'(by omega)).1) % 256) ≠ 0))) || (decide ((((apartL m m.shares.length)[i]'(by omega)).2) ≤ (((apartL m m.shares.length)[i]'(by omega)).1)))) = false then .int .i64 (256 * (pgEnd m + ((m.shares.length : Nat) : Int))) else undef := hu36
       refine og_some rfl (c := (((decide ((((apartL m m.shares.length)[i]'(by omega)).1) < 256)) || (decide (((((apartL m m.shares.length)[i]'(by omega)).1) % 256) ≠ 0))) || (decide ((((apartL m m.shares.length)[i]'(by omega)).2) ≤ (((apartL m m.shares.length)[i]'(by omega)).1))))) hu28 (fun hg132 => ?_) (fun hg132 => ⟨undef, rfl, (if_neg (by rw [hg132]; decide)).symm, hst⟩)
       refine O_bin (k := .i64) (k' := .i64) (a := (((apartL m m.shares.length)[i]'(by omega)).2)) (b := (256 * (pgEnd m + ((m.shares.length : Nat) : Int)))) (Eq.trans hu33 (if_pos hg132)) (Eq.trans hu36 (if_pos hg132)) rfl b_gtr ?_
       exact ⟨.bool (decide ((256 * (pgEnd m + ((m.shares.length : Nat) : Int))) < (((apartL m m.shares.length)[i]'(by omega)).2))), rfl, (if_pos hg132).symm, hst⟩
      ·intro f38_ w38_ X38_ hfr hus hrd hst
       obtain ⟨hu28, hu37, -⟩ := hus
       have hu28 : f38_ 119 = .bool (((decide ((((apartL m m.shares.length)[i]'(by omega)).1) < 256)) || (decide (((((apartL m m.shares.length)[i]'(by omega)).1) % 256) ≠ 0))) || (decide ((((apartL m m.shares.length)[i]'(by omega)).2) ≤ (((apartL m m.shares.length)[i]'(by omega)).1)))) := hu28
       have hu37 : f38_ 128 = if (((decide ((((apartL m m.shares.length)[i]'(by omega)).1) < 256)) || (decide (((((apartL m m.shares.length)[i]'(by omega)).1) % 256) ≠ 0))) || (decide ((((apartL m m.shares.length)[i]'(by omega)).2) ≤ (((apartL m m.shares.length)[i]'(by omega)).1)))) = false then .bool (decide ((256 * (pgEnd m + ((m.shares.length : Nat) : Int))) < (((apartL m m.shares.length)[i]'(by omega)).2))) else undef := hu37
       refine og_none rfl (O_pick hu28 (by simp only [ev, hu37]; exact pick_or _ _) rfl ?_)
       exact ⟨.bool ((((decide ((((apartL m m.shares.length)[i]'(by omega)).1) < 256)) || (decide (((((apartL m m.shares.length)[i]'(by omega)).1) % 256) ≠ 0))) || (decide ((((apartL m m.shares.length)[i]'(by omega)).2) ≤ (((apartL m m.shares.length)[i]'(by omega)).1)))) || (decide ((256 * (pgEnd m + ((m.shares.length : Nat) : Int))) < (((apartL m m.shares.length)[i]'(by omega)).2)))), rfl, rfl, hst⟩
      intro f133 w134 hfr hus hs135
      obtain ⟨hu38, -⟩ := hus
      have hu38 : f133 129 = .bool ((((decide ((((apartL m m.shares.length)[i]'(by omega)).1) < 256)) || (decide (((((apartL m m.shares.length)[i]'(by omega)).1) % 256) ≠ 0))) || (decide ((((apartL m m.shares.length)[i]'(by omega)).2) ≤ (((apartL m m.shares.length)[i]'(by omega)).1)))) || (decide ((256 * (pgEnd m + ((m.shares.length : Nat) : Int))) < (((apartL m m.shares.length)[i]'(by omega)).2)))) := hu38
      have hs135 : St w (fun _ => False) w134 [blk b24 [.slice a1 m.comps.length c1, .slice a2 m.comps.length c2, .slice a3 m.comps.length c3, .slice a4 m.shares.length c4, .int .i64 (pgEnd m + ((m.shares.length : Nat) : Int))] 45, blk b1 (imgCells m) 26] [rdI b102 (o103 + i * 2) (encR ((apartL m m.shares.length)[i]'(by omega))), arrI encR 2 a6 (apartL m m.shares.length), arrI encR 2 a1 (codesTo m m.comps.length), arrI encR 2 a2 (datasTo m m.comps.length), arrI encR 2 a3 (heapsTo m m.comps.length), arrI encI 1 a4 (shsTo m m.shares.length), arrI encComp 2 m.ca m.comps, arrI encLink 3 m.la m.links, arrI encShare 2 m.sa m.shares, codesI m.comps] := hs135
      have e136 : f133 1 = .pointer (some ⟨b1, 0, none⟩) := (hfr 1 rfl)
      rewrite [upd_id e136]
      have e137 : f133 3 = .bool true := (hfr 3 rfl)
      rewrite [upd_id e137]
      have e138 : f133 4 = .pointer (some ⟨b24, 0, none⟩) := (hfr 4 rfl)
      rewrite [upd_id e138]
      have e139 : f133 5 = .int .i64 ((m.comps.length : Nat) : Int) := (hfr 5 rfl)
      rewrite [upd_id e139]
      have e140 : f133 6 = .slice a6 (m.comps.length + m.comps.length + m.comps.length + m.shares.length) c6 := (hfr 6 rfl)
      rewrite [upd_id e140]
      have e141 : f133 8 = .int .i64 ((i : Nat) : Int) := (hfr 8 rfl)
      rewrite [upd_id e141]
      rewrite [upd_id hu38]
      refine thenQ_n ?_
      refine W_cond (t := ((((decide ((((apartL m m.shares.length)[i]'(by omega)).1) < 256)) || (decide (((((apartL m m.shares.length)[i]'(by omega)).1) % 256) ≠ 0))) || (decide ((((apartL m m.shares.length)[i]'(by omega)).2) ≤ (((apartL m m.shares.length)[i]'(by omega)).1)))) || (decide ((256 * (pgEnd m + ((m.shares.length : Nat) : Int))) < (((apartL m m.shares.length)[i]'(by omega)).2))))) rfl (fun hc142 => absurd hc142 (by rw [ap_E hap]; simp)) (fun hc142 => ?_)
      refine W_skip (thenQ_n (W_seq (W_region ?_)))
      refine L_cons rfl (O_assign (v := .int .i64 0) rfl rfl ?_)
      refine L_nil (thenQ_n (W_block ?_))
      refine W_loopm (fun m_ f_ w_ => ∃ k : Nat, m_ = i - k ∧ (k ≤ i) ∧ f_ 1 = .pointer (some ⟨b1, 0, none⟩) ∧ f_ 3 = .bool true ∧ f_ 4 = .pointer (some ⟨b24, 0, none⟩) ∧ f_ 5 = .int .i64 ((m.comps.length : Nat) : Int) ∧ f_ 6 = .slice a6 (m.comps.length + m.comps.length + m.comps.length + m.shares.length) c6 ∧ f_ 8 = .int .i64 ((i : Nat) : Int) ∧ f_ 9 = .int .i64 ((k : Nat) : Int) ∧ St w (fun _ => False) w_ [blk b24 [.slice a1 m.comps.length c1, .slice a2 m.comps.length c2, .slice a3 m.comps.length c3, .slice a4 m.shares.length c4, .int .i64 (pgEnd m + ((m.shares.length : Nat) : Int))] 45, blk b1 (imgCells m) 26] [rdI b102 (o103 + i * 2) (encR ((apartL m m.shares.length)[i]'(by omega))), arrI encR 2 a6 (apartL m m.shares.length), arrI encR 2 a1 (codesTo m m.comps.length), arrI encR 2 a2 (datasTo m m.comps.length), arrI encR 2 a3 (heapsTo m m.comps.length), arrI encI 1 a4 (shsTo m m.shares.length), arrI encComp 2 m.ca m.comps, arrI encLink 3 m.la m.links, arrI encShare 2 m.sa m.shares, codesI m.comps]) ?_ ?_
      ·exact ⟨_, 0, rfl, by omega, rfl, rfl, rfl, rfl, rfl, rfl, rfl, hs135⟩
      ·intro m146 f143 w144; rintro ⟨k, rfl, hk, e147, e148, e149, e150, e151, e152, e153, hs145⟩
       rewrite [upd_id e147]
       rewrite [upd_id e148]
       rewrite [upd_id e149]
       rewrite [upd_id e150]
       rewrite [upd_id e151]
       rewrite [upd_id e152]
       rewrite [upd_id e153]
       refine W_seq (W_seq (W_region ?_))
       refine L_cons rfl (O_move (v := .int .i64 ((k : Nat) : Int)) rfl rfl ?_)
       refine L_cons rfl (O_move (v := .int .i64 ((i : Nat) : Int)) rfl rfl ?_)
       refine L_cons rfl (O_bin (k := .i64) (k' := .i64) (a := ((k : Nat) : Int)) (b := ((i : Nat) : Int)) rfl rfl rfl b_lss ?_)
       refine L_nil (thenQ_n ?_)
       refine W_cond_d rfl (fun hc154 => ?_) (fun hc154 => ?_)
       ·refine W_skip (thenQ_n (W_seq (W_block (W_seq ?_))))
        have hdd := apart_2 hok (i := i) (k := k) (by omega) (by omega)
        obtain ⟨b155, o156, ha157, hs158⟩ := hs145.elem 1 rfl i (by omega)
        obtain ⟨b159, o160, ha161, hs162⟩ := hs158.elem 2 rfl k (by omega)
        refine W_par' mixed (show St w (fun _ => False) _ [blk b24 [.slice a1 m.comps.length c1, .slice a2 m.comps.length c2, .slice a3 m.comps.length c3, .slice a4 m.shares.length c4, .int .i64 (pgEnd m + ((m.shares.length : Nat) : Int))] 45, blk b1 (imgCells m) 26] [rdI b159 (o160 + k * 2) (encR ((apartL m m.shares.length)[k]'(by omega))), rdI b155 (o156 + i * 2) (encR ((apartL m m.shares.length)[i]'(by omega))), rdI b102 (o103 + i * 2) (encR ((apartL m m.shares.length)[i]'(by omega))), arrI encR 2 a6 (apartL m m.shares.length), arrI encR 2 a1 (codesTo m m.comps.length), arrI encR 2 a2 (datasTo m m.comps.length), arrI encR 2 a3 (heapsTo m m.comps.length), arrI encI 1 a4 (shsTo m m.shares.length), arrI encComp 2 m.ca m.comps, arrI encLink 3 m.la m.links, arrI encShare 2 m.sa m.shares, codesI m.comps] from hs162) (fun i_ => match i_ with | _ => none) (fun i_ => match i_ with | _ => []) (fun i_ => match i_ with | _ => []) (fun i_ => match i_ with | 2 => [0, 1] | 3 => [2] | 4 => [3] | 7 => [5, 6] | 8 => [7] | 9 => [8] | 10 => [4, 9] | 11 => [10] | 12 => [11] | 13 => [11] | 14 => [11, 12, 13] | 15 => [11, 14] | 16 => [11, 15] | 17 => [11] | 18 => [11] | 19 => [11, 17, 18] | 20 => [11, 19] | 21 => [11, 20] | 22 => [11, 16, 21] | 23 => [11, 22] | _ => []) [24, 25, 0, 1, 2, 3, 4, 5, 6, 7, 8, 9, 10, 11, 12, 13, 14, 15, 16, 17, 18, 19, 20, 21, 22, 23, 26, 27, 28, 29, 30, 31, 32, 33, 34, 35, 36, 37, 38, 39, 40, 41, 42, 43, 44, 45, 46, 47, 48, 49] [23] (fun i_ v_ => match i_ with | 0 => v_ = .slice a6 (m.comps.length + m.comps.length + m.comps.length + m.shares.length) c6 | 1 => v_ = .int .i64 ((i : Nat) : Int) | 2 => v_ = .pointer (some ⟨b155, o156 + i * 2, none⟩) | 3 => v_ = .pointer (some ⟨b155, o156 + i * 2, none⟩) | 4 => v_ = .int .i64 (((apartL m m.shares.length)[i]'(by omega)).1) | 5 => v_ = .slice a6 (m.comps.length + m.comps.length + m.comps.length + m.shares.length) c6 | 6 => v_ = .int .i64 ((k : Nat) : Int) | 7 => v_ = .pointer (some ⟨b159, o160 + k * 2, none⟩) | 8 => v_ = .pointer (some ⟨b159, o160 + k * 2 + 1, none⟩) | 9 => v_ = .int .i64 (((apartL m m.shares.length)[k]'(by omega)).2) | 10 => v_ = .bool (decide ((((apartL m m.shares.length)[i]'(by omega)).1) < (((apartL m m.shares.length)[k]'(by omega)).2))) | 11 => v_ = .bool (decide ((((apartL m m.shares.length)[i]'(by omega)).1) < (((apartL m m.shares.length)[k]'(by omega)).2))) | 12 => v_ = if (decide ((((apartL m m.shares.length)[i]'(by omega)).1) < (((apartL m m.shares.length)[k]'(by omega)).2))) = true then .slice a6 (m.comps.length + m.comps.length + m.comps.length + m.shares.length) c6 else undef | 13 => v_ = if (decide ((((apartL m m.shares.length)[i]'(by omega)).1) < (((apartL m m.shares.length)[k]'(by omega)).2))) = true then .int .i64 ((k : Nat) : Int) else undef | 14 => v_ = if (decide ((((apartL m m.shares.length)[i]'(by omega)).1) < (((apartL m m.shares.length)[k]'(by omega)).2))) = true then .pointer (some ⟨b159, o160 + k * 2, none⟩) else undef | 15 => v_ = if (decide ((((apartL m m.shares.length)[i]'(by omega)).1) < (((apartL m m.shares.length)[k]'(by omega)).2))) = true then .pointer (some ⟨b159, o160 + k * 2, none⟩) else undef | 16 => v_ = if (decide ((((apartL m m.shares.length)[i]'(by omega)).1) < (((apartL m m.shares.length)[k]'(by omega)).2))) = true then .int .i64 (((apartL m m.shares.length)[k]'(by omega)).1) else undef | 17 => v_ = if (decide ((((apartL m m.shares.length)[i]'(by omega)).1) < (((apartL m m.shares.length)[k]'(by omega)).2))) = true then .slice a6 (m.comps.length + m.comps.length + m.comps.length + m.shares.length) c6 else undef | 18 => v_ = if (decide ((((apartL m m.shares.length)[i]'(by omega)).1) < (((apartL m m.shares.length)[k]'(by omega)).2))) = true then .int .i64 ((i : Nat) : Int) else undef | 19 => v_ = if (decide ((((apartL m m.shares.length)[i]'(by omega)).1) < (((apartL m m.shares.length)[k]'(by omega)).2))) = true then .pointer (some ⟨b155, o156 + i * 2, none⟩) else undef | 20 => v_ = if (decide ((((apartL m m.shares.length)[i]'(by omega)).1) < (((apartL m m.shares.length)[k]'(by omega)).2))) = true then .pointer (some ⟨b155, o156 + i * 2 + 1, none⟩) else undef | 21 => v_ = if (decide ((((apartL m m.shares.length)[i]'(by omega)).1) < (((apartL m m.shares.length)[k]'(by omega)).2))) = true then .int .i64 (((apartL m m.shares.length)[i]'(by omega)).2) else undef | 22 => v_ = if (decide ((((apartL m m.shares.length)[i]'(by omega)).1) < (((apartL m m.shares.length)[k]'(by omega)).2))) = true then .bool (decide ((((apartL m m.shares.length)[k]'(by omega)).1) < (((apartL m m.shares.length)[i]'(by omega)).2))) else undef | 23 => v_ = .bool ((decide ((((apartL m m.shares.length)[i]'(by omega)).1) < (((apartL m m.shares.length)[k]'(by omega)).2))) && (decide ((((apartL m m.shares.length)[k]'(by omega)).1) < (((apartL m m.shares.length)[i]'(by omega)).2)))) | _ => True) (by kernel_rfl) (by kernel_rfl) ⟨?_, ?_, ?_, ?_, ?_, ?_, ?_, ?_, ?_, ?_, ?_, ?_, ?_, ?_, ?_, ?_, ?_, ?_, ?_, ?_, ?_, ?_, ?_, ?_, trivial⟩ ?_
        ·intro f0_ w0_ X0_ hfr hus hrd hst
         have hb6 : f0_ 6 = .slice a6 (m.comps.length + m.comps.length + m.comps.length + m.shares.length) c6 := (hfr 6 rfl)
         refine og_none rfl (O_move (v := .slice a6 (m.comps.length + m.comps.length + m.comps.length + m.shares.length) c6) hb6 rfl ?_)
         exact ⟨.slice a6 (m.comps.length + m.comps.length + m.comps.length + m.shares.length) c6, rfl, rfl, hst⟩
        ·intro f1_ w1_ X1_ hfr hus hrd hst
         have hb8 : f1_ 8 = .int .i64 ((i : Nat) : Int) := (hfr 8 rfl)
         refine og_none rfl (O_move (v := .int .i64 ((i : Nat) : Int)) hb8 rfl ?_)
         exact ⟨.int .i64 ((i : Nat) : Int), rfl, rfl, hst⟩
        ·intro f2_ w2_ X2_ hfr hus hrd hst
         obtain ⟨hu0, hu1, -⟩ := hus
         have hu0 : f2_ 135 = .slice a6 (m.comps.length + m.comps.length + m.comps.length + m.shares.length) c6 := hu0
         have hu1 : f2_ 136 = .int .i64 ((i : Nat) : Int) := hu1
         refine og_none rfl (O_indexAddr_at hu0 ha157 hu1 un42 sz51 (by omega) (by omega) (o' := o156 + i * 2) (by omega) rfl ?_)
         exact ⟨.pointer (some ⟨b155, o156 + i * 2, none⟩), rfl, rfl, hst⟩
        ·intro f3_ w3_ X3_ hfr hus hrd hst
         obtain ⟨hu2, -⟩ := hus
         have hu2 : f3_ 137 = .pointer (some ⟨b155, o156 + i * 2, none⟩) := hu2
         refine og_none rfl (O_indexAddr_arr hu2 rfl un51 sz3 (by omega) (by omega) (o' := o156 + i * 2) (by omega) rfl ?_)
         exact ⟨.pointer (some ⟨b155, o156 + i * 2, none⟩), rfl, rfl, hst⟩
        ·intro f4_ w4_ X4_ hfr hus hrd hst
         obtain ⟨hu3, -⟩ := hus
         have hu3 : f4_ 138 = .pointer (some ⟨b155, o156 + i * 2, none⟩) := hu3
         refine og_none rfl (O_load (v := .int .i64 (((apartL m m.shares.length)[i]'(by omega)).1)) hu3 ag3 ((hst.getR 1 rfl).2 0 _ rfl) rfl ?_)
         exact ⟨.int .i64 (((apartL m m.shares.length)[i]'(by omega)).1), rfl, rfl, hst⟩
        ·intro f5_ w5_ X5_ hfr hus hrd hst
         have hb6 : f5_ 6 = .slice a6 (m.comps.length + m.comps.length + m.comps.length + m.shares.length) c6 := (hfr 6 rfl)
         refine og_none rfl (O_move (v := .slice a6 (m.comps.length + m.comps.length + m.comps.length + m.shares.length) c6) hb6 rfl ?_)
         exact ⟨.slice a6 (m.comps.length + m.comps.length + m.comps.length + m.shares.length) c6, rfl, rfl, hst⟩
        ·intro f6_ w6_ X6_ hfr hus hrd hst
         have hb9 : f6_ 9 = .int .i64 ((k : Nat) : Int) := (hfr 9 rfl)
         refine og_none rfl (O_move (v := .int .i64 ((k : Nat) : Int)) hb9 rfl ?_)
         exact ⟨.int .i64 ((k : Nat) : Int), rfl, rfl, hst⟩
        ·intro f7_ w7_ X7_ hfr hus hrd hst
         obtain ⟨hu5, hu6, -⟩ := hus
         have hu5 : f7_ 140 = .slice a6 (m.comps.length + m.comps.length + m.comps.length + m.shares.length) c6 := hu5
         have hu6 : f7_ 141 = .int .i64 ((k : Nat) : Int) := hu6
         refine og_none rfl (O_indexAddr_at hu5 ha161 hu6 un42 sz51 (by omega) (by omega) (o' := o160 + k * 2) (by omega) rfl ?_)
         exact ⟨.pointer (some ⟨b159, o160 + k * 2, none⟩), rfl, rfl, hst⟩
        ·intro f8_ w8_ X8_ hfr hus hrd hst
         obtain ⟨hu7, -⟩ := hus
         have hu7 : f8_ 142 = .pointer (some ⟨b159, o160 + k * 2, none⟩) := hu7
         refine og_none rfl (O_indexAddr_arr hu7 rfl un51 sz3 (by omega) (by omega) (o' := o160 + k * 2 + 1) (by omega) rfl ?_)
         exact ⟨.pointer (some ⟨b159, o160 + k * 2 + 1, none⟩), rfl, rfl, hst⟩
        ·intro f9_ w9_ X9_ hfr hus hrd hst
         obtain ⟨hu8, -⟩ := hus
         have hu8 : f9_ 143 = .pointer (some ⟨b159, o160 + k * 2 + 1, none⟩) := hu8
         refine og_none rfl (O_load (v := .int .i64 (((apartL m m.shares.length)[k]'(by omega)).2)) hu8 ag3 ((hst.getR 0 rfl).2 1 _ rfl) rfl ?_)
         exact ⟨.int .i64 (((apartL m m.shares.length)[k]'(by omega)).2), rfl, rfl, hst⟩
        ·intro f10_ w10_ X10_ hfr hus hrd hst
         obtain ⟨hu4, hu9, -⟩ := hus
         have hu4 : f10_ 139 = .int .i64 (((apartL m m.shares.length)[i]'(by omega)).1) := hu4
         have hu9 : f10_ 144 = .int .i64 (((apartL m m.shares.length)[k]'(by omega)).2) := hu9
         refine og_none rfl (O_bin (k := .i64) (k' := .i64) (a := (((apartL m m.shares.length)[i]'(by omega)).1)) (b := (((apartL m m.shares.length)[k]'(by omega)).2)) hu4 hu9 rfl b_lss ?_)
         exact ⟨.bool (decide ((((apartL m m.shares.length)[i]'(by omega)).1) < (((apartL m m.shares.length)[k]'(by omega)).2))), rfl, rfl, hst⟩
        ·intro f11_ w11_ X11_ hfr hus hrd hst
         obtain ⟨hu10, -⟩ := hus
         have hu10 : f11_ 145 = .bool (decide ((((apartL m m.shares.length)[i]'(by omega)).1) < (((apartL m m.shares.length)[k]'(by omega)).2))) := hu10
         refine og_none rfl (O_move (v := .bool (decide ((((apartL m m.shares.length)[i]'(by omega)).1) < (((apartL m m.shares.length)[k]'(by omega)).2)))) hu10 rfl ?_)
         exact ⟨.bool (decide ((((apartL m m.shares.length)[i]'(by omega)).1) < (((apartL m m.shares.length)[k]'(by omega)).2))), rfl, rfl, hst⟩
        ·intro f12_ w12_ X12_ hfr hus hrd hst
         obtain ⟨hu11, -⟩ := hus
         have hu11 : f12_ 146 = .bool (decide ((((apartL m m.shares.length)[i]'(by omega)).1) < (((apartL m m.shares.length)[k]'(by omega)).2))) := hu11
         have hb6 : f12_ 6 = .slice a6 (m.comps.length + m.comps.length + m.comps.length + m.shares.length) c6 := (hfr 6 rfl)
         refine og_some rfl (c := (decide ((((apartL m m.shares.length)[i]'(by omega)).1) < (((apartL m m.shares.length)[k]'(by omega)).2)))) hu11 (fun hg163 => ?_) (fun hg163 => ⟨undef, rfl, (if_neg (by rw [hg163]; decide)).symm, hst⟩)
         refine O_move (v := .slice a6 (m.comps.length + m.comps.length + m.comps.length + m.shares.length) c6) hb6 rfl ?_
         exact ⟨.slice a6 (m.comps.length + m.comps.length + m.comps.length + m.shares.length) c6, rfl, (if_pos hg163).symm, hst⟩
        ·intro f13_ w13_ X13_ hfr hus hrd hst
         obtain ⟨hu11, -⟩ := hus
         have hu11 : f13_ 146 = .bool (decide ((((apartL m m.shares.length)[i]'(by omega)).1) < (((apartL m m.shares.length)[k]'(by omega)).2))) := hu11
         have hb9 : f13_ 9 = .int .i64 ((k : Nat) : Int) := (hfr 9 rfl)
         refine og_some rfl (c := (decide ((((apartL m m.shares.length)[i]'(by omega)).1) < (((apartL m m.shares.length)[k]'(by omega)).2)))) hu11 (fun hg164 => ?_) (fun hg164 => ⟨undef, rfl, (if_neg (by rw [hg164]; decide)).symm, hst⟩)
         refine O_move (v := .int .i64 ((k : Nat) : Int)) hb9 rfl ?_
         exact ⟨.int .i64 ((k : Nat) : Int), rfl, (if_pos hg164).symm, hst⟩
        ·intro f14_ w14_ X14_ hfr hus hrd hst
         obtain ⟨hu11, hu12, hu13, -⟩ := hus
         have hu11 : f14_ 146 = .bool (decide ((((apartL m m.shares.length)[i]'(by omega)).1) < (((apartL m m.shares.length)[k]'(by omega)).2))) := hu11
         have hu12 : f14_ 147 = if (decide ((((apartL m m.shares.length)[i]'(by omega)).1) < (((apartL m m.shares.length)[k]'(by omega)).2))) = true then .slice a6 (m.comps.length + m.comps.length + m.comps.length + m.shares.length) c6 else undef := hu12
         have hu13 : f14_ 148 = if (decide ((((apartL m m.shares.length)[i]'(by omega)).1) < (((apartL m m.shares.length)[k]'(by omega)).2))) = true then .int .i64 ((k : Nat) : Int) else undef := hu13
         refine og_some rfl (c := (decide ((((apartL m m.shares.length)[i]'(by omega)).1) < (((apartL m m.shares.length)[k]'(by omega)).2)))) hu11 (fun hg165 => ?_) (fun hg165 => ⟨undef, rfl, (if_neg (by rw [hg165]; decide)).symm, hst⟩)
         refine O_indexAddr_at (Eq.trans hu12 (if_pos hg165)) ha161 (Eq.trans hu13 (if_pos hg165)) un42 sz51 (by omega) (by omega) (o' := o160 + k * 2) (by omega) rfl ?_
         exact ⟨.pointer (some ⟨b159, o160 + k * 2, none⟩), rfl, (if_pos hg165).symm, hst⟩
        ·intro f15_ w15_ X15_ hfr hus hrd hst
         obtain ⟨hu11, hu14, -⟩ := hus
         have hu11 : f15_ 146 = .bool (decide ((((apartL m m.shares.length)[i]'(by omega)).1) < (((apartL m m.shares.length)[k]'(by omega)).2))) := hu11
         have hu14 : f15_ 149 = if (decide ((((apartL m m.shares.length)[i]'(by omega)).1) < (((apartL m m.shares.length)[k]'(by omega)).2))) = true then .pointer (some ⟨b159, o160 + k * 2, none⟩) else undef := hu14
         refine og_some rfl (c := (decide ((((apartL m m.shares.length)[i]'(by omega)).1) < (((apartL m m.shares.length)[k]'(by omega)).2)))) hu11 (fun hg166 => ?_) (fun hg166 => ⟨undef, rfl, (if_neg (by rw [hg166]; decide)).symm, hst⟩)
         refine O_indexAddr_arr (Eq.trans hu14 (if_pos hg166)) rfl un51 sz3 (by omega) (by omega) (o' := o160 + k * 2) (by omega) rfl ?_
         exact ⟨.pointer (some ⟨b159, o160 + k * 2, none⟩), rfl, (if_pos hg166).symm, hst⟩
        ·intro f16_ w16_ X16_ hfr hus hrd hst
         obtain ⟨hu11, hu15, -⟩ := hus
         have hu11 : f16_ 146 = .bool (decide ((((apartL m m.shares.length)[i]'(by omega)).1) < (((apartL m m.shares.length)[k]'(by omega)).2))) := hu11
         have hu15 : f16_ 150 = if (decide ((((apartL m m.shares.length)[i]'(by omega)).1) < (((apartL m m.shares.length)[k]'(by omega)).2))) = true then .pointer (some ⟨b159, o160 + k * 2, none⟩) else undef := hu15
         refine og_some rfl (c := (decide ((((apartL m m.shares.length)[i]'(by omega)).1) < (((apartL m m.shares.length)[k]'(by omega)).2)))) hu11 (fun hg167 => ?_) (fun hg167 => ⟨undef, rfl, (if_neg (by rw [hg167]; decide)).symm, hst⟩)
         refine O_load (v := .int .i64 (((apartL m m.shares.length)[k]'(by omega)).1)) (Eq.trans hu15 (if_pos hg167)) ag3 ((hst.getR 0 rfl).2 0 _ rfl) rfl ?_
         exact ⟨.int .i64 (((apartL m m.shares.length)[k]'(by omega)).1), rfl, (if_pos hg167).symm, hst⟩
        ·intro f17_ w17_ X17_ hfr hus hrd hst
         obtain ⟨hu11, -⟩ := hus
         have hu11 : f17_ 146 = .bool (decide ((((apartL m m.shares.length)[i]'(by omega)).1) < (((apartL m m.shares.length)[k]'(by omega)).2))) := hu11
         have hb6 : f17_ 6 = .slice a6 (m.comps.length + m.comps.length + m.comps.length + m.shares.length) c6 := (hfr 6 rfl)
         refine og_some rfl (c := (decide ((((apartL m m.shares.length)[i]'(by omega)).1) < (((apartL m m.shares.length)[k]'(by omega)).2)))) hu11 (fun hg168 => ?_) (fun hg168 => ⟨undef, rfl, (if_neg (by rw [hg168]; decide)).symm, hst⟩)
         refine O_move (v := .slice a6 (m.comps.length + m.comps.length + m.comps.length + m.shares.length) c6) hb6 rfl ?_
         exact ⟨.slice a6 (m.comps.length + m.comps.length + m.comps.length + m.shares.length) c6, rfl, (if_pos hg168).symm, hst⟩
        ·intro f18_ w18_ X18_ hfr hus hrd hst
         obtain ⟨hu11, -⟩ := hus
         have hu11 : f18_ 146 = .bool (decide ((((apartL m m.shares.length)[i]'(by omega)).1) < (((apartL m m.shares.length)[k]'(by omega)).2))) := hu11
         have hb8 : f18_ 8 = .int .i64 ((i : Nat) : Int) := (hfr 8 rfl)
         refine og_some rfl (c := (decide ((((apartL m m.shares.length)[i]'(by omega)).1) < (((apartL m m.shares.length)[k]'(by omega)).2)))) hu11 (fun hg169 => ?_) (fun hg169 => ⟨undef, rfl, (if_neg (by rw [hg169]; decide)).symm, hst⟩)
         refine O_move (v := .int .i64 ((i : Nat) : Int)) hb8 rfl ?_
         exact ⟨.int .i64 ((i : Nat) : Int), rfl, (if_pos hg169).symm, hst⟩
        ·intro f19_ w19_ X19_ hfr hus hrd hst
         obtain ⟨hu11, hu17, hu18, -⟩ := hus
         have hu11 : f19_ 146 = .bool (decide ((((apartL m m.shares.length)[i]'(by omega)).1) < (((apartL m m.shares.length)[k]'(by omega)).2))) := hu11
         have hu17 : f19_ 152 = if (decide ((((apartL m m.shares.length)[i]'(by omega)).1) < (((apartL m m.shares.length)[k]'(by omega)).2))) = true then .slice a6 (m.comps.length + m.comps.length + m.comps.length + m.shares.length) c6 else undef := hu17
         have hu18 : f19_ 153 = if (decide ((((apartL m m.shares.length)[i]'(by omega)).1) < (((apartL m m.shares.length)[k]'(by omega)).2))) = true then .int .i64 ((i : Nat) : Int) else undef := hu18
         refine og_some rfl (c := (decide ((((apartL m m.shares.length)[i]'(by omega)).1) < (((apartL m m.shares.length)[k]'(by omega)).2)))) hu11 (fun hg170 => ?_) (fun hg170 => ⟨undef, rfl, (if_neg (by rw [hg170]; decide)).symm, hst⟩)
         refine O_indexAddr_at (Eq.trans hu17 (if_pos hg170)) ha157 (Eq.trans hu18 (if_pos hg170)) un42 sz51 (by omega) (by omega) (o' := o156 + i * 2) (by omega) rfl ?_
         exact ⟨.pointer (some ⟨b155, o156 + i * 2, none⟩), rfl, (if_pos hg170).symm, hst⟩
        ·intro f20_ w20_ X20_ hfr hus hrd hst
         obtain ⟨hu11, hu19, -⟩ := hus
         have hu11 : f20_ 146 = .bool (decide ((((apartL m m.shares.length)[i]'(by omega)).1) < (((apartL m m.shares.length)[k]'(by omega)).2))) := hu11
         have hu19 : f20_ 154 = if (decide ((((apartL m m.shares.length)[i]'(by omega)).1) < (((apartL m m.shares.length)[k]'(by omega)).2))) = true then .pointer (some ⟨b155, o156 + i * 2, none⟩) else undef := hu19
         refine og_some rfl (c := (decide ((((apartL m m.shares.length)[i]'(by omega)).1) < (((apartL m m.shares.length)[k]'(by omega)).2)))) hu11 (fun hg171 => ?_) (fun hg171 => ⟨undef, rfl, (if_neg (by rw [hg171]; decide)).symm, hst⟩)
         refine O_indexAddr_arr (Eq.trans hu19 (if_pos hg171)) rfl un51 sz3 (by omega) (by omega) (o' := o156 + i * 2 + 1) (by omega) rfl ?_
         exact ⟨.pointer (some ⟨b155, o156 + i * 2 + 1, none⟩), rfl, (if_pos hg171).symm, hst⟩
        ·intro f21_ w21_ X21_ hfr hus hrd hst
         obtain ⟨hu11, hu20, -⟩ := hus
         have hu11 : f21_ 146 = .bool (decide ((((apartL m m.shares.length)[i]'(by omega)).1) < (((apartL m m.shares.length)[k]'(by omega)).2))) := hu11
         have hu20 : f21_ 155 = if (decide ((((apartL m m.shares.length)[i]'(by omega)).1) < (((apartL m m.shares.length)[k]'(by omega)).2))) = true then .pointer (some ⟨b155, o156 + i * 2 + 1, none⟩) else undef := hu20
         refine og_some rfl (c := (decide ((((apartL m m.shares.length)[i]'(by omega)).1) < (((apartL m m.shares.length)[k]'(by omega)).2)))) hu11 (fun hg172 => ?_) (fun hg172 => ⟨undef, rfl, (if_neg (by rw [hg172]; decide)).symm, hst⟩)
         refine O_load (v := .int .i64 (((apartL m m.shares.length)[i]'(by omega)).2)) (Eq.trans hu20 (if_pos hg172)) ag3 ((hst.getR 1 rfl).2 1 _ rfl) rfl ?_
         exact ⟨.int .i64 (((apartL m m.shares.length)[i]'(by omega)).2), rfl, (if_pos hg172).symm, hst⟩
        ·intro f22_ w22_ X22_ hfr hus hrd hst
         obtain ⟨hu11, hu16, hu21, -⟩ := hus
         have hu11 : f22_ 146 = .bool (decide ((((apartL m m.shares.length)[i]'(by omega)).1) < (((apartL m m.shares.length)[k]'(by omega)).2))) := hu11
         have hu16 : f22_ 151 = if (decide ((((apartL m m.shares.length)[i]'(by omega)).1) < (((apartL m m.shares.length)[k]'(by omega)).2))) = true then .int .i64 (((apartL m m.shares.length)[k]'(by omega)).1) else undef := hu16
         have hu21 : f22_ 156 = if (decide ((((apartL m m.shares.length)[i]'(by omega)).1) < (((apartL m m.shares.length)[k]'(by omega)).2))) = true then .int .i64 (((apartL m m.shares.length)[i]'(by omega)).2) else undef := hu21
         refine og_some rfl (c := (decide ((((apartL m m.shares.length)[i]'(by omega)).1) < (((apartL m m.shares.length)[k]'(by omega)).2)))) hu11 (fun hg173 => ?_) (fun hg173 => ⟨undef, rfl, (if_neg (by rw [hg173]; decide)).symm, hst⟩)
         refine O_bin (k := .i64) (k' := .i64) (a := (((apartL m m.shares.length)[k]'(by omega)).1)) (b := (((apartL m m.shares.length)[i]'(by omega)).2)) (Eq.trans hu16 (if_pos hg173)) (Eq.trans hu21 (if_pos hg173)) rfl b_lss ?_
         exact ⟨.bool (decide ((((apartL m m.shares.length)[k]'(by omega)).1) < (((apartL m m.shares.length)[i]'(by omega)).2))), rfl, (if_pos hg173).symm, hst⟩
        ·intro f23_ w23_ X23_ hfr hus hrd hst
         obtain ⟨hu11, hu22, -⟩ := hus
         have hu11 : f23_ 146 = .bool (decide ((((apartL m m.shares.length)[i]'(by omega)).1) < (((apartL m m.shares.length)[k]'(by omega)).2))) := hu11
         have hu22 : f23_ 157 = if (decide ((((apartL m m.shares.length)[i]'(by omega)).1) < (((apartL m m.shares.length)[k]'(by omega)).2))) = true then .bool (decide ((((apartL m m.shares.length)[k]'(by omega)).1) < (((apartL m m.shares.length)[i]'(by omega)).2))) else undef := hu22
         refine og_none rfl (O_pick hu11 (by simp only [ev, hu22]; exact pick_and _ _) rfl ?_)
         exact ⟨.bool ((decide ((((apartL m m.shares.length)[i]'(by omega)).1) < (((apartL m m.shares.length)[k]'(by omega)).2))) && (decide ((((apartL m m.shares.length)[k]'(by omega)).1) < (((apartL m m.shares.length)[i]'(by omega)).2)))), rfl, rfl, hst⟩
        intro f174 w175 hfr hus hs176
        obtain ⟨hu23, -⟩ := hus
        have hu23 : f174 158 = .bool ((decide ((((apartL m m.shares.length)[i]'(by omega)).1) < (((apartL m m.shares.length)[k]'(by omega)).2))) && (decide ((((apartL m m.shares.length)[k]'(by omega)).1) < (((apartL m m.shares.length)[i]'(by omega)).2)))) := hu23
        have hs176 : St w (fun _ => False) w175 [blk b24 [.slice a1 m.comps.length c1, .slice a2 m.comps.length c2, .slice a3 m.comps.length c3, .slice a4 m.shares.length c4, .int .i64 (pgEnd m + ((m.shares.length : Nat) : Int))] 45, blk b1 (imgCells m) 26] [rdI b159 (o160 + k * 2) (encR ((apartL m m.shares.length)[k]'(by omega))), rdI b155 (o156 + i * 2) (encR ((apartL m m.shares.length)[i]'(by omega))), rdI b102 (o103 + i * 2) (encR ((apartL m m.shares.length)[i]'(by omega))), arrI encR 2 a6 (apartL m m.shares.length), arrI encR 2 a1 (codesTo m m.comps.length), arrI encR 2 a2 (datasTo m m.comps.length), arrI encR 2 a3 (heapsTo m m.comps.length), arrI encI 1 a4 (shsTo m m.shares.length), arrI encComp 2 m.ca m.comps, arrI encLink 3 m.la m.links, arrI encShare 2 m.sa m.shares, codesI m.comps] := hs176
        have e177 : f174 1 = .pointer (some ⟨b1, 0, none⟩) := (hfr 1 rfl)
        rewrite [upd_id e177]
        have e178 : f174 3 = .bool true := (hfr 3 rfl)
        rewrite [upd_id e178]
        have e179 : f174 4 = .pointer (some ⟨b24, 0, none⟩) := (hfr 4 rfl)
        rewrite [upd_id e179]
        have e180 : f174 5 = .int .i64 ((m.comps.length : Nat) : Int) := (hfr 5 rfl)
        rewrite [upd_id e180]
        have e181 : f174 6 = .slice a6 (m.comps.length + m.comps.length + m.comps.length + m.shares.length) c6 := (hfr 6 rfl)
        rewrite [upd_id e181]
        have e182 : f174 8 = .int .i64 ((i : Nat) : Int) := (hfr 8 rfl)
        rewrite [upd_id e182]
        have e183 : f174 9 = .int .i64 ((k : Nat) : Int) := (hfr 9 rfl)
        rewrite [upd_id e183]
        rewrite [upd_id hu23]
        refine thenQ_n ?_
        refine W_cond (t := ((decide ((((apartL m m.shares.length)[i]'(by omega)).1) < (((apartL m m.shares.length)[k]'(by omega)).2))) && (decide ((((apartL m m.shares.length)[k]'(by omega)).1) < (((apartL m m.shares.length)[i]'(by omega)).2))))) rfl (fun hc184 => absurd hc184 (by rw [ap_D hdd]; simp)) (fun hc184 => ?_)
        refine W_skip (blockQ_n (thenQ_n (W_region ?_)))
        refine L_cons rfl (O_move (v := .int .i64 ((k : Nat) : Int)) rfl rfl ?_)
        refine L_cons rfl (O_bin (v := .int .i64 ((k + 1 : Nat) : Int)) rfl rfl rfl (b_add (wrap_i64e (by omega) (by omega))) ?_)
        refine L_cons rfl (O_assign (v := .int .i64 ((k + 1 : Nat) : Int)) rfl rfl ?_)
        refine L_nil (thenQ_n ?_)
        refine ⟨_, ?_, k + 1, rfl, by omega, rfl, rfl, rfl, rfl, rfl, rfl, rfl, hs176.popR.popR⟩
        omega
       ·refine W_exit (thenQ_e (thenQ_e (blockQ_x (blockQ_n (thenQ_n (W_region ?_))))))
        refine L_cons rfl (O_move (v := .int .i64 ((i : Nat) : Int)) rfl rfl ?_)
        refine L_cons rfl (O_bin (v := .int .i64 ((i + 1 : Nat) : Int)) rfl rfl rfl (b_add (wrap_i64e (by omega) (by omega))) ?_)
        refine L_cons rfl (O_assign (v := .int .i64 ((i + 1 : Nat) : Int)) rfl rfl ?_)
        refine L_nil (thenQ_n ?_)
        refine ⟨_, ?_, i + 1, rfl, by omega, rfl, rfl, rfl, rfl, rfl, rfl, hs145.popR⟩
        omega
     ·refine W_exit (thenQ_e (thenQ_e (blockQ_x (thenQ_n (W_seq (W_seq (W_region ?_)))))))
      refine L_cons rfl (O_assign (v := .int .i64 0) rfl rfl ?_)
      refine L_nil (thenQ_n (W_block ?_))
      refine W_loopm (fun m_ f_ w_ => ∃ i : Nat, m_ = m.comps.length - i ∧ (i ≤ m.comps.length) ∧ f_ 1 = .pointer (some ⟨b1, 0, none⟩) ∧ f_ 3 = .bool true ∧ f_ 4 = .pointer (some ⟨b24, 0, none⟩) ∧ f_ 5 = .int .i64 ((m.comps.length : Nat) : Int) ∧ f_ 10 = .int .i64 ((i : Nat) : Int) ∧ St w (fun _ => False) w_ [blk b24 [.slice a1 m.comps.length c1, .slice a2 m.comps.length c2, .slice a3 m.comps.length c3, .slice a4 m.shares.length c4, .int .i64 (pgEnd m + ((m.shares.length : Nat) : Int))] 45, blk b1 (imgCells m) 26] [arrI encR 2 a6 (apartL m m.shares.length), arrI encR 2 a1 (codesTo m m.comps.length), arrI encR 2 a2 (datasTo m m.comps.length), arrI encR 2 a3 (heapsTo m m.comps.length), arrI encI 1 a4 (shsTo m m.shares.length), arrI encComp 2 m.ca m.comps, arrI encLink 3 m.la m.links, arrI encShare 2 m.sa m.shares, codesI m.comps]) ?_ ?_
      ·exact ⟨_, 0, rfl, by omega, rfl, rfl, rfl, rfl, rfl, hs93⟩
      ·intro m188 f185 w186; rintro ⟨i, rfl, hi2, e189, e190, e191, e192, e193, hs187⟩
       rewrite [upd_id e189]
       rewrite [upd_id e190]
       rewrite [upd_id e191]
       rewrite [upd_id e192]
       rewrite [upd_id e193]
       refine W_seq (W_seq (W_region ?_))
       refine L_cons rfl (O_move (v := .int .i64 ((i : Nat) : Int)) rfl rfl ?_)
       refine L_cons rfl (O_move (v := .int .i64 ((m.comps.length : Nat) : Int)) rfl rfl ?_)
       refine L_cons rfl (O_bin (k := .i64) (k' := .i64) (a := ((i : Nat) : Int)) (b := ((m.comps.length : Nat) : Int)) rfl rfl rfl b_lss ?_)
       refine L_nil (thenQ_n ?_)
       refine W_cond_d rfl (fun hc194 => ?_) (fun hc194 => ?_)
       ·refine W_skip (thenQ_n (W_seq (W_block (W_seq ?_))))
        have hsb := lay_b hok (i := i) (by omega)
        have hcm := cmpOk hok (i := i) (by omega)
        have := hcm.d1; have := hcm.d8; have := hcm.lm
        obtain ⟨b195, o196, ha197, hs198⟩ := hs187.elem 1 rfl i (by rw [codesTo_len]; omega)
        rw [codesTo_get] at hs198
        obtain ⟨b199, o200, ha201, hs202⟩ := hs198.elem 6 rfl i (by omega)
        rw [← compAt_get (m := m) (k := i) (by omega)] at hs202
        obtain ⟨b203, o204, ha205, hs206⟩ := hs202.elem 4 rfl i (by rw [datasTo_len]; omega)
        rw [datasTo_get] at hs206
        obtain ⟨b207, o208, ha209, hs210⟩ := hs206.elem 6 rfl i (by rw [heapsTo_len]; omega)
        rw [heapsTo_get] at hs210
        refine W_par' mixed (show St w (fun _ => False) _ [blk b24 [.slice a1 m.comps.length c1, .slice a2 m.comps.length c2, .slice a3 m.comps.length c3, .slice a4 m.shares.length c4, .int .i64 (pgEnd m + ((m.shares.length : Nat) : Int))] 45, blk b1 (imgCells m) 26] [rdI b207 (o208 + i * 2) (encR (heapAt m i)), rdI b203 (o204 + i * 2) (encR (dataAt m i)), rdI b199 (o200 + i * 2) (encComp (compAt m i)), rdI b195 (o196 + i * 2) (encR (codeAt m i)), arrI encR 2 a6 (apartL m m.shares.length), arrI encR 2 a1 (codesTo m m.comps.length), arrI encR 2 a2 (datasTo m m.comps.length), arrI encR 2 a3 (heapsTo m m.comps.length), arrI encI 1 a4 (shsTo m m.shares.length), arrI encComp 2 m.ca m.comps, arrI encLink 3 m.la m.links, arrI encShare 2 m.sa m.shares, codesI m.comps] from hs210) (fun i_ => match i_ with | _ => none) (fun i_ => match i_ with | _ => []) (fun i_ => match i_ with | 1 => [63] | 7 => [63] | 14 => [64] | 23 => [63] | 29 => [63] | 36 => [64] | 46 => [63] | 52 => [63] | 59 => [64] | _ => []) (fun i_ => match i_ with | 1 => [0] | 3 => [1, 2] | 4 => [3] | 5 => [4] | 7 => [6] | 9 => [7, 8] | 10 => [9] | 11 => [10] | 12 => [5, 11] | 14 => [13] | 16 => [14, 15] | 17 => [16] | 18 => [17] | 19 => [18] | 20 => [12, 19] | 21 => [20] | 22 => [21] | 23 => [21, 22] | 24 => [21] | 25 => [21, 23, 24] | 26 => [21, 25] | 27 => [21, 26] | 28 => [21] | 29 => [21, 28] | 30 => [21] | 31 => [21, 29, 30] | 32 => [21, 31] | 33 => [21, 32] | 34 => [21, 27, 33] | 35 => [21] | 36 => [21, 35] | 37 => [21] | 38 => [21, 36, 37] | 39 => [21, 38] | 40 => [21, 39] | 41 => [21, 40] | 42 => [21, 34, 41] | 43 => [21, 42] | 44 => [43] | 45 => [44] | 46 => [44, 45] | 47 => [44] | 48 => [44, 46, 47] | 49 => [44, 48] | 50 => [44, 49] | 51 => [44] | 52 => [44, 51] | 53 => [44] | 54 => [44, 52, 53] | 55 => [44, 54] | 56 => [44, 55] | 57 => [44, 50, 56] | 58 => [44] | 59 => [44, 58] | 60 => [44, 59] | 61 => [44, 57, 60] | 62 => [44, 61] | _ => []) [63, 64, 0, 1, 2, 3, 4, 5, 6, 7, 8, 9, 10, 11, 12, 13, 14, 15, 16, 17, 18, 19, 20, 21, 22, 23, 24, 25, 26, 27, 28, 29, 30, 31, 32, 33, 34, 35, 36, 37, 38, 39, 40, 41, 42, 43, 44, 45, 46, 47, 48, 49, 50, 51, 52, 53, 54, 55, 56, 57, 58, 59, 60, 61, 62, 65, 66, 67, 68, 69, 70, 71, 72, 73, 74, 75, 76, 77, 78, 79, 80, 81, 82, 83, 84, 85, 86, 87, 88, 89, 90, 91, 92, 93, 94, 95, 96, 97, 98, 99, 100, 101, 102, 103, 104, 105, 106, 107, 108, 109, 110, 111, 112, 113, 114, 115, 116, 117, 118, 119, 120, 121, 122, 123, 124, 125, 126, 127] [62] (fun i_ v_ => match i_ with | 0 => v_ = .pointer (some ⟨b24, 0, none⟩) | 1 => v_ = .slice a1 m.comps.length c1 | 2 => v_ = .int .i64 ((i : Nat) : Int) | 3 => v_ = .pointer (some ⟨b195, o196 + i * 2, none⟩) | 4 => v_ = .pointer (some ⟨b195, o196 + i * 2 + 1, none⟩) | 5 => v_ = .int .i64 ((codeAt m i).2) | 6 => v_ = .pointer (some ⟨b24, 0, none⟩) | 7 => v_ = .slice a1 m.comps.length c1 | 8 => v_ = .int .i64 ((i : Nat) : Int) | 9 => v_ = .pointer (some ⟨b195, o196 + i * 2, none⟩) | 10 => v_ = .pointer (some ⟨b195, o196 + i * 2, none⟩) | 11 => v_ = .int .i64 ((codeAt m i).1) | 12 => v_ = .int .i64 (((codeAt m i).2) - ((codeAt m i).1)) | 13 => v_ = .pointer (some ⟨b1, 3, none⟩) | 14 => v_ = .slice m.ca m.comps.length m.ccap | 15 => v_ = .int .i64 ((i : Nat) : Int) | 16 => v_ = .pointer (some ⟨b199, o200 + i * 2, none⟩) | 17 => v_ = .pointer (some ⟨b199, o200 + i * 2, none⟩) | 18 => v_ = .slice ((compAt m i).a) ((compAt m i).code.length) ((compAt m i).cap) | 19 => v_ = .int .i64 (((compAt m i).code.length : Nat) : Int) | 20 => v_ = .bool (decide ((((codeAt m i).2) - ((codeAt m i).1)) ≠ (((compAt m i).code.length : Nat) : Int))) | 21 => v_ = .bool (decide ((((codeAt m i).2) - ((codeAt m i).1)) ≠ (((compAt m i).code.length : Nat) : Int))) | 22 => v_ = if (decide ((((codeAt m i).2) - ((codeAt m i).1)) ≠ (((compAt m i).code.length : Nat) : Int))) = false then .pointer (some ⟨b24, 1, none⟩) else undef | 23 => v_ = if (decide ((((codeAt m i).2) - ((codeAt m i).1)) ≠ (((compAt m i).code.length : Nat) : Int))) = false then .slice a2 m.comps.length c2 else undef | 24 => v_ = if (decide ((((codeAt m i).2) - ((codeAt m i).1)) ≠ (((compAt m i).code.length : Nat) : Int))) = false then .int .i64 ((i : Nat) : Int) else undef | 25 => v_ = if (decide ((((codeAt m i).2) - ((codeAt m i).1)) ≠ (((compAt m i).code.length : Nat) : Int))) = false then .pointer (some ⟨b203, o204 + i * 2, none⟩) else undef | 26 => v_ = if (decide ((((codeAt m i).2) - ((codeAt m i).1)) ≠ (((compAt m i).code.length : Nat) : Int))) = false then .pointer (some ⟨b203, o204 + i * 2 + 1, none⟩) else undef | 27 => v_ = if (decide ((((codeAt m i).2) - ((codeAt m i).1)) ≠ (((compAt m i).code.length : Nat) : Int))) = false then .int .i64 ((dataAt m i).2) else undef | 28 => v_ = if (decide ((((codeAt m i).2) - ((codeAt m i).1)) ≠ (((compAt m i).code.length : Nat) : Int))) = false then .pointer (some ⟨b24, 1, none⟩) else undef | 29 => v_ = if (decide ((((codeAt m i).2) - ((codeAt m i).1)) ≠ (((compAt m i).code.length : Nat) : Int))) = false then .slice a2 m.comps.length c2 else undef | 30 => v_ = if (decide ((((codeAt m i).2) - ((codeAt m i).1)) ≠ (((compAt m i).code.length : Nat) : Int))) = false then .int .i64 ((i : Nat) : Int) else undef | 31 => v_ = if (decide ((((codeAt m i).2) - ((codeAt m i).1)) ≠ (((compAt m i).code.length : Nat) : Int))) = false then .pointer (some ⟨b203, o204 + i * 2, none⟩) else undef | 32 => v_ = if (decide ((((codeAt m i).2) - ((codeAt m i).1)) ≠ (((compAt m i).code.length : Nat) : Int))) = false then .pointer (some ⟨b203, o204 + i * 2, none⟩) else undef | 33 => v_ = if (decide ((((codeAt m i).2) - ((codeAt m i).1)) ≠ (((compAt m i).code.length : Nat) : Int))) = false then .int .i64 ((dataAt m i).1) else undef | 34 => v_ = if (decide ((((codeAt m i).2) - ((codeAt m i).1)) ≠ (((compAt m i).code.length : Nat) : Int))) = false then .int .i64 (((dataAt m i).2) - ((dataAt m i).1)) else undef | 35 => v_ = if (decide ((((codeAt m i).2) - ((codeAt m i).1)) ≠ (((compAt m i).code.length : Nat) : Int))) = false then .pointer (some ⟨b1, 3, none⟩) else undef | 36 => v_ = if (decide ((((codeAt m i).2) - ((codeAt m i).1)) ≠ (((compAt m i).code.length : Nat) : Int))) = false then .slice m.ca m.comps.length m.ccap else undef | 37 => v_ = if (decide ((((codeAt m i).2) - ((codeAt m i).1)) ≠ (((compAt m i).code.length : Nat) : Int))) = false then .int .i64 ((i : Nat) : Int) else undef | 38 => v_ = if (decide ((((codeAt m i).2) - ((codeAt m i).1)) ≠ (((compAt m i).code.length : Nat) : Int))) = false then .pointer (some ⟨b199, o200 + i * 2, none⟩) else undef | 39 => v_ = if (decide ((((codeAt m i).2) - ((codeAt m i).1)) ≠ (((compAt m i).code.length : Nat) : Int))) = false then .pointer (some ⟨b199, o200 + i * 2 + 1, none⟩) else undef | 40 => v_ = if (decide ((((codeAt m i).2) - ((codeAt m i).1)) ≠ (((compAt m i).code.length : Nat) : Int))) = false then .int .i64 ((compAt m i).data) else undef | 41 => v_ = if (decide ((((codeAt m i).2) - ((codeAt m i).1)) ≠ (((compAt m i).code.length : Nat) : Int))) = false then .int .i64 (256 * (compAt m i).data) else undef | 42 => v_ = if (decide ((((codeAt m i).2) - ((codeAt m i).1)) ≠ (((compAt m i).code.length : Nat) : Int))) = false then .bool (decide ((((dataAt m i).2) - ((dataAt m i).1)) ≠ (256 * (compAt m i).data))) else undef | 43 => v_ = .bool ((decide ((((codeAt m i).2) - ((codeAt m i).1)) ≠ (((compAt m i).code.length : Nat) : Int))) || (decide ((((dataAt m i).2) - ((dataAt m i).1)) ≠ (256 * (compAt m i).data)))) | 44 => v_ = .bool ((decide ((((codeAt m i).2) - ((codeAt m i).1)) ≠ (((compAt m i).code.length : Nat) : Int))) || (decide ((((dataAt m i).2) - ((dataAt m i).1)) ≠ (256 * (compAt m i).data)))) | 45 => v_ = if ((decide ((((codeAt m i).2) - ((codeAt m i).1)) ≠ (((compAt m i).code.length : Nat) : Int))) || (decide ((((dataAt m i).2) - ((dataAt m i).1)) ≠ (256 * (compAt m i).data)))) = false then .pointer (some ⟨b24, 2, none⟩) else undef | 46 => v_ = if ((decide ((((codeAt m i).2) - ((codeAt m i).1)) ≠ (((compAt m i).code.length : Nat) : Int))) || (decide ((((dataAt m i).2) - ((dataAt m i).1)) ≠ (256 * (compAt m i).data)))) = false then .slice a3 m.comps.length c3 else undef | 47 => v_ = if ((decide ((((codeAt m i).2) - ((codeAt m i).1)) ≠ (((compAt m i).code.length : Nat) : Int))) || (decide ((((dataAt m i).2) - ((dataAt m i).1)) ≠ (256 * (compAt m i).data)))) = false then .int .i64 ((i : Nat) : Int) else undef | 48 => v_ = if ((decide ((((codeAt m i).2) - ((codeAt m i).1)) ≠ (((compAt m i).code.length : Nat) : Int))) || (decide ((((dataAt m i).2) - ((dataAt m i).1)) ≠ (256 * (compAt m i).data)))) = false then .pointer (some ⟨b207, o208 + i * 2, none⟩) else undef | 49 => v_ = if ((decide ((((codeAt m i).2) - ((codeAt m i).1)) ≠ (((compAt m i).code.length : Nat) : Int))) || (decide ((((dataAt m i).2) - ((dataAt m i).1)) ≠ (256 * (compAt m i).data)))) = false then .pointer (some ⟨b207, o208 + i * 2 + 1, none⟩) else undef | 50 => v_ = if ((decide ((((codeAt m i).2) - ((codeAt m i).1)) ≠ (((compAt m i).code.length : Nat) : Int))) || (decide ((((dataAt m i).2) - ((dataAt m i).1)) ≠ (256 * (compAt m i).data)))) = false then .int .i64 ((heapAt m i).2) else undef | 51 => v_ = if ((decide ((((codeAt m i).2) - ((codeAt m i).1)) ≠ (((compAt m i).code.length : Nat) : Int))) || (decide ((((dataAt m i).2) - ((dataAt m i).1)) ≠ (256 * (compAt m i).data)))) = false then .pointer (some ⟨b24, 2, none⟩) else undef | 52 => v_ = if ((decide ((((codeAt m i).2) - ((codeAt m i).1)) ≠ (((compAt m i).code.length : Nat) : Int))) || (decide ((((dataAt m i).2) - ((dataAt m i).1)) ≠ (256 * (compAt m i).data)))) = false then .slice a3 m.comps.length c3 else undef | 53 => v_ = if ((decide ((((codeAt m i).2) - ((codeAt m i).1)) ≠ (((compAt m i).code.length : Nat) : Int))) || (decide ((((dataAt m i).2) - ((dataAt m i).1)) ≠ (256 * (compAt m i).data)))) = false then .int .i64 ((i : Nat) : Int) else undef | 54 => v_ = if ((decide ((((codeAt m i).2) - ((codeAt m i).1)) ≠ (((compAt m i).code.length : Nat) : Int))) || (decide ((((dataAt m i).2) - ((dataAt m i).1)) ≠ (256 * (compAt m i).data)))) = false then .pointer (some ⟨b207, o208 + i * 2, none⟩) else undef | 55 => v_ = if ((decide ((((codeAt m i).2) - ((codeAt m i).1)) ≠ (((compAt m i).code.length : Nat) : Int))) || (decide ((((dataAt m i).2) - ((dataAt m i).1)) ≠ (256 * (compAt m i).data)))) = false then .pointer (some ⟨b207, o208 + i * 2, none⟩) else undef | 56 => v_ = if ((decide ((((codeAt m i).2) - ((codeAt m i).1)) ≠ (((compAt m i).code.length : Nat) : Int))) || (decide ((((dataAt m i).2) - ((dataAt m i).1)) ≠ (256 * (compAt m i).data)))) = false then .int .i64 ((heapAt m i).1) else undef | 57 => v_ = if ((decide ((((codeAt m i).2) - ((codeAt m i).1)) ≠ (((compAt m i).code.length : Nat) : Int))) || (decide ((((dataAt m i).2) - ((dataAt m i).1)) ≠ (256 * (compAt m i).data)))) = false then .int .i64 (((heapAt m i).2) - ((heapAt m i).1)) else undef | 58 => v_ = if ((decide ((((codeAt m i).2) - ((codeAt m i).1)) ≠ (((compAt m i).code.length : Nat) : Int))) || (decide ((((dataAt m i).2) - ((dataAt m i).1)) ≠ (256 * (compAt m i).data)))) = false then .pointer (some ⟨b1, 1, none⟩) else undef | 59 => v_ = if ((decide ((((codeAt m i).2) - ((codeAt m i).1)) ≠ (((compAt m i).code.length : Nat) : Int))) || (decide ((((dataAt m i).2) - ((dataAt m i).1)) ≠ (256 * (compAt m i).data)))) = false then .int .i64 m.heap else undef | 60 => v_ = if ((decide ((((codeAt m i).2) - ((codeAt m i).1)) ≠ (((compAt m i).code.length : Nat) : Int))) || (decide ((((dataAt m i).2) - ((dataAt m i).1)) ≠ (256 * (compAt m i).data)))) = false then .int .i64 (256 * m.heap) else undef | 61 => v_ = if ((decide ((((codeAt m i).2) - ((codeAt m i).1)) ≠ (((compAt m i).code.length : Nat) : Int))) || (decide ((((dataAt m i).2) - ((dataAt m i).1)) ≠ (256 * (compAt m i).data)))) = false then .bool (decide ((((heapAt m i).2) - ((heapAt m i).1)) ≠ (256 * m.heap))) else undef | 62 => v_ = .bool (((decide ((((codeAt m i).2) - ((codeAt m i).1)) ≠ (((compAt m i).code.length : Nat) : Int))) || (decide ((((dataAt m i).2) - ((dataAt m i).1)) ≠ (256 * (compAt m i).data)))) || (decide ((((heapAt m i).2) - ((heapAt m i).1)) ≠ (256 * m.heap)))) | _ => True) (by kernel_rfl) (by kernel_rfl) ⟨?_, ?_, ?_, ?_, ?_, ?_, ?_, ?_, ?_, ?_, ?_, ?_, ?_, ?_, ?_, ?_, ?_, ?_, ?_, ?_, ?_, ?_, ?_, ?_, ?_, ?_, ?_, ?_, ?_, ?_, ?_, ?_, ?_, ?_, ?_, ?_, ?_, ?_, ?_, ?_, ?_, ?_, ?_, ?_, ?_, ?_, ?_, ?_, ?_, ?_, ?_, ?_, ?_, ?_, ?_, ?_, ?_, ?_, ?_, ?_, ?_, ?_, ?_, trivial⟩ ?_
        ·intro f0_ w0_ X0_ hfr hus hrd hst
         have hb4 : f0_ 4 = .pointer (some ⟨b24, 0, none⟩) := (hfr 4 rfl)
         refine og_none rfl (O_fieldAddr hb4 fd45_0 rfl (o' := 0) rfl rfl ?_)
         exact ⟨.pointer (some ⟨b24, 0, none⟩), rfl, rfl, hst⟩
        ·intro f1_ w1_ X1_ hfr hus hrd hst
         obtain ⟨hu0, -⟩ := hus
         have hu0 : f1_ 164 = .pointer (some ⟨b24, 0, none⟩) := hu0
         obtain ⟨hr63, -⟩ := hrd
         have hr63 : Item.φ (blk b24 [.slice a1 m.comps.length c1, .slice a2 m.comps.length c2, .slice a3 m.comps.length c3, .slice a4 m.shares.length c4, .int .i64 (pgEnd m + ((m.shares.length : Nat) : Int))] 45) w1_ := hr63
         refine og_none rfl (O_load (v := .slice a1 m.comps.length c1) hu0 ag42 (cell_of_blk (hr63) rfl) rfl ?_)
         exact ⟨.slice a1 m.comps.length c1, rfl, rfl, hst⟩
        ·intro f2_ w2_ X2_ hfr hus hrd hst
         have hb10 : f2_ 10 = .int .i64 ((i : Nat) : Int) := (hfr 10 rfl)
         refine og_none rfl (O_move (v := .int .i64 ((i : Nat) : Int)) hb10 rfl ?_)
         exact ⟨.int .i64 ((i : Nat) : Int), rfl, rfl, hst⟩
        ·intro f3_ w3_ X3_ hfr hus hrd hst
         obtain ⟨hu1, hu2, -⟩ := hus
         have hu1 : f3_ 165 = .slice a1 m.comps.length c1 := hu1
         have hu2 : f3_ 166 = .int .i64 ((i : Nat) : Int) := hu2
         refine og_none rfl (O_indexAddr_at hu1 ha197 hu2 un42 sz51 (by omega) (by omega) (o' := o196 + i * 2) (by omega) rfl ?_)
         exact ⟨.pointer (some ⟨b195, o196 + i * 2, none⟩), rfl, rfl, hst⟩
        ·intro f4_ w4_ X4_ hfr hus hrd hst
         obtain ⟨hu3, -⟩ := hus
         have hu3 : f4_ 167 = .pointer (some ⟨b195, o196 + i * 2, none⟩) := hu3
         refine og_none rfl (O_indexAddr_arr hu3 rfl un51 sz3 (by omega) (by omega) (o' := o196 + i * 2 + 1) (by omega) rfl ?_)
         exact ⟨.pointer (some ⟨b195, o196 + i * 2 + 1, none⟩), rfl, rfl, hst⟩
        ·intro f5_ w5_ X5_ hfr hus hrd hst
         obtain ⟨hu4, -⟩ := hus
         have hu4 : f5_ 168 = .pointer (some ⟨b195, o196 + i * 2 + 1, none⟩) := hu4
         refine og_none rfl (O_load (v := .int .i64 ((codeAt m i).2)) hu4 ag3 ((hst.getR 3 rfl).2 1 _ rfl) rfl ?_)
         exact ⟨.int .i64 ((codeAt m i).2), rfl, rfl, hst⟩
        ·intro f6_ w6_ X6_ hfr hus hrd hst
         have hb4 : f6_ 4 = .pointer (some ⟨b24, 0, none⟩) := (hfr 4 rfl)
         refine og_none rfl (O_fieldAddr hb4 fd45_0 rfl (o' := 0) rfl rfl ?_)
         exact ⟨.pointer (some ⟨b24, 0, none⟩), rfl, rfl, hst⟩
        ·intro f7_ w7_ X7_ hfr hus hrd hst
         obtain ⟨hu6, -⟩ := hus
         have hu6 : f7_ 170 = .pointer (some ⟨b24, 0, none⟩) := hu6
         obtain ⟨hr63, -⟩ := hrd
         have hr63 : Item.φ (blk b24 [.slice a1 m.comps.length c1, .slice a2 m.comps.length c2, .slice a3 m.comps.length c3, .slice a4 m.shares.length c4, .int .i64 (pgEnd m + ((m.shares.length : Nat) : Int))] 45) w7_ := hr63
         refine og_none rfl (O_load (v := .slice a1 m.comps.length c1) hu6 ag42 (cell_of_blk (hr63) rfl) rfl ?_)
         exact ⟨.slice a1 m.comps.length c1, rfl, rfl, hst⟩
        ·intro f8_ w8_ X8_ hfr hus hrd hst
         have hb10 : f8_ 10 = .int .i64 ((i : Nat) : Int) := (hfr 10 rfl)
         refine og_none rfl (O_move (v := .int .i64 ((i : Nat) : Int)) hb10 rfl ?_)
         exact ⟨.int .i64 ((i : Nat) : Int), rfl, rfl, hst⟩
        ·intro f9_ w9_ X9_ hfr hus hrd hst
         obtain ⟨hu7, hu8, -⟩ := hus
         have hu7 : f9_ 171 = .slice a1 m.comps.length c1 := hu7
         have hu8 : f9_ 172 = .int .i64 ((i : Nat) : Int) := hu8
         refine og_none rfl (O_indexAddr_at hu7 ha197 hu8 un42 sz51 (by omega) (by omega) (o' := o196 + i * 2) (by omega) rfl ?_)
         exact ⟨.pointer (some ⟨b195, o196 + i * 2, none⟩), rfl, rfl, hst⟩
        ·intro f10_ w10_ X10_ hfr hus hrd hst
         obtain ⟨hu9, -⟩ := hus
         have hu9 : f10_ 173 = .pointer (some ⟨b195, o196 + i * 2, none⟩) := hu9
         refine og_none rfl (O_indexAddr_arr hu9 rfl un51 sz3 (by omega) (by omega) (o' := o196 + i * 2) (by omega) rfl ?_)
         exact ⟨.pointer (some ⟨b195, o196 + i * 2, none⟩), rfl, rfl, hst⟩
        ·intro f11_ w11_ X11_ hfr hus hrd hst
         obtain ⟨hu10, -⟩ := hus
         have hu10 : f11_ 174 = .pointer (some ⟨b195, o196 + i * 2, none⟩) := hu10
         refine og_none rfl (O_load (v := .int .i64 ((codeAt m i).1)) hu10 ag3 ((hst.getR 3 rfl).2 0 _ rfl) rfl ?_)
         exact ⟨.int .i64 ((codeAt m i).1), rfl, rfl, hst⟩
        ·intro f12_ w12_ X12_ hfr hus hrd hst
         obtain ⟨hu5, hu11, -⟩ := hus
         have hu5 : f12_ 169 = .int .i64 ((codeAt m i).2) := hu5
         have hu11 : f12_ 175 = .int .i64 ((codeAt m i).1) := hu11
         refine og_none rfl (O_bin (v := .int .i64 (((codeAt m i).2) - ((codeAt m i).1))) hu5 hu11 rfl (b_sub (wrap_i64e (by omega) (by omega))) ?_)
         exact ⟨.int .i64 (((codeAt m i).2) - ((codeAt m i).1)), rfl, rfl, hst⟩
        ·intro f13_ w13_ X13_ hfr hus hrd hst
         have hb1 : f13_ 1 = .pointer (some ⟨b1, 0, none⟩) := (hfr 1 rfl)
         refine og_none rfl (O_fieldAddr hb1 fd26_3 rfl (o' := 3) rfl rfl ?_)
         exact ⟨.pointer (some ⟨b1, 3, none⟩), rfl, rfl, hst⟩
        ·intro f14_ w14_ X14_ hfr hus hrd hst
         obtain ⟨hu13, -⟩ := hus
         have hu13 : f14_ 177 = .pointer (some ⟨b1, 3, none⟩) := hu13
         obtain ⟨hr64, -⟩ := hrd
         have hr64 : Item.φ (blk b1 (imgCells m) 26) w14_ := hr64
         refine og_none rfl (O_load (v := .slice m.ca m.comps.length m.ccap) hu13 ag22 (cell_of_blk (hr64) rfl) rfl ?_)
         exact ⟨.slice m.ca m.comps.length m.ccap, rfl, rfl, hst⟩
        ·intro f15_ w15_ X15_ hfr hus hrd hst
         have hb10 : f15_ 10 = .int .i64 ((i : Nat) : Int) := (hfr 10 rfl)
         refine og_none rfl (O_move (v := .int .i64 ((i : Nat) : Int)) hb10 rfl ?_)
         exact ⟨.int .i64 ((i : Nat) : Int), rfl, rfl, hst⟩
        ·intro f16_ w16_ X16_ hfr hus hrd hst
         obtain ⟨hu14, hu15, -⟩ := hus
         have hu14 : f16_ 178 = .slice m.ca m.comps.length m.ccap := hu14
         have hu15 : f16_ 179 = .int .i64 ((i : Nat) : Int) := hu15
         refine og_none rfl (O_indexAddr_at hu14 ha201 hu15 un22 sz53 (by omega) (by omega) (o' := o200 + i * 2) (by omega) rfl ?_)
         exact ⟨.pointer (some ⟨b199, o200 + i * 2, none⟩), rfl, rfl, hst⟩
        ·intro f17_ w17_ X17_ hfr hus hrd hst
         obtain ⟨hu16, -⟩ := hus
         have hu16 : f17_ 180 = .pointer (some ⟨b199, o200 + i * 2, none⟩) := hu16
         refine og_none rfl (O_fieldAddr hu16 fd53_0 rfl (o' := o200 + i * 2) rfl rfl ?_)
         exact ⟨.pointer (some ⟨b199, o200 + i * 2, none⟩), rfl, rfl, hst⟩
        ·intro f18_ w18_ X18_ hfr hus hrd hst
         obtain ⟨hu17, -⟩ := hus
         have hu17 : f18_ 181 = .pointer (some ⟨b199, o200 + i * 2, none⟩) := hu17
         refine og_none rfl (O_load (v := .slice ((compAt m i).a) ((compAt m i).code.length) ((compAt m i).cap)) hu17 ag27 ((hst.getR 2 rfl).2 0 _ rfl) rfl ?_)
         exact ⟨.slice ((compAt m i).a) ((compAt m i).code.length) ((compAt m i).cap), rfl, rfl, hst⟩
        ·intro f19_ w19_ X19_ hfr hus hrd hst
         obtain ⟨hu18, -⟩ := hus
         have hu18 : f19_ 182 = .slice ((compAt m i).a) ((compAt m i).code.length) ((compAt m i).cap) := hu18
         refine og_none rfl (O_len_slice (len := ((compAt m i).code.length)) hu18 un27 rfl ?_)
         exact ⟨.int .i64 (((compAt m i).code.length : Nat) : Int), rfl, rfl, hst⟩
        ·intro f20_ w20_ X20_ hfr hus hrd hst
         obtain ⟨hu12, hu19, -⟩ := hus
         have hu12 : f20_ 176 = .int .i64 (((codeAt m i).2) - ((codeAt m i).1)) := hu12
         have hu19 : f20_ 183 = .int .i64 (((compAt m i).code.length : Nat) : Int) := hu19
         refine og_none rfl (O_bin (k := .i64) (k' := .i64) (a := (((codeAt m i).2) - ((codeAt m i).1))) (b := (((compAt m i).code.length : Nat) : Int)) hu12 hu19 rfl b_neq ?_)
         exact ⟨.bool (decide ((((codeAt m i).2) - ((codeAt m i).1)) ≠ (((compAt m i).code.length : Nat) : Int))), rfl, rfl, hst⟩
        ·intro f21_ w21_ X21_ hfr hus hrd hst
         obtain ⟨hu20, -⟩ := hus
         have hu20 : f21_ 184 = .bool (decide ((((codeAt m i).2) - ((codeAt m i).1)) ≠ (((compAt m i).code.length : Nat) : Int))) := hu20
         refine og_none rfl (O_move (v := .bool (decide ((((codeAt m i).2) - ((codeAt m i).1)) ≠ (((compAt m i).code.length : Nat) : Int)))) hu20 rfl ?_)
         exact ⟨.bool (decide ((((codeAt m i).2) - ((codeAt m i).1)) ≠ (((compAt m i).code.length : Nat) : Int))), rfl, rfl, hst⟩
        ·intro f22_ w22_ X22_ hfr hus hrd hst
         obtain ⟨hu21, -⟩ := hus
         have hu21 : f22_ 185 = .bool (decide ((((codeAt m i).2) - ((codeAt m i).1)) ≠ (((compAt m i).code.length : Nat) : Int))) := hu21
         have hb4 : f22_ 4 = .pointer (some ⟨b24, 0, none⟩) := (hfr 4 rfl)
         refine og_some rfl (c := (decide ((((codeAt m i).2) - ((codeAt m i).1)) ≠ (((compAt m i).code.length : Nat) : Int)))) hu21 (fun hg211 => ?_) (fun hg211 => ⟨undef, rfl, (if_neg (by rw [hg211]; decide)).symm, hst⟩)
         refine O_fieldAddr hb4 fd45_1 rfl (o' := 1) rfl rfl ?_
         exact ⟨.pointer (some ⟨b24, 1, none⟩), rfl, (if_pos hg211).symm, hst⟩
        ·intro f23_ w23_ X23_ hfr hus hrd hst
         obtain ⟨hu21, hu22, -⟩ := hus
         have hu21 : f23_ 185 = .bool (decide ((((codeAt m i).2) - ((codeAt m i).1)) ≠ (((compAt m i).code.length : Nat) : Int))) := hu21
         have hu22 : f23_ 186 = if (decide ((((codeAt m i).2) - ((codeAt m i).1)) ≠ (((compAt m i).code.length : Nat) : Int))) = false then .pointer (some ⟨b24, 1, none⟩) else undef := hu22
         obtain ⟨hr63, -⟩ := hrd
         have hr63 : Item.φ (blk b24 [.slice a1 m.comps.length c1, .slice a2 m.comps.length c2, .slice a3 m.comps.length c3, .slice a4 m.shares.length c4, .int .i64 (pgEnd m + ((m.shares.length : Nat) : Int))] 45) w23_ := hr63
         refine og_some rfl (c := (decide ((((codeAt m i).2) - ((codeAt m i).1)) ≠ (((compAt m i).code.length : Nat) : Int)))) hu21 (fun hg212 => ?_) (fun hg212 => ⟨undef, rfl, (if_neg (by rw [hg212]; decide)).symm, hst⟩)
         refine O_load (v := .slice a2 m.comps.length c2) (Eq.trans hu22 (if_pos hg212)) ag42 (cell_of_blk (hr63) rfl) rfl ?_
         exact ⟨.slice a2 m.comps.length c2, rfl, (if_pos hg212).symm, hst⟩
        ·intro f24_ w24_ X24_ hfr hus hrd hst
         obtain ⟨hu21, -⟩ := hus
         have hu21 : f24_ 185 = .bool (decide ((((codeAt m i).2) - ((codeAt m i).1)) ≠ (((compAt m i).code.length : Nat) : Int))) := hu21
         have hb10 : f24_ 10 = .int .i64 ((i : Nat) : Int) := (hfr 10 rfl)
         refine og_some rfl (c := (decide ((((codeAt m i).2) - ((codeAt m i).1)) ≠ (((compAt m i).code.length : Nat) : Int)))) hu21 (fun hg213 => ?_) (fun hg213 => ⟨undef, rfl, (if_neg (by rw [hg213]; decide)).symm, hst⟩)
         refine O_move (v := .int .i64 ((i : Nat) : Int)) hb10 rfl ?_
         exact ⟨.int .i64 ((i : Nat) : Int), rfl, (if_pos hg213).symm, hst⟩
        ·intro f25_ w25_ X25_ hfr hus hrd hst
         obtain ⟨hu21, hu23, hu24, -⟩ := hus
         have hu21 : f25_ 185 = .bool (decide ((((codeAt m i).2) - ((codeAt m i).1)) ≠ (((compAt m i).code.length : Nat) : Int))) := hu21
         have hu23 : f25_ 187 = if (decide ((((codeAt m i).2) - ((codeAt m i).1)) ≠ (((compAt m i).code.length : Nat) : Int))) = false then .slice a2 m.comps.length c2 else undef := hu23
         have hu24 : f25_ 188 = if (decide ((((codeAt m i).2) - ((codeAt m i).1)) ≠ (((compAt m i).code.length : Nat) : Int))) = false then .int .i64 ((i : Nat) : Int) else undef := hu24
         refine og_some rfl (c := (decide ((((codeAt m i).2) - ((codeAt m i).1)) ≠ (((compAt m i).code.length : Nat) : Int)))) hu21 (fun hg214 => ?_) (fun hg214 => ⟨undef, rfl, (if_neg (by rw [hg214]; decide)).symm, hst⟩)
         refine O_indexAddr_at (Eq.trans hu23 (if_pos hg214)) ha205 (Eq.trans hu24 (if_pos hg214)) un42 sz51 (by omega) (by omega) (o' := o204 + i * 2) (by omega) rfl ?_
         exact ⟨.pointer (some ⟨b203, o204 + i * 2, none⟩), rfl, (if_pos hg214).symm, hst⟩
        ·intro f26_ w26_ X26_ hfr hus hrd hst
         obtain ⟨hu21, hu25, -⟩ := hus
         have hu21 : f26_ 185 = .bool (decide ((((codeAt m i).2) - ((codeAt m i).1)) ≠ (((compAt m i).code.length : Nat) : Int))) := hu21
         have hu25 : f26_ 189 = if (decide ((((codeAt m i).2) - ((codeAt m i).1)) ≠ (((compAt m i).code.length : Nat) : Int))) = false then .pointer (some ⟨b203, o204 + i * 2, none⟩) else undef := hu25
         refine og_some rfl (c := (decide ((((codeAt m i).2) - ((codeAt m i).1)) ≠ (((compAt m i).code.length : Nat) : Int)))) hu21 (fun hg215 => ?_) (fun hg215 => ⟨undef, rfl, (if_neg (by rw [hg215]; decide)).symm, hst⟩)
         refine O_indexAddr_arr (Eq.trans hu25 (if_pos hg215)) rfl un51 sz3 (by omega) (by omega) (o' := o204 + i * 2 + 1) (by omega) rfl ?_
         exact ⟨.pointer (some ⟨b203, o204 + i * 2 + 1, none⟩), rfl, (if_pos hg215).symm, hst⟩
        ·intro f27_ w27_ X27_ hfr hus hrd hst
         obtain ⟨hu21, hu26, -⟩ := hus
         have hu21 : f27_ 185 = .bool (decide ((((codeAt m i).2) - ((codeAt m i).1)) ≠ (((compAt m i).code.length : Nat) : Int))) := hu21
         have hu26 : f27_ 190 = if (decide ((((codeAt m i).2) - ((codeAt m i).1)) ≠ (((compAt m i).code.length : Nat) : Int))) = false then .pointer (some ⟨b203, o204 + i * 2 + 1, none⟩) else undef := hu26
         refine og_some rfl (c := (decide ((((codeAt m i).2) - ((codeAt m i).1)) ≠ (((compAt m i).code.length : Nat) : Int)))) hu21 (fun hg216 => ?_) (fun hg216 => ⟨undef, rfl, (if_neg (by rw [hg216]; decide)).symm, hst⟩)
         refine O_load (v := .int .i64 ((dataAt m i).2)) (Eq.trans hu26 (if_pos hg216)) ag3 ((hst.getR 1 rfl).2 1 _ rfl) rfl ?_
         exact ⟨.int .i64 ((dataAt m i).2), rfl, (if_pos hg216).symm, hst⟩
        ·intro f28_ w28_ X28_ hfr hus hrd hst
         obtain ⟨hu21, -⟩ := hus
         have hu21 : f28_ 185 = .bool (decide ((((codeAt m i).2) - ((codeAt m i).1)) ≠ (((compAt m i).code.length : Nat) : Int))) := hu21
         have hb4 : f28_ 4 = .pointer (some ⟨b24, 0, none⟩) := (hfr 4 rfl)
         refine og_some rfl (c := (decide ((((codeAt m i).2) - ((codeAt m i).1)) ≠ (((compAt m i).code.length : Nat) : Int)))) hu21 (fun hg217 => ?_) (fun hg217 => ⟨undef, rfl, (if_neg (by rw [hg217]; decide)).symm, hst⟩)
         refine O_fieldAddr hb4 fd45_1 rfl (o' := 1) rfl rfl ?_
         exact ⟨.pointer (some ⟨b24, 1, none⟩), rfl, (if_pos hg217).symm, hst⟩
        ·intro f29_ w29_ X29_ hfr hus hrd hst
         obtain ⟨hu21, hu28, -⟩ := hus
         have hu21 : f29_ 185 = .bool (decide ((((codeAt m i).2) - ((codeAt m i).1)) ≠ (((compAt m i).code.length : Nat) : Int))) := hu21
         have hu28 : f29_ 192 = if (decide ((((codeAt m i).2) - ((codeAt m i).1)) ≠ (((compAt m i).code.length : Nat) : Int))) = false then .pointer (some ⟨b24, 1, none⟩) else undef := hu28
         obtain ⟨hr63, -⟩ := hrd
         have hr63 : Item.φ (blk b24 [.slice a1 m.comps.length c1, .slice a2 m.comps.length c2, .slice a3 m.comps.length c3, .slice a4 m.shares.length c4, .int .i64 (pgEnd m + ((m.shares.length : Nat) : Int))] 45) w29_ := hr63
         refine og_some rfl (c := (decide ((((codeAt m i).2) - ((codeAt m i).1)) ≠ (((compAt m i).code.length : Nat) : Int)))) hu21 (fun hg218 => ?_) (fun hg218 => ⟨undef, rfl, (if_neg (by rw [hg218]; decide)).symm, hst⟩)
         refine O_load (v := .slice a2 m.comps.length c2) (Eq.trans hu28 (if_pos hg218)) ag42 (cell_of_blk (hr63) rfl) rfl ?_
         exact ⟨.slice a2 m.comps.length c2, rfl, (if_pos hg218).symm, hst⟩
        ·intro f30_ w30_ X30_ hfr hus hrd hst
         obtain ⟨hu21, -⟩ := hus
         have hu21 : f30_ 185 = .bool (decide ((((codeAt m i).2) - ((codeAt m i).1)) ≠ (((compAt m i).code.length : Nat) : Int))) := hu21
         have hb10 : f30_ 10 = .int .i64 ((i : Nat) : Int) := (hfr 10 rfl)
         refine og_some rfl (c := (decide ((((codeAt m i).2) - ((codeAt m i).1)) ≠ (((compAt m i).code.length : Nat) : Int)))) hu21 (fun hg219 => ?_) (fun hg219 => ⟨undef, rfl, (if_neg (by rw [hg219]; decide)).symm, hst⟩)
         refine O_move (v := .int .i64 ((i : Nat) : Int)) hb10 rfl ?_
         exact ⟨.int .i64 ((i : Nat) : Int), rfl, (if_pos hg219).symm, hst⟩
        ·intro f31_ w31_ X31_ hfr hus hrd hst
         obtain ⟨hu21, hu29, hu30, -⟩ := hus
         have hu21 : f31_ 185 = .bool (decide ((((codeAt m i).2) - ((codeAt m i).1)) ≠ (((compAt m i).code.length : Nat) : Int))) := hu21
         have hu29 : f31_ 193 = if (decide ((((codeAt m i).2) - ((codeAt m i).1)) ≠ (((compAt m i).code.length : Nat) : Int))) = false then .slice a2 m.comps.length c2 else undef := hu29
         have hu30 : f31_ 194 = if (decide ((((codeAt m i).2) - ((codeAt m i).1)) ≠ (((compAt m i).code.length : Nat) : Int))) = false then .int .i64 ((i : Nat) : Int) else undef := hu30
         refine og_some rfl (c := (decide ((((codeAt m i).2) - ((codeAt m i).1)) ≠ (((compAt m i).code.length : Nat) : Int)))) hu21 (fun hg220 => ?_) (fun hg220 => ⟨undef, rfl, (if_neg (by rw [hg220]; decide)).symm, hst⟩)
         refine O_indexAddr_at (Eq.trans hu29 (if_pos hg220)) ha205 (Eq.trans hu30 (if_pos hg220)) un42 sz51 (by omega) (by omega) (o' := o204 + i * 2) (by omega) rfl ?_
         exact ⟨.pointer (some ⟨b203, o204 + i * 2, none⟩), rfl, (if_pos hg220).symm, hst⟩
        ·intro f32_ w32_ X32_ hfr hus hrd hst
         obtain ⟨hu21, hu31, -⟩ := hus
         have hu21 : f32_ 185 = .bool (decide ((((codeAt m i).2) - ((codeAt m i).1)) ≠ (((compAt m i).code.length : Nat) : Int))) := hu21
         have hu31 : f32_ 195 = if (decide ((((codeAt m i).2) - ((codeAt m i).1)) ≠ (((compAt m i).code.length : Nat) : Int))) = false then .pointer (some ⟨b203, o204 + i * 2, none⟩) else undef := hu31
         refine og_some rfl (c := (decide ((((codeAt m i).2) - ((codeAt m i).1)) ≠ (((compAt m i).code.length : Nat) : Int)))) hu21 (fun hg221 => ?_) (fun hg221 => ⟨undef, rfl, (if_neg (by rw [hg221]; decide)).symm, hst⟩)
         refine O_indexAddr_arr (Eq.trans hu31 (if_pos hg221)) rfl un51 sz3 (by omega) (by omega) (o' := o204 + i * 2) (by omega) rfl ?_
         exact ⟨.pointer (some ⟨b203, o204 + i * 2, none⟩), rfl, (if_pos hg221).symm, hst⟩
        ·intro f33_ w33_ X33_ hfr hus hrd hst
         obtain ⟨hu21, hu32, -⟩ := hus
         have hu21 : f33_ 185 = .bool (decide ((((codeAt m i).2) - ((codeAt m i).1)) ≠ (((compAt m i).code.length : Nat) : Int))) := hu21
         have hu32 : f33_ 196 = if (decide ((((codeAt m i).2) - ((codeAt m i).1)) ≠ (((compAt m i).code.length : Nat) : Int))) = false then .pointer (some ⟨b203, o204 + i * 2, none⟩) else undef := hu32
         refine og_some rfl (c := (decide ((((codeAt m i).2) - ((codeAt m i).1)) ≠ (((compAt m i).code.length : Nat) : Int)))) hu21 (fun hg222 => ?_) (fun hg222 => ⟨undef, rfl, (if_neg (by rw [hg222]; decide)).symm, hst⟩)
         refine O_load (v := .int .i64 ((dataAt m i).1)) (Eq.trans hu32 (if_pos hg222)) ag3 ((hst.getR 1 rfl).2 0 _ rfl) rfl ?_
         exact ⟨.int .i64 ((dataAt m i).1), rfl, (if_pos hg222).symm, hst⟩
        ·intro f34_ w34_ X34_ hfr hus hrd hst
         obtain ⟨hu21, hu27, hu33, -⟩ := hus
         have hu21 : f34_ 185 = .bool (decide ((((codeAt m i).2) - ((codeAt m i).1)) ≠ (((compAt m i).code.length : Nat) : Int))) := hu21
         have hu27 : f34_ 191 = if (decide ((((codeAt m i).2) - ((codeAt m i).1)) ≠ (((compAt m i).code.length : Nat) : Int))) = false then .int .i64 ((dataAt m i).2) else undef := hu27
         have hu33 : f34_ 197 = if (decide ((((codeAt m i).2) - ((codeAt m i).1)) ≠ (((compAt m i).code.length : Nat) : Int))) = false then .int .i64 ((dataAt m i).1) else undef := hu33
         refine og_some rfl (c := (decide ((((codeAt m i).2) - ((codeAt m i).1)) ≠ (((compAt m i).code.length : Nat) : Int)))) hu21 (fun hg223 => ?_) (fun hg223 => ⟨undef, rfl, (if_neg (by rw [hg223]; decide)).symm, hst⟩)
         refine O_bin (v := .int .i64 (((dataAt m i).2) - ((dataAt m i).1))) (Eq.trans hu27 (if_pos hg223)) (Eq.trans hu33 (if_pos hg223)) rfl (b_sub (wrap_i64e (by omega) (by omega))) ?_
         exact ⟨.int .i64 (((dataAt m i).2) - ((dataAt m i).1)), rfl, (if_pos hg223).symm, hst⟩
        ·intro f35_ w35_ X35_ hfr hus hrd hst
         obtain ⟨hu21, -⟩ := hus
         have hu21 : f35_ 185 = .bool (decide ((((codeAt m i).2) - ((codeAt m i).1)) ≠ (((compAt m i).code.length : Nat) : Int))) := hu21
         have hb1 : f35_ 1 = .pointer (some ⟨b1, 0, none⟩) := (hfr 1 rfl)
         refine og_some rfl (c := (decide ((((codeAt m i).2) - ((codeAt m i).1)) ≠ (((compAt m i).code.length : Nat) : Int)))) hu21 (fun hg224 => ?_) (fun hg224 => ⟨undef, rfl, (if_neg (by rw [hg224]; decide)).symm, hst⟩)
         refine O_fieldAddr hb1 fd26_3 rfl (o' := 3) rfl rfl ?_
         exact ⟨.pointer (some ⟨b1, 3, none⟩), rfl, (if_pos hg224).symm, hst⟩
        ·intro f36_ w36_ X36_ hfr hus hrd hst
         obtain ⟨hu21, hu35, -⟩ := hus
         have hu21 : f36_ 185 = .bool (decide ((((codeAt m i).2) - ((codeAt m i).1)) ≠ (((compAt m i).code.length : Nat) : Int))) := hu21
         have hu35 : f36_ 199 = if (decide ((((codeAt m i).2) - ((codeAt m i).1)) ≠ (((compAt m i).code.length : Nat) : Int))) = false then .pointer (some ⟨b1, 3, none⟩) else undef := hu35
         obtain ⟨hr64, -⟩ := hrd
         have hr64 : Item.φ (blk b1 (imgCells m) 26) w36_ := hr64
         refine og_some rfl (c := (decide ((((codeAt m i).2) - ((codeAt m i).1)) ≠ (((compAt m i).code.length : Nat) : Int)))) hu21 (fun hg225 => ?_) (fun hg225 => ⟨undef, rfl, (if_neg (by rw [hg225]; decide)).symm, hst⟩)
         refine O_load (v := .slice m.ca m.comps.length m.ccap) (Eq.trans hu35 (if_pos hg225)) ag22 (cell_of_blk (hr64) rfl) rfl ?_
         exact ⟨.slice m.ca m.comps.length m.ccap, rfl, (if_pos hg225).symm, hst⟩
        ·intro f37_ w37_ X37_ hfr hus hrd hst
         obtain ⟨hu21, -⟩ := hus
         have hu21 : f37_ 185 = .bool (decide ((((codeAt m i).2) - ((codeAt m i).1)) ≠ (((compAt m i).code.length : Nat) : Int))) := hu21
         have hb10 : f37_ 10 = .int .i64 ((i : Nat) : Int) := (hfr 10 rfl)
         refine og_some rfl (c := (decide ((((codeAt m i).2) - ((codeAt m i).1)) ≠ (((compAt m i).code.length : Nat) : Int)))) hu21 (fun hg226 => ?_) (fun hg226 => ⟨undef, rfl, (if_neg (by rw [hg226]; decide)).symm, hst⟩)
         refine O_move (v := .int .i64 ((i : Nat) : Int)) hb10 rfl ?_
         exact ⟨.int .i64 ((i : Nat) : Int), rfl, (if_pos hg226).symm, hst⟩
        ·intro f38_ w38_ X38_ hfr hus hrd hst
         obtain ⟨hu21, hu36, hu37, -⟩ := hus
         have hu21 : f38_ 185 = .bool (decide ((((codeAt m i).2) - ((codeAt m i).1)) ≠ (((compAt m i).code.length : Nat) : Int))) := hu21
         have hu36 : f38_ 200 = if (decide ((((codeAt m i).2) - ((codeAt m i).1)) ≠ (((compAt m i).code.length : Nat) : Int))) = false then .slice m.ca m.comps.length m.ccap else undef := hu36
         have hu37 : f38_ 201 = if (decide ((((codeAt m i).2) - ((codeAt m i).1)) ≠ (((compAt m i).code.length : Nat) : Int))) = false then .int .i64 ((i : Nat) : Int) else undef := hu37
         refine og_some rfl (c := (decide ((((codeAt m i).2) - ((codeAt m i).1)) ≠ (((compAt m i).code.length : Nat) : Int)))) hu21 (fun hg227 => ?_) (fun hg227 => ⟨undef, rfl, (if_neg (by rw [hg227]; decide)).symm, hst⟩)
         refine O_indexAddr_at (Eq.trans hu36 (if_pos hg227)) ha201 (Eq.trans hu37 (if_pos hg227)) un22 sz53 (by omega) (by omega) (o' := o200 + i * 2) (by omega) rfl ?_
         exact ⟨.pointer (some ⟨b199, o200 + i * 2, none⟩), rfl, (if_pos hg227).symm, hst⟩
        ·intro f39_ w39_ X39_ hfr hus hrd hst
         obtain ⟨hu21, hu38, -⟩ := hus
         have hu21 : f39_ 185 = .bool (decide ((((codeAt m i).2) - ((codeAt m i).1)) ≠ (((compAt m i).code.length : Nat) : Int))) := hu21
         have hu38 : f39_ 202 = if (decide ((((codeAt m i).2) - ((codeAt m i).1)) ≠ (((compAt m i).code.length : Nat) : Int))) = false then .pointer (some ⟨b199, o200 + i * 2, none⟩) else undef := hu38
         refine og_some rfl (c := (decide ((((codeAt m i).2) - ((codeAt m i).1)) ≠ (((compAt m i).code.length : Nat) : Int)))) hu21 (fun hg228 => ?_) (fun hg228 => ⟨undef, rfl, (if_neg (by rw [hg228]; decide)).symm, hst⟩)
         refine O_fieldAddr (Eq.trans hu38 (if_pos hg228)) fd53_1 rfl (o' := o200 + i * 2 + 1) rfl rfl ?_
         exact ⟨.pointer (some ⟨b199, o200 + i * 2 + 1, none⟩), rfl, (if_pos hg228).symm, hst⟩
        ·intro f40_ w40_ X40_ hfr hus hrd hst
         obtain ⟨hu21, hu39, -⟩ := hus
         have hu21 : f40_ 185 = .bool (decide ((((codeAt m i).2) - ((codeAt m i).1)) ≠ (((compAt m i).code.length : Nat) : Int))) := hu21
         have hu39 : f40_ 203 = if (decide ((((codeAt m i).2) - ((codeAt m i).1)) ≠ (((compAt m i).code.length : Nat) : Int))) = false then .pointer (some ⟨b199, o200 + i * 2 + 1, none⟩) else undef := hu39
         refine og_some rfl (c := (decide ((((codeAt m i).2) - ((codeAt m i).1)) ≠ (((compAt m i).code.length : Nat) : Int)))) hu21 (fun hg229 => ?_) (fun hg229 => ⟨undef, rfl, (if_neg (by rw [hg229]; decide)).symm, hst⟩)
         refine O_load (v := .int .i64 ((compAt m i).data)) (Eq.trans hu39 (if_pos hg229)) ag3 ((hst.getR 2 rfl).2 1 _ rfl) rfl ?_
         exact ⟨.int .i64 ((compAt m i).data), rfl, (if_pos hg229).symm, hst⟩
        ·intro f41_ w41_ X41_ hfr hus hrd hst
         obtain ⟨hu21, hu40, -⟩ := hus
         have hu21 : f41_ 185 = .bool (decide ((((codeAt m i).2) - ((codeAt m i).1)) ≠ (((compAt m i).code.length : Nat) : Int))) := hu21
         have hu40 : f41_ 204 = if (decide ((((codeAt m i).2) - ((codeAt m i).1)) ≠ (((compAt m i).code.length : Nat) : Int))) = false then .int .i64 ((compAt m i).data) else undef := hu40
         refine og_some rfl (c := (decide ((((codeAt m i).2) - ((codeAt m i).1)) ≠ (((compAt m i).code.length : Nat) : Int)))) hu21 (fun hg230 => ?_) (fun hg230 => ⟨undef, rfl, (if_neg (by rw [hg230]; decide)).symm, hst⟩)
         refine O_bin (v := .int .i64 (256 * (compAt m i).data)) rfl (Eq.trans hu40 (if_pos hg230)) rfl (b_mul (wrap_i64e (by omega) (by omega))) ?_
         exact ⟨.int .i64 (256 * (compAt m i).data), rfl, (if_pos hg230).symm, hst⟩
        ·intro f42_ w42_ X42_ hfr hus hrd hst
         obtain ⟨hu21, hu34, hu41, -⟩ := hus
         have hu21 : f42_ 185 = .bool (decide ((((codeAt m i).2) - ((codeAt m i).1)) ≠ (((compAt m i).code.length : Nat) : Int))) := hu21
         have hu34 : f42_ 198 = if (decide ((((codeAt m i).2) - ((codeAt m i).1)) ≠ (((compAt m i).code.length : Nat) : Int))) = false then .int .i64 (((dataAt m i).2) - ((dataAt m i).1)) else undef := hu34
         have hu41 : f42_ 205 = if (decide ((((codeAt m i).2) - ((codeAt m i).1)) ≠ (((compAt m i).code.length : Nat) : Int))) = false then .int .i64 (256 * (compAt m i).data) else undef := hu41
         refine og_some rfl (c := (decide ((((codeAt m i).2) - ((codeAt m i).1)) ≠ (((compAt m i).code.length : Nat) : Int)))) hu21 (fun hg231 => ?_) (fun hg231 => ⟨undef, rfl, (if_neg (by rw [hg231]; decide)).symm, hst⟩)
         refine O_bin (k := .i64) (k' := .i64) (a := (((dataAt m i).2) - ((dataAt m i).1))) (b := (256 * (compAt m i).data)) (Eq.trans hu34 (if_pos hg231)) (Eq.trans hu41 (if_pos hg231)) rfl b_neq ?_
         exact ⟨.bool (decide ((((dataAt m i).2) - ((dataAt m i).1)) ≠ (256 * (compAt m i).data))), rfl, (if_pos hg231).symm, hst⟩
        ·intro f43_ w43_ X43_ hfr hus hrd hst
         obtain ⟨hu21, hu42, -⟩ := hus
         have hu21 : f43_ 185 = .bool (decide ((((codeAt m i).2) - ((codeAt m i).1)) ≠ (((compAt m i).code.length : Nat) : Int))) := hu21
         have hu42 : f43_ 206 = if (decide ((((codeAt m i).2) - ((codeAt m i).1)) ≠ (((compAt m i).code.length : Nat) : Int))) = false then .bool (decide ((((dataAt m i).2) - ((dataAt m i).1)) ≠ (256 * (compAt m i).data))) else undef := hu42
         refine og_none rfl (O_pick hu21 (by simp only [ev, hu42]; exact pick_or _ _) rfl ?_)
         exact ⟨.bool ((decide ((((codeAt m i).2) - ((codeAt m i).1)) ≠ (((compAt m i).code.length : Nat) : Int))) || (decide ((((dataAt m i).2) - ((dataAt m i).1)) ≠ (256 * (compAt m i).data)))), rfl, rfl, hst⟩
        ·intro f44_ w44_ X44_ hfr hus hrd hst
         obtain ⟨hu43, -⟩ := hus
         have hu43 : f44_ 207 = .bool ((decide ((((codeAt m i).2) - ((codeAt m i).1)) ≠ (((compAt m i).code.length : Nat) : Int))) || (decide ((((dataAt m i).2) - ((dataAt m i).1)) ≠ (256 * (compAt m i).data)))) := hu43
         refine og_none rfl (O_move (v := .bool ((decide ((((codeAt m i).2) - ((codeAt m i).1)) ≠ (((compAt m i).code.length : Nat) : Int))) || (decide ((((dataAt m i).2) - ((dataAt m i).1)) ≠ (256 * (compAt m i).data))))) hu43 rfl ?_)
         exact ⟨.bool ((decide ((((codeAt m i).2) - ((codeAt m i).1)) ≠ (((compAt m i).code.length : Nat) : Int))) || (decide ((((dataAt m i).2) - ((dataAt m i).1)) ≠ (256 * (compAt m i).data)))), rfl, rfl, hst⟩
        ·intro f45_ w45_ X45_ hfr hus hrd hst
         obtain ⟨hu44, -⟩ := hus
         have hu44 : f45_ 208 = .bool ((decide ((((codeAt m i).2) - ((codeAt m i).1)) ≠ (((compAt m i).code.length : Nat) : Int))) || (decide ((((dataAt m i).2) - ((dataAt m i).1)) ≠ (256 * (compAt m i).data)))) := hu44
         have hb4 : f45_ 4 = .pointer (some ⟨b24, 0, none⟩) := (hfr 4 rfl)
         refine og_some rfl (c := ((decide ((((codeAt m i).2) - ((codeAt m i).1)) ≠ (((compAt m i).code.length : Nat) : Int))) || (decide ((((dataAt m i).2) - ((dataAt m i).1)) ≠ (256 * (compAt m i).data))))) hu44 (fun hg232 => ?_) (fun hg232 => ⟨undef, rfl, (if_neg (by rw [hg232]; decide)).symm, hst⟩)
         refine O_fieldAddr hb4 fd45_2 rfl (o' := 2) rfl rfl ?_
         exact ⟨.pointer (some ⟨b24, 2, none⟩), rfl, (if_pos hg232).symm, hst⟩
        ·intro f46_ w46_ X46_ hfr hus hrd hst
         obtain ⟨hu44, hu45, -⟩ := hus
         have hu44 : f46_ 208 = .bool ((decide ((((codeAt m i).2) - ((codeAt m i).1)) ≠ (((compAt m i).code.length : Nat) : Int))) || (decide ((((dataAt m i).2) - ((dataAt m i).1)) ≠ (256 * (compAt m i).data)))) := hu44
         have hu45 : f46_ 209 = if ((decide ((((codeAt m i).2) - ((codeAt m i).1)) ≠ (((compAt m i).code.length : Nat) : Int))) || (decide ((((dataAt m i).2) - ((dataAt m i).1)) ≠ (256 * (compAt m i).data)))) = false then .pointer (some ⟨b24, 2, none⟩) else undef := hu45
         obtain ⟨hr63, -⟩ := hrd
         have hr63 : Item.φ (blk b24 [.slice a1 m.comps.length c1, .slice a2 m.comps.length c2, .slice a3 m.comps.length c3, .slice a4 m.shares.length c4, .int .i64 (pgEnd m + ((m.shares.length : Nat) : Int))] 45) w46_ := hr63
         refine og_some rfl (c := ((decide ((((codeAt m i).2) - ((codeAt m i).1)) ≠ (((compAt m i).code.length : Nat) : Int))) || (decide ((((dataAt m i).2) - ((dataAt m i).1)) ≠ (256 * (compAt m i).data))))) hu44 (fun hg233 => ?_) (fun hg233 => ⟨undef, rfl, (if_neg (by rw [hg233]; decide)).symm, hst⟩)
         refine O_load (v := .slice a3 m.comps.length c3) (Eq.trans hu45 (if_pos hg233)) ag42 (cell_of_blk (hr63) rfl) rfl ?_
         exact ⟨.slice a3 m.comps.length c3, rfl, (if_pos hg233).symm, hst⟩
        ·intro f47_ w47_ X47_ hfr hus hrd hst
         obtain ⟨hu44, -⟩ := hus
         have hu44 : f47_ 208 = .bool ((decide ((((codeAt m i).2) - ((codeAt m i).1)) ≠ (((compAt m i).code.length : Nat) : Int))) || (decide ((((dataAt m i).2) - ((dataAt m i).1)) ≠ (256 * (compAt m i).data)))) := hu44
         have hb10 : f47_ 10 = .int .i64 ((i : Nat) : Int) := (hfr 10 rfl)
         refine og_some rfl (c := ((decide ((((codeAt m i).2) - ((codeAt m i).1)) ≠ (((compAt m i).code.length : Nat) : Int))) || (decide ((((dataAt m i).2) - ((dataAt m i).1)) ≠ (256 * (compAt m i).data))))) hu44 (fun hg234 => ?_) (fun hg234 => ⟨undef, rfl, (if_neg (by rw [hg234]; decide)).symm, hst⟩)
         refine O_move (v := .int .i64 ((i : Nat) : Int)) hb10 rfl ?_
         exact ⟨.int .i64 ((i : Nat) : Int), rfl, (if_pos hg234).symm, hst⟩
        ·intro f48_ w48_ X48_ hfr hus hrd hst
         obtain ⟨hu44, hu46, hu47, -⟩ := hus
         have hu44 : f48_ 208 = .bool ((decide ((((codeAt m i).2) - ((codeAt m i).1)) ≠ (((compAt m i).code.length : Nat) : Int))) || (decide ((((dataAt m i).2) - ((dataAt m i).1)) ≠ (256 * (compAt m i).data)))) := hu44
         have hu46 : f48_ 210 = if ((decide ((((codeAt m i).2) - ((codeAt m i).1)) ≠ (((compAt m i).code.length : Nat) : Int))) || (decide ((((dataAt m i).2) - ((dataAt m i).1)) ≠ (256 * (compAt m i).data)))) = false then .slice a3 m.comps.length c3 else undef := hu46
         have hu47 : f48_ 211 = if ((decide ((((codeAt m i).2) - ((codeAt m i).1)) ≠ (((compAt m i).code.length : Nat) : Int))) || (decide ((((dataAt m i).2) - ((dataAt m i).1)) ≠ (256 * (compAt m i).data)))) = false then .int .i64 ((i : Nat) : Int) else undef := hu47
         refine og_some rfl (c := ((decide ((((codeAt m i).2) - ((codeAt m i).1)) ≠ (((compAt m i).code.length : Nat) : Int))) || (decide ((((dataAt m i).2) - ((dataAt m i).1)) ≠ (256 * (compAt m i).data))))) hu44 (fun hg235 => ?_) (fun hg235 => ⟨undef, rfl, (if_neg (by rw [hg235]; decide)).symm, hst⟩)
         refine O_indexAddr_at (Eq.trans hu46 (if_pos hg235)) ha209 (Eq.trans hu47 (if_pos hg235)) un42 sz51 (by omega) (by omega) (o' := o208 + i * 2) (by omega) rfl ?_
         exact ⟨.pointer (some ⟨b207, o208 + i * 2, none⟩), rfl, (if_pos hg235).symm, hst⟩
        ·intro f49_ w49_ X49_ hfr hus hrd hst
         obtain ⟨hu44, hu48, -⟩ := hus
         have hu44 : f49_ 208 = .bool ((decide ((((codeAt m i).2) - ((codeAt m i).1)) ≠ (((compAt m i).code.length : Nat) : Int))) || (decide ((((dataAt m i).2) - ((dataAt m i).1)) ≠ (256 * (compAt m i).data)))) := hu44
         have hu48 : f49_ 212 = if ((decide ((((codeAt m i).2) - ((codeAt m i).1)) ≠ (((compAt m i).code.length : Nat) : Int))) || (decide ((((dataAt m i).2) - ((dataAt m i).1)) ≠ (256 * (compAt m i).data)))) = false then .pointer (some ⟨b207, o208 + i * 2, none⟩) else undef := hu48
         refine og_some rfl (c := ((decide ((((codeAt m i).2) - ((codeAt m i).1)) ≠ (((compAt m i).code.length : Nat) : Int))) || (decide ((((dataAt m i).2) - ((dataAt m i).1)) ≠ (256 * (compAt m i).data))))) hu44 (fun hg236 => ?_) (fun hg236 => ⟨undef, rfl, (if_neg (by rw [hg236]; decide)).symm, hst⟩)
         refine O_indexAddr_arr (Eq.trans hu48 (if_pos hg236)) rfl un51 sz3 (by omega) (by omega) (o' := o208 + i * 2 + 1) (by omega) rfl ?_
         exact ⟨.pointer (some ⟨b207, o208 + i * 2 + 1, none⟩), rfl, (if_pos hg236).symm, hst⟩
        ·intro f50_ w50_ X50_ hfr hus hrd hst
         obtain ⟨hu44, hu49, -⟩ := hus
         have hu44 : f50_ 208 = .bool ((decide ((((codeAt m i).2) - ((codeAt m i).1)) ≠ (((compAt m i).code.length : Nat) : Int))) || (decide ((((dataAt m i).2) - ((dataAt m i).1)) ≠ (256 * (compAt m i).data)))) := hu44
         have hu49 : f50_ 213 = if ((decide ((((codeAt m i).2) - ((codeAt m i).1)) ≠ (((compAt m i).code.length : Nat) : Int))) || (decide ((((dataAt m i).2) - ((dataAt m i).1)) ≠ (256 * (compAt m i).data)))) = false then .pointer (some ⟨b207, o208 + i * 2 + 1, none⟩) else undef := hu49
         refine og_some rfl (c := ((decide ((((codeAt m i).2) - ((codeAt m i).1)) ≠ (((compAt m i).code.length : Nat) : Int))) || (decide ((((dataAt m i).2) - ((dataAt m i).1)) ≠ (256 * (compAt m i).data))))) hu44 (fun hg237 => ?_) (fun hg237 => ⟨undef, rfl, (if_neg (by rw [hg237]; decide)).symm, hst⟩)
         refine O_load (v := .int .i64 ((heapAt m i).2)) (Eq.trans hu49 (if_pos hg237)) ag3 ((hst.getR 0 rfl).2 1 _ rfl) rfl ?_
         exact ⟨.int .i64 ((heapAt m i).2), rfl, (if_pos hg237).symm, hst⟩
        ·intro f51_ w51_ X51_ hfr hus hrd hst
         obtain ⟨hu44, -⟩ := hus
         have hu44 : f51_ 208 = .bool ((decide ((((codeAt m i).2) - ((codeAt m i).1)) ≠ (((compAt m i).code.length : Nat) : Int))) || (decide ((((dataAt m i).2) - ((dataAt m i).1)) ≠ (256 * (compAt m i).data)))) := hu44
         have hb4 : f51_ 4 = .pointer (some ⟨b24, 0, none⟩) := (hfr 4 rfl)
         refine og_some rfl (c := ((decide ((((codeAt m i).2) - ((codeAt m i).1)) ≠ (((compAt m i).code.length : Nat) : Int))) || (decide ((((dataAt m i).2) - ((dataAt m i).1)) ≠ (256 * (compAt m i).data))))) hu44 (fun hg238 => ?_) (fun hg238 => ⟨undef, rfl, (if_neg (by rw [hg238]; decide)).symm, hst⟩)
         refine O_fieldAddr hb4 fd45_2 rfl (o' := 2) rfl rfl ?_
         exact ⟨.pointer (some ⟨b24, 2, none⟩), rfl, (if_pos hg238).symm, hst⟩
        ·intro f52_ w52_ X52_ hfr hus hrd hst
         obtain ⟨hu44, hu51, -⟩ := hus
         have hu44 : f52_ 208 = .bool ((decide ((((codeAt m i).2) - ((codeAt m i).1)) ≠ (((compAt m i).code.length : Nat) : Int))) || (decide ((((dataAt m i).2) - ((dataAt m i).1)) ≠ (256 * (compAt m i).data)))) := hu44
         have hu51 : f52_ 215 = if ((decide ((((codeAt m i).2) - ((codeAt m i).1)) ≠ (((compAt m i).code.length : Nat) : Int))) || (decide ((((dataAt m i).2) - ((dataAt m i).1)) ≠ (256 * (compAt m i).data)))) = false then .pointer (some ⟨b24, 2, none⟩) else undef := hu51
         obtain ⟨hr63, -⟩ := hrd
         have hr63 : Item.φ (blk b24 [.slice a1 m.comps.length c1, .slice a2 m.comps.length c2, .slice a3 m.comps.length c3, .slice a4 m.shares.length c4, .int .i64 (pgEnd m + ((m.shares.length : Nat) : Int))] 45) w52_ := hr63
         refine og_some rfl (c := ((decide ((((codeAt m i).2) - ((codeAt m i).1)) ≠ (((compAt m i).code.length : Nat) : Int))) || (decide ((((dataAt m i).2) - ((dataAt m i).1)) ≠ (256 * (compAt m i).data))))) hu44 (fun hg239 => ?_) (fun hg239 => ⟨undef, rfl, (if_neg (by rw [hg239]; decide)).symm, hst⟩)
         refine O_load (v := .slice a3 m.comps.length c3) (Eq.trans hu51 (if_pos hg239)) ag42 (cell_of_blk (hr63) rfl) rfl ?_
         exact ⟨.slice a3 m.comps.length c3, rfl, (if_pos hg239).symm, hst⟩
        ·intro f53_ w53_ X53_ hfr hus hrd hst
         obtain ⟨hu44, -⟩ := hus
         have hu44 : f53_ 208 = .bool ((decide ((((codeAt m i).2) - ((codeAt m i).1)) ≠ (((compAt m i).code.length : Nat) : Int))) || (decide ((((dataAt m i).2) - ((dataAt m i).1)) ≠ (256 * (compAt m i).data)))) := hu44
         have hb10 : f53_ 10 = .int .i64 ((i : Nat) : Int) := (hfr 10 rfl)
         refine og_some rfl (c := ((decide ((((codeAt m i).2) - ((codeAt m i).1)) ≠ (((compAt m i).code.length : Nat) : Int))) || (decide ((((dataAt m i).2) - ((dataAt m i).1)) ≠ (256 * (compAt m i).data))))) hu44 (fun hg240 => ?_) (fun hg240 => ⟨undef, rfl, (if_neg (by rw [hg240]; decide)).symm, hst⟩)
         refine O_move (v := .int .i64 ((i : Nat) : Int)) hb10 rfl ?_
         exact ⟨.int .i64 ((i : Nat) : Int), rfl, (if_pos hg240).symm, hst⟩
        ·intro f54_ w54_ X54_ hfr hus hrd hst
         obtain ⟨hu44, hu52, hu53, -⟩ := hus
         have hu44 : f54_ 208 = .bool ((decide ((((codeAt m i).2) - ((codeAt m i).1)) ≠ (((compAt m i).code.length : Nat) : Int))) || (decide ((((dataAt m i).2) - ((dataAt m i).1)) ≠ (256 * (compAt m i).data)))) := hu44
         have hu52 : f54_ 216 = if ((decide ((((codeAt m i).2) - ((codeAt m i).1)) ≠ (((compAt m i).code.length : Nat) : Int))) || (decide ((((dataAt m i).2) - ((dataAt m i).1)) ≠ (256 * (compAt m i).data)))) = false then .slice a3 m.comps.length c3 else undef := hu52
         have hu53 : f54_ 217 = if ((decide ((((codeAt m i).2) - ((codeAt m i).1)) ≠ (((compAt m i).code.length : Nat) : Int))) || (decide ((((dataAt m i).2) - ((dataAt m i).1)) ≠ (256 * (compAt m i).data)))) = false then .int .i64 ((i : Nat) : Int) else undef := hu53
         refine og_some rfl (c := ((decide ((((codeAt m i).2) - ((codeAt m i).1)) ≠ (((compAt m i).code.length : Nat) : Int))) || (decide ((((dataAt m i).2) - ((dataAt m i).1)) ≠ (256 * (compAt m i).data))))) hu44 (fun hg241 => ?_) (fun hg241 => ⟨undef, rfl, (if_neg (by rw [hg241]; decide)).symm, hst⟩)
         refine O_indexAddr_at (Eq.trans hu52 (if_pos hg241)) ha209 (Eq.trans hu53 (if_pos hg241)) un42 sz51 (by omega) (by omega) (o' := o208 + i * 2) (by omega) rfl ?_
         exact ⟨.pointer (some ⟨b207, o208 + i * 2, none⟩), rfl, (if_pos hg241).symm, hst⟩
        ·intro f55_ w55_ X55_ hfr hus hrd hst
         obtain ⟨hu44, hu54, -⟩ := hus
         have hu44 : f55_ 208 = .bool ((decide ((((codeAt m i).2) - ((codeAt m i).1)) ≠ (((compAt m i).code.length : Nat) : Int))) || (decide ((((dataAt m i).2) - ((dataAt m i).1)) ≠ (256 * (compAt m i).data)))) := hu44
         have hu54 : f55_ 218 = if ((decide ((((codeAt m i).2) - ((codeAt m i).1)) ≠ (((compAt m i).code.length : Nat) : Int))) || (decide ((((dataAt m i).2) - ((dataAt m i).1)) ≠ (256 * (compAt m i).data)))) = false then .pointer (some ⟨b207, o208 + i * 2, none⟩) else undef := hu54
         refine og_some rfl (c := ((decide ((((codeAt m i).2) - ((codeAt m i).1)) ≠ (((compAt m i).code.length : Nat) : Int))) || (decide ((((dataAt m i).2) - ((dataAt m i).1)) ≠ (256 * (compAt m i).data))))) hu44 (fun hg242 => ?_) (fun hg242 => ⟨undef, rfl, (if_neg (by rw [hg242]; decide)).symm, hst⟩)
         refine O_indexAddr_arr (Eq.trans hu54 (if_pos hg242)) rfl un51 sz3 (by omega) (by omega) (o' := o208 + i * 2) (by omega) rfl ?_
         exact ⟨.pointer (some ⟨b207, o208 + i * 2, none⟩), rfl, (if_pos hg242).symm, hst⟩
        ·intro f56_ w56_ X56_ hfr hus hrd hst
         obtain ⟨hu44, hu55, -⟩ := hus
         have hu44 : f56_ 208 = .bool ((decide ((((codeAt m i).2) - ((codeAt m i).1)) ≠ (((compAt m i).code.length : Nat) : Int))) || (decide ((((dataAt m i).2) - ((dataAt m i).1)) ≠ (256 * (compAt m i).data)))) := hu44
         have hu55 : f56_ 219 = if ((decide ((((codeAt m i).2) - ((codeAt m i).1)) ≠ (((compAt m i).code.length : Nat) : Int))) || (decide ((((dataAt m i).2) - ((dataAt m i).1)) ≠ (256 * (compAt m i).data)))) = false then .pointer (some ⟨b207, o208 + i * 2, none⟩) else undef := hu55
         refine og_some rfl (c := ((decide ((((codeAt m i).2) - ((codeAt m i).1)) ≠ (((compAt m i).code.length : Nat) : Int))) || (decide ((((dataAt m i).2) - ((dataAt m i).1)) ≠ (256 * (compAt m i).data))))) hu44 (fun hg243 => ?_) (fun hg243 => ⟨undef, rfl, (if_neg (by rw [hg243]; decide)).symm, hst⟩)
         refine O_load (v := .int .i64 ((heapAt m i).1)) (Eq.trans hu55 (if_pos hg243)) ag3 ((hst.getR 0 rfl).2 0 _ rfl) rfl ?_
         exact ⟨.int .i64 ((heapAt m i).1), rfl, (if_pos hg243).symm, hst⟩
        ·intro f57_ w57_ X57_ hfr hus hrd hst
         obtain ⟨hu44, hu50, hu56, -⟩ := hus
         have hu44 : f57_ 208 = .bool ((decide ((((codeAt m i).2) - ((codeAt m i).1)) ≠ (((compAt m i).code.length : Nat) : Int))) || (decide ((((dataAt m i).2) - ((dataAt m i).1)) ≠ (256 * (compAt m i).data)))) := hu44
         have hu50 : f57_ 214 = if ((decide ((((codeAt m i).2) - ((codeAt m i).1)) ≠ (((compAt m i).code.length : Nat) : Int))) || (decide ((((dataAt m i).2) - ((dataAt m i).1)) ≠ (256 * (compAt m i).data)))) = false then .int .i64 ((heapAt m i).2) else undef := hu50
         have hu56 : f57_ 220 = if ((decide ((((codeAt m i).2) - ((codeAt m i).1)) ≠ (((compAt m i).code.length : Nat) : Int))) || (decide ((((dataAt m i).2) - ((dataAt m i).1)) ≠ (256 * (compAt m i).data)))) = false then .int .i64 ((heapAt m i).1) else undef := hu56
         refine og_some rfl (c := ((decide ((((codeAt m i).2) - ((codeAt m i).1)) ≠ (((compAt m i).code.length : Nat) : Int))) || (decide ((((dataAt m i).2) - ((dataAt m i).1)) ≠ (256 * (compAt m i).data))))) hu44 (fun hg244 => ?_) (fun hg244 => ⟨undef, rfl, (if_neg (by rw [hg244]; decide)).symm, hst⟩)
         refine O_bin (v := .int .i64 (((heapAt m i).2) - ((heapAt m i).1))) (Eq.trans hu50 (if_pos hg244)) (Eq.trans hu56 (if_pos hg244)) rfl (b_sub (wrap_i64e (by omega) (by omega))) ?_
         exact ⟨.int .i64 (((heapAt m i).2) - ((heapAt m i).1)), rfl, (if_pos hg244).symm, hst⟩
        ·intro f58_ w58_ X58_ hfr hus hrd hst
         obtain ⟨hu44, -⟩ := hus
         have hu44 : f58_ 208 = .bool ((decide ((((codeAt m i).2) - ((codeAt m i).1)) ≠ (((compAt m i).code.length : Nat) : Int))) || (decide ((((dataAt m i).2) - ((dataAt m i).1)) ≠ (256 * (compAt m i).data)))) := hu44
         have hb1 : f58_ 1 = .pointer (some ⟨b1, 0, none⟩) := (hfr 1 rfl)
         refine og_some rfl (c := ((decide ((((codeAt m i).2) - ((codeAt m i).1)) ≠ (((compAt m i).code.length : Nat) : Int))) || (decide ((((dataAt m i).2) - ((dataAt m i).1)) ≠ (256 * (compAt m i).data))))) hu44 (fun hg245 => ?_) (fun hg245 => ⟨undef, rfl, (if_neg (by rw [hg245]; decide)).symm, hst⟩)
         refine O_fieldAddr hb1 fd26_1 rfl (o' := 1) rfl rfl ?_
         exact ⟨.pointer (some ⟨b1, 1, none⟩), rfl, (if_pos hg245).symm, hst⟩
        ·intro f59_ w59_ X59_ hfr hus hrd hst
         obtain ⟨hu44, hu58, -⟩ := hus
         have hu44 : f59_ 208 = .bool ((decide ((((codeAt m i).2) - ((codeAt m i).1)) ≠ (((compAt m i).code.length : Nat) : Int))) || (decide ((((dataAt m i).2) - ((dataAt m i).1)) ≠ (256 * (compAt m i).data)))) := hu44
         have hu58 : f59_ 222 = if ((decide ((((codeAt m i).2) - ((codeAt m i).1)) ≠ (((compAt m i).code.length : Nat) : Int))) || (decide ((((dataAt m i).2) - ((dataAt m i).1)) ≠ (256 * (compAt m i).data)))) = false then .pointer (some ⟨b1, 1, none⟩) else undef := hu58
         obtain ⟨hr64, -⟩ := hrd
         have hr64 : Item.φ (blk b1 (imgCells m) 26) w59_ := hr64
         refine og_some rfl (c := ((decide ((((codeAt m i).2) - ((codeAt m i).1)) ≠ (((compAt m i).code.length : Nat) : Int))) || (decide ((((dataAt m i).2) - ((dataAt m i).1)) ≠ (256 * (compAt m i).data))))) hu44 (fun hg246 => ?_) (fun hg246 => ⟨undef, rfl, (if_neg (by rw [hg246]; decide)).symm, hst⟩)
         refine O_load (v := .int .i64 m.heap) (Eq.trans hu58 (if_pos hg246)) ag3 (cell_of_blk (hr64) rfl) rfl ?_
         exact ⟨.int .i64 m.heap, rfl, (if_pos hg246).symm, hst⟩
        ·intro f60_ w60_ X60_ hfr hus hrd hst
         obtain ⟨hu44, hu59, -⟩ := hus
         have hu44 : f60_ 208 = .bool ((decide ((((codeAt m i).2) - ((codeAt m i).1)) ≠ (((compAt m i).code.length : Nat) : Int))) || (decide ((((dataAt m i).2) - ((dataAt m i).1)) ≠ (256 * (compAt m i).data)))) := hu44
         have hu59 : f60_ 223 = if ((decide ((((codeAt m i).2) - ((codeAt m i).1)) ≠ (((compAt m i).code.length : Nat) : Int))) || (decide ((((dataAt m i).2) - ((dataAt m i).1)) ≠ (256 * (compAt m i).data)))) = false then .int .i64 m.heap else undef := hu59
         refine og_some rfl (c := ((decide ((((codeAt m i).2) - ((codeAt m i).1)) ≠ (((compAt m i).code.length : Nat) : Int))) || (decide ((((dataAt m i).2) - ((dataAt m i).1)) ≠ (256 * (compAt m i).data))))) hu44 (fun hg247 => ?_) (fun hg247 => ⟨undef, rfl, (if_neg (by rw [hg247]; decide)).symm, hst⟩)
         refine O_bin (v := .int .i64 (256 * m.heap)) rfl (Eq.trans hu59 (if_pos hg247)) rfl (b_mul (wrap_i64e (by omega) (by omega))) ?_
         exact ⟨.int .i64 (256 * m.heap), rfl, (if_pos hg247).symm, hst⟩
        ·intro f61_ w61_ X61_ hfr hus hrd hst
         obtain ⟨hu44, hu57, hu60, -⟩ := hus
         have hu44 : f61_ 208 = .bool ((decide ((((codeAt m i).2) - ((codeAt m i).1)) ≠ (((compAt m i).code.length : Nat) : Int))) || (decide ((((dataAt m i).2) - ((dataAt m i).1)) ≠ (256 * (compAt m i).data)))) := hu44
         have hu57 : f61_ 221 = if ((decide ((((codeAt m i).2) - ((codeAt m i).1)) ≠ (((compAt m i).code.length : Nat) : Int))) || (decide ((((dataAt m i).2) - ((dataAt m i).1)) ≠ (256 * (compAt m i).data)))) = false then .int .i64 (((heapAt m i).2) - ((heapAt m i).1)) else undef := hu57
         have hu60 : f61_ 224 = if ((decide ((((codeAt m i).2) - ((codeAt m i).1)) ≠ (((compAt m i).code.length : Nat) : Int))) || (decide ((((dataAt m i).2) - ((dataAt m i).1)) ≠ (256 * (compAt m i).data)))) = false then .int .i64 (256 * m.heap) else undef := hu60
         refine og_some rfl (c := ((decide ((((codeAt m i).2) - ((codeAt m i).1)) ≠ (((compAt m i).code.length : Nat) : Int))) || (decide ((((dataAt m i).2) - ((dataAt m i).1)) ≠ (256 * (compAt m i).data))))) hu44 (fun hg248 => ?_) (fun hg248 => ⟨undef, rfl, (if_neg (by rw [hg248]; decide)).symm, hst⟩)
         refine O_bin (k := .i64) (k' := .i64) (a := (((heapAt m i).2) - ((heapAt m i).1))) (b := (256 * m.heap)) (Eq.trans hu57 (if_pos hg248)) (Eq.trans hu60 (if_pos hg248)) rfl b_neq ?_
         exact ⟨.bool (decide ((((heapAt m i).2) - ((heapAt m i).1)) ≠ (256 * m.heap))), rfl, (if_pos hg248).symm, hst⟩
        ·intro f62_ w62_ X62_ hfr hus hrd hst
         obtain ⟨hu44, hu61, -⟩ := hus
         have hu44 : f62_ 208 = .bool ((decide ((((codeAt m i).2) - ((codeAt m i).1)) ≠ (((compAt m i).code.length : Nat) : Int))) || (decide ((((dataAt m i).2) - ((dataAt m i).1)) ≠ (256 * (compAt m i).data)))) := hu44
         have hu61 : f62_ 225 = if ((decide ((((codeAt m i).2) - ((codeAt m i).1)) ≠ (((compAt m i).code.length : Nat) : Int))) || (decide ((((dataAt m i).2) - ((dataAt m i).1)) ≠ (256 * (compAt m i).data)))) = false then .bool (decide ((((heapAt m i).2) - ((heapAt m i).1)) ≠ (256 * m.heap))) else undef := hu61
         refine og_none rfl (O_pick hu44 (by simp only [ev, hu61]; exact pick_or _ _) rfl ?_)
         exact ⟨.bool (((decide ((((codeAt m i).2) - ((codeAt m i).1)) ≠ (((compAt m i).code.length : Nat) : Int))) || (decide ((((dataAt m i).2) - ((dataAt m i).1)) ≠ (256 * (compAt m i).data)))) || (decide ((((heapAt m i).2) - ((heapAt m i).1)) ≠ (256 * m.heap)))), rfl, rfl, hst⟩
        intro f249 w250 hfr hus hs251
        obtain ⟨hu62, -⟩ := hus
        have hu62 : f249 226 = .bool (((decide ((((codeAt m i).2) - ((codeAt m i).1)) ≠ (((compAt m i).code.length : Nat) : Int))) || (decide ((((dataAt m i).2) - ((dataAt m i).1)) ≠ (256 * (compAt m i).data)))) || (decide ((((heapAt m i).2) - ((heapAt m i).1)) ≠ (256 * m.heap)))) := hu62
        have hs251 : St w (fun _ => False) w250 [blk b24 [.slice a1 m.comps.length c1, .slice a2 m.comps.length c2, .slice a3 m.comps.length c3, .slice a4 m.shares.length c4, .int .i64 (pgEnd m + ((m.shares.length : Nat) : Int))] 45, blk b1 (imgCells m) 26] [rdI b207 (o208 + i * 2) (encR (heapAt m i)), rdI b203 (o204 + i * 2) (encR (dataAt m i)), rdI b199 (o200 + i * 2) (encComp (compAt m i)), rdI b195 (o196 + i * 2) (encR (codeAt m i)), arrI encR 2 a6 (apartL m m.shares.length), arrI encR 2 a1 (codesTo m m.comps.length), arrI encR 2 a2 (datasTo m m.comps.length), arrI encR 2 a3 (heapsTo m m.comps.length), arrI encI 1 a4 (shsTo m m.shares.length), arrI encComp 2 m.ca m.comps, arrI encLink 3 m.la m.links, arrI encShare 2 m.sa m.shares, codesI m.comps] := hs251
        have e252 : f249 1 = .pointer (some ⟨b1, 0, none⟩) := (hfr 1 rfl)
        rewrite [upd_id e252]
        have e253 : f249 3 = .bool true := (hfr 3 rfl)
        rewrite [upd_id e253]
        have e254 : f249 4 = .pointer (some ⟨b24, 0, none⟩) := (hfr 4 rfl)
        rewrite [upd_id e254]
        have e255 : f249 5 = .int .i64 ((m.comps.length : Nat) : Int) := (hfr 5 rfl)
        rewrite [upd_id e255]
        have e256 : f249 10 = .int .i64 ((i : Nat) : Int) := (hfr 10 rfl)
        rewrite [upd_id e256]
        rewrite [upd_id hu62]
        refine thenQ_n ?_
        refine W_cond (t := (((decide ((((codeAt m i).2) - ((codeAt m i).1)) ≠ (((compAt m i).code.length : Nat) : Int))) || (decide ((((dataAt m i).2) - ((dataAt m i).1)) ≠ (256 * (compAt m i).data)))) || (decide ((((heapAt m i).2) - ((heapAt m i).1)) ≠ (256 * m.heap))))) rfl (fun hc257 => absurd hc257 (by rw [ap_S hok (by omega)]; simp)) (fun hc257 => ?_)
        refine W_skip (blockQ_n (thenQ_n (W_region ?_)))
        refine L_cons rfl (O_move (v := .int .i64 ((i : Nat) : Int)) rfl rfl ?_)
        refine L_cons rfl (O_bin (v := .int .i64 ((i + 1 : Nat) : Int)) rfl rfl rfl (b_add (wrap_i64e (by omega) (by omega))) ?_)
        refine L_cons rfl (O_assign (v := .int .i64 ((i + 1 : Nat) : Int)) rfl rfl ?_)
        refine L_nil (thenQ_n ?_)
        refine ⟨_, ?_, i + 1, rfl, by omega, rfl, rfl, rfl, rfl, rfl, hs251.popR.popR.popR.popR⟩
        omega
       ·refine W_exit (thenQ_e (thenQ_e (blockQ_x (thenQ_n (W_seq (W_region ?_))))))
        refine L_cons rfl (O_move (v := .bool true) rfl rfl ?_)
        refine L_cons rfl (O_assign (v := .bool true) rfl rfl ?_)
        refine L_nil (thenQ_n (W_ret ?_))
        refine ⟨.bool true, res1 rfl, ?_⟩
        exact ⟨rfl, hs187.base⟩


end Go.Proofs.Ytgddigkdldnmdaa
