import Derived.Test.YtgddigkdldnmdaaCOwn5
namespace Go.Proofs.Ytgddigkdldnmdaa
open Go Go.Vg Go.Img
set_option linter.unusedSimpArgs false
set_option maxHeartbeats 4000000
theorem zv51 : Zv Try.prog 51 (.agg #[.int .i64 0, .int .i64 0]) := Try.zeroValue51
theorem un51 : Un Try.prog 51 (.array 2 3) := Try.underlying51
theorem sz51 : Sz Try.prog 51 2 := fun _ => by kernel_rfl
theorem ag51 : Ag Try.prog 51 true := fun _ => by kernel_rfl
theorem zv39 : Zv Try.prog 39 (.agg #[.bool false, .int .i64 0, .int .i64 0, .int .i64 0, .int .i64 0, .int .i64 0]) := Try.zeroValue39
theorem bt39 : Bt Try.prog 39 [(0, 1), (1, 1), (2, 1), (3, 1), (4, 1), (5, 1)] [.bool false, .int .i64 0, .int .i64 0, .int .i64 0, .int .i64 0, .int .i64 0] := Bt.mk' _ _ Try.zeroValue39 rfl Try.underlying39 (fun _ => by kernel_rfl)
theorem sz39 : Sz Try.prog 39 6 := fun _ => by kernel_rfl
theorem ag39 : Ag Try.prog 39 true := fun _ => by kernel_rfl
theorem zv45 : Zv Try.prog 45 (.agg #[.slice none 0 0, .slice none 0 0, .slice none 0 0, .slice none 0 0, .int .i64 0]) := Try.zeroValue45
theorem ag45 : Ag Try.prog 45 true := fun _ => by kernel_rfl
theorem sz45 : Sz Try.prog 45 5 := fun _ => by kernel_rfl
theorem en44 : ∀ args w, (callFunc 44 args).run Try.prog w = .ok (.enter 44 args) w := fun args w => callFunc_run Try.func44 (by kernel_rfl) rfl args w
theorem fd45_0 : FdAt Try.prog 45 0 0 1 false := FdAt.mk' _ _ Try.underlying45 rfl rfl (fun _ => by kernel_rfl) (fun _ => by kernel_rfl)
theorem ag42 : Ag Try.prog 42 false := fun _ => by kernel_rfl
theorem un42 : Un Try.prog 42 (.slice 51) := Try.underlying42
theorem ni42 : NotInt Try.prog 42 := ⟨_, Try.underlying42, by intro k h; cases h⟩
theorem inf51 : Inf Try.prog 51 (.agg #[.int .i64 0, .int .i64 0]) 2 16 := by unfold Inf; kernel_rfl
theorem fd45_1 : FdAt Try.prog 45 1 1 1 false := FdAt.mk' _ _ Try.underlying45 rfl rfl (fun _ => by kernel_rfl) (fun _ => by kernel_rfl)
theorem fd45_2 : FdAt Try.prog 45 2 2 1 false := FdAt.mk' _ _ Try.underlying45 rfl rfl (fun _ => by kernel_rfl) (fun _ => by kernel_rfl)
theorem sz42 : Sz Try.prog 42 1 := fun _ => by kernel_rfl
theorem fd45_3 : FdAt Try.prog 45 3 3 1 false := FdAt.mk' _ _ Try.underlying45 rfl rfl (fun _ => by kernel_rfl) (fun _ => by kernel_rfl)
theorem ag43 : Ag Try.prog 43 false := fun _ => by kernel_rfl
theorem ni43 : NotInt Try.prog 43 := ⟨_, Try.underlying43, by intro k h; cases h⟩
theorem sz43 : Sz Try.prog 43 1 := fun _ => by kernel_rfl
theorem fd45_4 : FdAt Try.prog 45 4 4 1 false := FdAt.mk' _ _ Try.underlying45 rfl rfl (fun _ => by kernel_rfl) (fun _ => by kernel_rfl)

theorem lay0_ok {w : World} : ∀ i ∈ layIs ⟨none, 0, none, 0, none, 0, none, 0⟩ ⟨[], [], [], [], 0⟩, i.φ w := by
 intro i hi
 simp only [layIs, List.mem_cons, List.not_mem_nil, or_false] at hi
 rcases hi with rfl | rfl | rfl | rfl <;> exact fun i h => by cases h
theorem lay0_new {n : Nat} : ∀ i ∈ layIs ⟨none, 0, none, 0, none, 0, none, 0⟩ ⟨[], [], [], [], 0⟩, ∀ b, i.fp b → n ≤ b := by
 intro i hi b hb
 simp only [layIs, List.mem_cons, List.not_mem_nil, or_false] at hi
 rcases hi with rfl | rfl | rfl | rfl <;> exact absurd rfl hb.1
theorem lay0_B : LayB ⟨none, 0, none, 0, none, 0, none, 0⟩ ⟨[], [], [], [], 0⟩ := ⟨Nat.le_refl _, Nat.le_refl _, Nat.le_refl _, Nat.le_refl _, fun _ => rfl, fun _ => rfl, fun _ => rfl, fun _ => rfl⟩
theorem whereS_yes {m : ImageV} (h : rightS m = true) : whereS m = ⟨codesTo m m.comps.length, datasTo m m.comps.length, heapsTo m m.comps.length, shsTo m m.shares.length, pgEnd m + ((m.shares.length : Nat) : Int)⟩ := by unfold whereS; rw [if_pos h]
theorem lay_v {m : ImageV} {a1 a2 a3 a4 : Option Addr} {c1 c2 c3 c4 : Nat} {n : Int} : Value.agg #[.slice a1 m.comps.length c1, .slice a2 m.comps.length c2, .slice a3 m.comps.length c3, .slice a4 m.shares.length c4, .int .i64 n] = .agg (layCells ⟨a1, c1, a2, c2, a3, c3, a4, c4⟩ ⟨codesTo m m.comps.length, datasTo m m.comps.length, heapsTo m m.comps.length, shsTo m m.shares.length, n⟩).toArray := by
 simp only [layCells, codesTo_len, datasTo_len, heapsTo_len, shsTo_len]
section
variable {a1 a2 a3 a4 : Option Addr} {c1 c2 c3 c4 n1 n2 n3 n4 : Nat} {L : LayV} {w : World}
theorem lay_ok {E1 E2 : Nat} (h1 : (ownI E1 2 a1 c1 n1 (L.codes.flatMap encR)).φ w) (h2 : (ownI E1 2 a2 c2 n2 (L.datas.flatMap encR)).φ w) (h3 : (ownI E1 2 a3 c3 n3 (L.heaps.flatMap encR)).φ w) (h4 : (ownI E2 1 a4 c4 n4 (L.shs.flatMap encI)).φ w) :
  ∀ i ∈ layIs ⟨a1, c1, a2, c2, a3, c3, a4, c4⟩ L, i.φ w := by
 intro i hi
 simp only [layIs, List.mem_cons, List.not_mem_nil, or_false] at hi
 rcases hi with rfl | rfl | rfl | rfl
 ·exact arr_of_own (m := 2) (fun _ => rfl) (by decide) h1
 ·exact arr_of_own (m := 2) (fun _ => rfl) (by decide) h2
 ·exact arr_of_own (m := 2) (fun _ => rfl) (by decide) h3
 ·exact arr_of_own (m := 1) (fun _ => rfl) (by decide) h4
theorem lay_new {k : Nat} (h1 : ∀ b, (∃ o, a1 = some ⟨b, o, none⟩) → k ≤ b) (h2 : ∀ b, (∃ o, a2 = some ⟨b, o, none⟩) → k ≤ b) (h3 : ∀ b, (∃ o, a3 = some ⟨b, o, none⟩) → k ≤ b) (h4 : ∀ b, (∃ o, a4 = some ⟨b, o, none⟩) → k ≤ b) :
  ∀ i ∈ layIs ⟨a1, c1, a2, c2, a3, c3, a4, c4⟩ L, ∀ b, i.fp b → k ≤ b := by
 intro i hi b hb
 simp only [layIs, List.mem_cons, List.not_mem_nil, or_false] at hi
 rcases hi with rfl | rfl | rfl | rfl
 ·exact h1 b hb.2
 ·exact h2 b hb.2
 ·exact h3 b hb.2
 ·exact h4 b hb.2
theorem lay_B {E1 E2 : Nat} {m : ImageV} {p : Int} (h1 : (ownI E1 2 a1 c1 m.comps.length ((codesTo m m.comps.length).flatMap encR)).φ w) (h2 : (ownI E1 2 a2 c2 m.comps.length ((datasTo m m.comps.length).flatMap encR)).φ w) (h3 : (ownI E1 2 a3 c3 m.comps.length ((heapsTo m m.comps.length).flatMap encR)).φ w) (h4 : (ownI E2 1 a4 c4 m.shares.length ((shsTo m m.shares.length).flatMap encI)).φ w) :
  LayB ⟨a1, c1, a2, c2, a3, c3, a4, c4⟩ ⟨codesTo m m.comps.length, datasTo m m.comps.length, heapsTo m m.comps.length, shsTo m m.shares.length, p⟩ :=
 ⟨by show (codesTo m m.comps.length).length ≤ c1; rw [codesTo_len]; exact (own_cap h1).1, by show (datasTo m m.comps.length).length ≤ c2; rw [datasTo_len]; exact (own_cap h2).1, by show (heapsTo m m.comps.length).length ≤ c3; rw [heapsTo_len]; exact (own_cap h3).1, by show (shsTo m m.shares.length).length ≤ c4; rw [shsTo_len]; exact (own_cap h4).1, (own_cap h1).2, (own_cap h2).2, (own_cap h3).2, (own_cap h4).2⟩
end

/-- seizin/image.Where$1 -/
theorem take_c (n p : Int) (bb : Nat) (w : World) (h : (blk bb [.int .i64 p] 3).φ w) (hp : 0 ≤ p ∧ p ≤ 100000) (hn : 0 ≤ n ∧ n ≤ 100000) :
  C Try.prog 44 [.int .i64 n, .pointer (some ⟨bb, 0, none⟩)] w fun v w' => (v = .agg #[.int .i64 (p * 256), .int .i64 ((p + n) * 256)] ∧ (blk bb [.int .i64 (p + n)] 3).φ w') ∧ Keeps (fun x => x = bb) w w' := by
 have hs0 : St w (fun x => x = bb) w [blk bb [.int .i64 p] 3] [] := St.start1 w (blk bb [.int .i64 p] 3) _ h (fun _ h => by cases h) (fun _ h => by cases h)
 refine C_of_W [.cell 3 51] 14 Try.func44 rfl Try.ntmps44 rfl rfl ?_
 refine W_seq (W_region ?_)
 refine L_cons rfl (O_alloc (cs := [.int .i64 0, .int .i64 0]) hs0 zv51 rfl rfl ?_)
 intro b1 w2 hb4 hs3
 refine L_nil (thenQ_n (W_seq (W_region ?_)))
 refine L_cons rfl (O_load (v := .int .i64 p) rfl ag3 (cell_of_blk (hs3.get 1 rfl) rfl) rfl ?_)
 refine L_cons rfl (O_bin (v := .int .i64 (p * 256)) rfl rfl rfl (b_mul (wrap_i64e (by omega) (by omega))) ?_)
 refine L_cons rfl (O_assign (v := .int .i64 (p * 256)) rfl rfl ?_)
 refine L_nil (thenQ_n (W_seq (W_region ?_)))
 refine L_cons rfl (O_load (v := .int .i64 p) rfl ag3 (cell_of_blk (hs3.get 1 rfl) rfl) rfl ?_)
 refine L_cons rfl (O_move (v := .int .i64 n) rfl rfl ?_)
 refine L_cons rfl (O_bin (v := .int .i64 (p + n)) rfl rfl rfl (b_add (wrap_i64e (by omega) (by omega))) ?_)
 refine L_cons rfl (O_store (v := .int .i64 (p + n)) (vs := [.int .i64 (p + n)]) (cs' := [.int .i64 (p + n)]) hs3 1 rfl rfl rfl sz3 rfl rfl rfl rfl rfl ?_)
 intro w5 hs6
 refine L_nil (thenQ_n (W_seq (W_region ?_)))
 refine L_cons rfl (O_move (v := .int .i64 (p * 256)) rfl rfl ?_)
 refine L_cons rfl (O_load (v := .int .i64 (p + n)) rfl ag3 (cell_of_blk (hs6.get 1 rfl) rfl) rfl ?_)
 refine L_cons rfl (O_bin (v := .int .i64 ((p + n) * 256)) rfl rfl rfl (b_mul (wrap_i64e (by omega) (by omega))) ?_)
 refine L_cons rfl (O_build_arr (ps := [(0, [.int .i64 (p * 256)]), (1, [.int .i64 ((p + n) * 256)])]) (zero := [.int .i64 0, .int .i64 0]) (cells := [.int .i64 (p * 256), .int .i64 ((p + n) * 256)]) un51 sz3 zv51 rfl rfl rfl rfl ?_)
 refine L_cons rfl (O_store (v := .agg #[.int .i64 (p * 256), .int .i64 ((p + n) * 256)]) (vs := [.int .i64 (p * 256), .int .i64 ((p + n) * 256)]) (cs' := [.int .i64 (p * 256), .int .i64 ((p + n) * 256)]) hs6 0 rfl rfl rfl sz51 rfl rfl rfl rfl rfl ?_)
 intro w7 hs8
 refine L_nil (thenQ_n (W_ret ?_))
 refine ⟨.agg #[.int .i64 (p * 256), .int .i64 ((p + n) * 256)], resn [.agg #[.int .i64 (p * 256), .int .i64 ((p + n) * 256)]] ⟨(rv_agg rfl ag51 sz51 (vs := [.int .i64 (p * 256), .int .i64 ((p + n) * 256)]) (Rd.of_blk (hs8.get 0 rfl) 0 2) rfl), trivial⟩ rfl, ?_⟩
 exact ⟨⟨rfl, hs8.get 1 rfl⟩, hs8.base⟩

/-- seizin/image.grant -/
theorem grant_c (a b p : Int) (w : World)  :
  C Try.prog 45 [.agg #[.int .i64 a, .int .i64 b], .int .i64 p] w fun v w' => v = .agg (encCap (grantV (a, b) p)).toArray ∧ Grow w w' := by
 have hs0 : St w (fun _ => False) w [] [] := St.start w _ (by simp)
 refine C_of_W [.cell 4 39] 13 Try.func45 rfl Try.ntmps45 rfl rfl ?_
 refine W_seq (W_region ?_)
 refine L_cons rfl (O_box (v := .agg #[.int .i64 a, .int .i64 b]) (cs := [.int .i64 a, .int .i64 b]) hs0 rfl rfl rfl ?_)
 intro b1 w2 hb4 hs3
 refine L_cons rfl (O_alloc (cs := [.bool false, .int .i64 0, .int .i64 0, .int .i64 0, .int .i64 0, .int .i64 0]) hs3 zv39 rfl rfl ?_)
 intro b5 w6 hb8 hs7
 refine L_nil (thenQ_n (W_seq (W_region ?_)))
 refine L_cons rfl (O_indexAddr_arr rfl rfl un51 sz3 (by omega) (by omega) (o' := 0) (by omega) rfl ?_)
 refine L_cons rfl (O_load (v := .int .i64 a) rfl ag3 (cell_of_blk (hs7.get 1 rfl) rfl) rfl ?_)
 refine L_cons rfl (O_indexAddr_arr rfl rfl un51 sz3 (by omega) (by omega) (o' := 1) (by omega) rfl ?_)
 refine L_cons rfl (O_load (v := .int .i64 b) rfl ag3 (cell_of_blk (hs7.get 1 rfl) rfl) rfl ?_)
 refine L_cons rfl (O_indexAddr_arr rfl rfl un51 sz3 (by omega) (by omega) (o' := 0) (by omega) rfl ?_)
 refine L_cons rfl (O_load (v := .int .i64 a) rfl ag3 (cell_of_blk (hs7.get 1 rfl) rfl) rfl ?_)
 refine L_cons rfl (O_move (v := .int .i64 p) rfl rfl ?_)
 refine L_cons rfl (O_build (ps := [(0, [.bool true]), (1, [.int .i64 a]), (2, [.int .i64 b]), (3, [.int .i64 a]), (4, [.int .i64 p])]) (cells := [.bool true, .int .i64 a, .int .i64 b, .int .i64 a, .int .i64 p, .int .i64 0]) bt39 rfl rfl rfl ?_)
 refine L_cons rfl (O_store (v := .agg #[.bool true, .int .i64 a, .int .i64 b, .int .i64 a, .int .i64 p, .int .i64 0]) (vs := [.bool true, .int .i64 a, .int .i64 b, .int .i64 a, .int .i64 p, .int .i64 0]) (cs' := [.bool true, .int .i64 a, .int .i64 b, .int .i64 a, .int .i64 p, .int .i64 0]) hs7 0 rfl rfl rfl sz39 rfl rfl rfl rfl rfl ?_)
 intro w9 hs10
 refine L_nil (thenQ_n (W_ret ?_))
 refine ⟨.agg #[.bool true, .int .i64 a, .int .i64 b, .int .i64 a, .int .i64 p, .int .i64 0], resn [.agg #[.bool true, .int .i64 a, .int .i64 b, .int .i64 a, .int .i64 p, .int .i64 0]] ⟨(rv_agg rfl ag39 sz39 (vs := [.bool true, .int .i64 a, .int .i64 b, .int .i64 a, .int .i64 p, .int .i64 0]) (Rd.of_blk (hs10.get 0 rfl) 0 6) rfl), trivial⟩ rfl, ?_⟩
 exact ⟨rfl, hs10.base⟩

/-- seizin/image.Where -/
theorem where_c (m : ImageV) (w : World) (hm : ∀ i ∈ imgIs m, i.φ w) (hb : ImgB m) :
  C Try.prog 22 [.agg (imgCells m).toArray] w fun v w' => (∃ A, v = .agg (layCells A (whereS m)).toArray ∧ (∀ i ∈ layIs A (whereS m), i.φ w') ∧ (∀ i ∈ layIs A (whereS m), ∀ b, i.fp b → w.heap.size ≤ b) ∧ LayB A (whereS m)) ∧ Grow w w' := by
 have hs0 : St w (fun _ => False) w [] (imgIs m) := St.start w _ hm
 refine C_of_W [.cell 2 45] 78 Try.func22 rfl Try.ntmps22 rfl rfl ?_
 refine W_seq (W_region ?_)
 refine L_cons rfl (O_box (v := .agg (imgCells m).toArray) (cs := (imgCells m)) hs0 rfl rfl rfl ?_)
 intro b1 w2 hb4 hs3
 refine L_cons rfl (O_alloc (cs := [.slice none 0 0, .slice none 0 0, .slice none 0 0, .slice none 0 0, .int .i64 0]) hs3 zv45 rfl rfl ?_)
 intro b5 w6 hb8 hs7
 refine L_nil (thenQ_n (W_seq (W_region ?_)))
 refine L_cons rfl (O_alloc (cs := [.slice none 0 0, .slice none 0 0, .slice none 0 0, .slice none 0 0, .int .i64 0]) hs7 zv45 rfl rfl ?_)
 intro b9 w10 hb12 hs11
 refine L_nil (thenQ_n (W_seq (W_seq (W_region ?_))))
 refine L_cons rfl (O_load_agg (vs := (imgCells m)) rfl ag26 sz26 (Rd.of_blk (hs11.get 2 rfl) 0 6) rfl rfl ?_)
 refine L_cons rfl (O_call (args := [.agg (imgCells m).toArray]) rfl rfl rfl en14 (iright_c m _ (hs11.r) hb) ?_)
 rintro _ w13 ⟨rfl, hk15⟩
 have hs14 := hs11.keep hk15
 refine L_cons rfl (O_not (b := (rightS m)) rfl rfl ?_)
 refine L_nil (thenQ_n ?_)
 refine W_cond (t := (!(rightS m))) rfl (fun hc16 => ?_) (fun hc16 => ?_)
 ·try simp only [Bool.and_eq_true, Bool.or_eq_true, Bool.not_eq_true', Bool.and_eq_false_iff, Bool.or_eq_false_iff, Bool.not_eq_false', decide_eq_true_eq, decide_eq_false_iff_not, Bool.and_eq_false_imp] at hc16
  refine W_seq (W_region ?_)
  refine L_cons rfl (O_load_agg (vs := [.slice none 0 0, .slice none 0 0, .slice none 0 0, .slice none 0 0, .int .i64 0]) rfl ag45 sz45 (Rd.of_blk (hs14.get 0 rfl) 0 5) rfl rfl ?_)
  refine L_cons rfl (O_store (v := .agg #[.slice none 0 0, .slice none 0 0, .slice none 0 0, .slice none 0 0, .int .i64 0]) (vs := [.slice none 0 0, .slice none 0 0, .slice none 0 0, .slice none 0 0, .int .i64 0]) (cs' := [.slice none 0 0, .slice none 0 0, .slice none 0 0, .slice none 0 0, .int .i64 0]) hs14 1 rfl rfl rfl sz45 rfl rfl rfl rfl rfl ?_)
  intro w17 hs18
  refine L_nil (thenQ_n (W_ret (thenQ_r ?_)))
  refine ⟨.agg #[.slice none 0 0, .slice none 0 0, .slice none 0 0, .slice none 0 0, .int .i64 0], resn [.agg #[.slice none 0 0, .slice none 0 0, .slice none 0 0, .slice none 0 0, .int .i64 0]] ⟨(rv_agg rfl ag45 sz45 (vs := [.slice none 0 0, .slice none 0 0, .slice none 0 0, .slice none 0 0, .int .i64 0]) (Rd.of_blk (hs18.get 1 rfl) 0 5) rfl), trivial⟩ rfl, ?_⟩
  have he : whereS m = ⟨[], [], [], [], 0⟩ := by unfold whereS; rw [hc16]; rfl
  exact ⟨⟨⟨none, 0, none, 0, none, 0, none, 0⟩, by rw [he]; rfl, by rw [he]; exact lay0_ok, by rw [he]; exact lay0_new, by rw [he]; exact lay0_B⟩, hs18.base⟩
 ·try simp only [Bool.and_eq_true, Bool.or_eq_true, Bool.not_eq_true', Bool.and_eq_false_iff, Bool.or_eq_false_iff, Bool.not_eq_false', decide_eq_true_eq, decide_eq_false_iff_not, Bool.and_eq_false_imp] at hc16
  refine W_skip (thenQ_n (W_seq ?_))
  have hright : rightS m = true := by simpa using hc16
  have hok := rightS_ok hright
  have := hok.n4; have := hok.s4; have := hok.h1; have := hok.h64; have hpe := pgEnd_b hok
  refine W_region ?_
  refine L_cons rfl (O_alloc (cs := [.int .i64 0]) hs14 zv3 rfl rfl ?_)
  intro b19 w20 hb22 hs21
  refine L_cons rfl (O_store (v := .int .i64 1) (vs := [.int .i64 1]) (cs' := [.int .i64 1]) hs21 0 rfl rfl rfl sz3 rfl rfl rfl rfl rfl ?_)
  intro w23 hs24
  refine L_nil (thenQ_n (W_seq (W_region ?_)))
  refine L_cons rfl (O_makeFunc (fi := []) (cap := [.pointer (some ⟨b19, 0, none⟩)]) rfl rfl rfl ?_)
  refine L_cons rfl (O_assign (v := .func (.func 44) #[] #[.pointer (some ⟨b19, 0, none⟩)]) rfl rfl ?_)
  refine L_nil (thenQ_n (W_seq (W_seq (W_region ?_))))
  refine L_cons rfl (O_fieldAddr rfl fd26_3 rfl (o' := 3) rfl rfl ?_)
  refine L_cons rfl (O_load (v := .slice m.ca m.comps.length m.ccap) rfl ag22 (cell_of_blk (hs24.get 3 rfl) rfl) rfl ?_)
  refine L_cons rfl (O_len_slice (len := m.comps.length) rfl un22 rfl ?_)
  refine L_cons rfl (O_move (v := .int .i64 0) rfl rfl ?_)
  refine L_nil (thenQ_n (W_block ?_))
  have hs25 := hs24.ownNil 51 2
  have hs26 := hs25.ownNil 51 2
  have hs27 := hs26.ownNil 51 2
  refine W_loopm (fun m_ f_ w_ => ∃ k : Nat, ∃ a1 : Option Addr, ∃ c1 : Nat, ∃ a2 : Option Addr, ∃ c2 : Nat, ∃ a3 : Option Addr, ∃ c3 : Nat, m_ = m.comps.length - k ∧ (k ≤ m.comps.length) ∧ f_ 1 = .pointer (some ⟨b1, 0, none⟩) ∧ f_ 2 = .pointer (some ⟨b5, 0, none⟩) ∧ f_ 3 = .pointer (some ⟨b9, 0, none⟩) ∧ f_ 4 = .pointer (some ⟨b19, 0, none⟩) ∧ f_ 5 = .func (.func 44) #[] #[.pointer (some ⟨b19, 0, none⟩)] ∧ f_ 15 = .slice m.ca m.comps.length m.ccap ∧ f_ 16 = .int .i64 ((m.comps.length : Nat) : Int) ∧ f_ 17 = .int .i64 ((k : Nat) : Int) ∧ St w (fun _ => False) w_ [ownI 51 2 a1 c1 k ((codesTo m k).flatMap encR), ownI 51 2 a2 c2 k ((datasTo m k).flatMap encR), ownI 51 2 a3 c3 k ((heapsTo m k).flatMap encR), blk b19 [.int .i64 (pgAt m k)] 3, blk b9 [.slice a1 k c1, .slice a2 k c2, .slice a3 k c3, .slice none 0 0, .int .i64 0] 45, blk b5 [.slice none 0 0, .slice none 0 0, .slice none 0 0, .slice none 0 0, .int .i64 0] 45, blk b1 (imgCells m) 26] (imgIs m)) ?_ ?_
  ·exact ⟨_, 0, none, 0, none, 0, none, 0, rfl, by omega, rfl, rfl, rfl, rfl, rfl, rfl, rfl, rfl, hs27⟩
  ·intro m31 f28 w29; rintro ⟨k, a1, c1, a2, c2, a3, c3, rfl, hk1, e32, e33, e34, e35, e36, e37, e38, e39, hs30⟩
   rewrite [upd_id e32]
   rewrite [upd_id e33]
   rewrite [upd_id e34]
   rewrite [upd_id e35]
   rewrite [upd_id e36]
   rewrite [upd_id e37]
   rewrite [upd_id e38]
   rewrite [upd_id e39]
   refine W_seq (W_region ?_)
   refine L_cons rfl (O_bin (k := .i64) (k' := .i64) (a := ((k : Nat) : Int)) (b := ((m.comps.length : Nat) : Int)) rfl rfl rfl b_lss ?_)
   refine L_nil (thenQ_n (W_seq ?_))
   refine W_cond_d rfl (fun hc40 => ?_) (fun hc40 => ?_)
   ·refine W_skip (thenQ_n (W_seq (W_block (W_seq ?_))))
    have hpb := pgAt_b hok k (by omega)
    have hcc := hok.comp _ (List.getElem_mem (by omega : k < m.comps.length))
    have := hcc.lm; have := hcc.d1; have := hcc.d8; have := hcc.g1; have := hcc.g16
    have hps := pgAt_succ (m := m) (k := k) (by omega)
    refine W_region ?_
    obtain ⟨b41, o42, ha43, hs44⟩ := hs30.elem 0 rfl k (by omega)
    refine L_cons rfl (O_indexAddr_at rfl ha43 rfl un22 sz53 (by omega) (by omega) (o' := o42 + k * 2) (by omega) rfl ?_)
    refine L_cons rfl (O_load_agg (vs := [.slice ((m.comps[k]'(by omega)).a) ((m.comps[k]'(by omega)).code.length) ((m.comps[k]'(by omega)).cap), .int .i64 ((m.comps[k]'(by omega)).data)]) rfl ag53 sz53 ((hs44.getR 0 rfl).2) rfl rfl ?_)
    refine L_cons rfl (O_alloc (cs := [.slice none 0 0, .int .i64 0]) hs44 zv53 rfl rfl ?_)
    intro b45 w46 hb48 hs47
    refine L_cons rfl (O_store (v := .agg #[.slice ((m.comps[k]'(by omega)).a) ((m.comps[k]'(by omega)).code.length) ((m.comps[k]'(by omega)).cap), .int .i64 ((m.comps[k]'(by omega)).data)]) (vs := [.slice ((m.comps[k]'(by omega)).a) ((m.comps[k]'(by omega)).code.length) ((m.comps[k]'(by omega)).cap), .int .i64 ((m.comps[k]'(by omega)).data)]) (cs' := [.slice ((m.comps[k]'(by omega)).a) ((m.comps[k]'(by omega)).code.length) ((m.comps[k]'(by omega)).cap), .int .i64 ((m.comps[k]'(by omega)).data)]) hs47 0 rfl rfl rfl sz53 rfl rfl rfl rfl rfl ?_)
    intro w49 hs50
    refine L_nil (thenQ_n (W_seq (W_region ?_)))
    refine L_cons rfl (O_move (v := .func (.func 44) #[] #[.pointer (some ⟨b19, 0, none⟩)]) rfl rfl ?_)
    refine L_cons rfl (O_fieldAddr rfl fd53_0 rfl (o' := 0) rfl rfl ?_)
    refine L_cons rfl (O_load (v := .slice ((m.comps[k]'(by omega)).a) ((m.comps[k]'(by omega)).code.length) ((m.comps[k]'(by omega)).cap)) rfl ag27 (cell_of_blk (hs50.get 0 rfl) rfl) rfl ?_)
    refine L_cons rfl (O_len_slice (len := ((m.comps[k]'(by omega)).code.length)) rfl un27 rfl ?_)
    refine L_cons rfl (O_bin (v := .int .i64 (((m.comps[k]'(by omega)).code.length + 256 : Nat) : Int)) rfl rfl rfl (b_add (wrap_i64e (by omega) (by omega))) ?_)
    refine L_cons rfl (O_bin (v := .int .i64 ((((m.comps[k]'(by omega)).code.length + 256 : Nat) : Int) - 1)) rfl rfl rfl (b_sub (wrap_i64e (by omega) (by omega))) ?_)
    refine L_cons rfl (O_bin (v := .int .i64 (cpg (m.comps[k]'(by omega)))) rfl rfl rfl (b_quo (by omega) (quo_i64 (by omega) (by omega) (by omega))) ?_)
    refine L_cons rfl (O_call (args := [.int .i64 (cpg (m.comps[k]'(by omega))), .pointer (some ⟨b19, 0, none⟩)]) rfl rfl rfl en44 (take_c (cpg (m.comps[k]'(by omega))) (pgAt m k) b19 _ (hs50.get 4 rfl) (by omega) (by omega)) ?_)
    rintro _ w51 ⟨⟨rfl, hr53⟩, hk54⟩
    have hs52 := hs50.mut 4 rfl hk54 (blk b19 [.int .i64 (pgAt m k + (cpg (m.comps[k]'(by omega))))] 3) hr53 (fun _ h => .inl h)
    refine L_cons rfl (O_alloc (cs := [.int .i64 0, .int .i64 0]) hs52 zv51 rfl rfl ?_)
    intro b55 w56 hb58 hs57
    refine L_cons rfl (O_store (v := .agg #[.int .i64 ((pgAt m k) * 256), .int .i64 ((pgAt m k + (cpg (m.comps[k]'(by omega)))) * 256)]) (vs := [.int .i64 ((pgAt m k) * 256), .int .i64 ((pgAt m k + (cpg (m.comps[k]'(by omega)))) * 256)]) (cs' := [.int .i64 ((pgAt m k) * 256), .int .i64 ((pgAt m k + (cpg (m.comps[k]'(by omega)))) * 256)]) hs57 0 rfl rfl rfl sz51 rfl rfl rfl rfl rfl ?_)
    intro w59 hs60
    refine L_nil (thenQ_n (W_seq (W_region ?_)))
    refine L_cons rfl (O_indexAddr_arr rfl rfl un51 sz3 (by omega) (by omega) (o' := 0) (by omega) rfl ?_)
    refine L_cons rfl (O_load (v := .int .i64 ((pgAt m k) * 256)) rfl ag3 (cell_of_blk (hs60.get 0 rfl) rfl) rfl ?_)
    refine L_cons rfl (O_fieldAddr rfl fd53_0 rfl (o' := 0) rfl rfl ?_)
    refine L_cons rfl (O_load (v := .slice ((m.comps[k]'(by omega)).a) ((m.comps[k]'(by omega)).code.length) ((m.comps[k]'(by omega)).cap)) rfl ag27 (cell_of_blk (hs60.get 1 rfl) rfl) rfl ?_)
    refine L_cons rfl (O_len_slice (len := ((m.comps[k]'(by omega)).code.length)) rfl un27 rfl ?_)
    refine L_cons rfl (O_bin (v := .int .i64 (((pgAt m k) * 256) + (((m.comps[k]'(by omega)).code.length : Nat) : Int))) rfl rfl rfl (b_add (wrap_i64e (by omega) (by omega))) ?_)
    refine L_cons rfl (O_indexAddr_arr rfl rfl un51 sz3 (by omega) (by omega) (o' := 1) (by omega) rfl ?_)
    refine L_cons rfl (O_store (v := .int .i64 (((pgAt m k) * 256) + (((m.comps[k]'(by omega)).code.length : Nat) : Int))) (vs := [.int .i64 (((pgAt m k) * 256) + (((m.comps[k]'(by omega)).code.length : Nat) : Int))]) (cs' := [.int .i64 ((pgAt m k) * 256), .int .i64 (((pgAt m k) * 256) + (((m.comps[k]'(by omega)).code.length : Nat) : Int))]) hs60 0 rfl rfl rfl sz3 rfl rfl rfl rfl rfl ?_)
    intro w61 hs62
    refine L_nil (thenQ_n ?_)
    refine W_par' mixed (show St _ _ _ [blk b55 [.int .i64 ((pgAt m k) * 256), .int .i64 (((pgAt m k) * 256) + (((m.comps[k]'(by omega)).code.length : Nat) : Int))] 51, blk b45 [.slice ((m.comps[k]'(by omega)).a) ((m.comps[k]'(by omega)).code.length) ((m.comps[k]'(by omega)).cap), .int .i64 ((m.comps[k]'(by omega)).data)] 53, ownI 51 2 a1 c1 k ((codesTo m k).flatMap encR), ownI 51 2 a2 c2 k ((datasTo m k).flatMap encR), ownI 51 2 a3 c3 k ((heapsTo m k).flatMap encR), blk b19 [.int .i64 (pgAt m k + (cpg (m.comps[k]'(by omega))))] 3, blk b9 [.slice a1 k c1, .slice a2 k c2, .slice a3 k c3, .slice none 0 0, .int .i64 0] 45, blk b5 [.slice none 0 0, .slice none 0 0, .slice none 0 0, .slice none 0 0, .int .i64 0] 45, blk b1 (imgCells m) 26] _ from hs62) (fun i_ => match i_ with | 3 => some ([39], fun vs_ => match vs_ with | [x39] => blk (vblk x39) [.int .i64 ((pgAt m k) * 256), .int .i64 (((pgAt m k) * 256) + (((m.comps[k]'(by omega)).code.length : Nat) : Int))] 51 | _ => emp) | 4 => some ([40], fun vs_ => match vs_ with | [x40] => ownI 51 2 (vaddr x40) (vcap x40) (k + 1) ((codesTo m (k + 1)).flatMap encR) | _ => emp) | 10 => some ([], fun _ => blk b19 [.int .i64 (pgAt m k + (cpg (m.comps[k]'(by omega))) + ((m.comps[k]'(by omega)).data))] 3) | 11 => some ([47], fun vs_ => match vs_ with | [x47] => blk (vblk x47) [.int .i64 ((pgAt m k + (cpg (m.comps[k]'(by omega)))) * 256), .int .i64 ((pgAt m k + (cpg (m.comps[k]'(by omega))) + ((m.comps[k]'(by omega)).data)) * 256)] 51 | _ => emp) | 12 => some ([48], fun vs_ => match vs_ with | [x48] => ownI 51 2 (vaddr x48) (vcap x48) (k + 1) ((datasTo m (k + 1)).flatMap encR) | _ => emp) | 18 => some ([], fun _ => blk b19 [.int .i64 (pgAt m k + (cpg (m.comps[k]'(by omega))) + ((m.comps[k]'(by omega)).data) + m.heap)] 3) | 19 => some ([55], fun vs_ => match vs_ with | [x55] => blk (vblk x55) [.int .i64 ((pgAt m k + (cpg (m.comps[k]'(by omega))) + ((m.comps[k]'(by omega)).data)) * 256), .int .i64 ((pgAt m k + (cpg (m.comps[k]'(by omega))) + ((m.comps[k]'(by omega)).data) + m.heap) * 256)] 51 | _ => emp) | 20 => some ([56], fun vs_ => match vs_ with | [x56] => ownI 51 2 (vaddr x56) (vcap x56) (k + 1) ((heapsTo m (k + 1)).flatMap encR) | _ => emp) | 22 => some ([40], fun vs_ => match vs_ with | [x40] => blk b9 [.slice (vaddr x40) (k + 1) (vcap x40), .slice a2 k c2, .slice a3 k c3, .slice none 0 0, .int .i64 0] 45 | _ => emp) | 24 => some ([40, 48], fun vs_ => match vs_ with | [x40, x48] => blk b9 [.slice (vaddr x40) (k + 1) (vcap x40), .slice (vaddr x48) (k + 1) (vcap x48), .slice a3 k c3, .slice none 0 0, .int .i64 0] 45 | _ => emp) | 26 => some ([40, 48, 56], fun vs_ => match vs_ with | [x40, x48, x56] => blk b9 [.slice (vaddr x40) (k + 1) (vcap x40), .slice (vaddr x48) (k + 1) (vcap x48), .slice (vaddr x56) (k + 1) (vcap x56), .slice none 0 0, .int .i64 0] 45 | _ => emp) | _ => none) (fun i_ => match i_ with | 4 => [29] | 10 => [32] | 12 => [30] | 18 => [10] | 20 => [31] | 22 => [33] | 24 => [22] | 26 => [24] | _ => []) (fun i_ => match i_ with | 1 => [33] | 2 => [27] | 4 => [3] | 6 => [33] | 9 => [28] | 12 => [11] | 14 => [33] | 17 => [35] | 20 => [19] | _ => []) (fun i_ => match i_ with | 1 => [0] | 3 => [2] | 4 => [1, 3] | 6 => [5] | 9 => [8] | 10 => [7, 9] | 11 => [10] | 12 => [6, 11] | 14 => [13] | 17 => [16] | 18 => [15, 17] | 19 => [18] | 20 => [14, 19] | 22 => [21, 4] | 24 => [23, 12, 4] | 26 => [25, 20, 4, 12] | _ => []) [19, 11, 3, 27, 28, 4, 12, 20, 18, 26, 34, 35, 0, 1, 2, 5, 6, 7, 8, 9, 13, 14, 15, 16, 17, 21, 23, 25, 36, 37, 38, 39, 40, 41, 42, 43, 44, 45, 46, 47, 48, 49, 50, 51, 52, 53, 54, 55, 56, 57, 58, 59, 60, 61, 62] [3, 4, 11, 12, 19, 20] (fun i_ v_ => match i_ with | 0 => v_ = .pointer (some ⟨b9, 0, none⟩) | 1 => v_ = .slice a1 k c1 | 2 => v_ = .agg #[.int .i64 ((pgAt m k) * 256), .int .i64 (((pgAt m k) * 256) + (((m.comps[k]'(by omega)).code.length : Nat) : Int))] | 3 => ∃ b63 : Nat, v_ = .slice (some ⟨b63, 0, none⟩) 1 1 | 4 => ∃ a67 : Option Addr, ∃ c68 : Nat, v_ = .slice a67 (k + 1) c68 | 5 => v_ = .pointer (some ⟨b9, 1, none⟩) | 6 => v_ = .slice a2 k c2 | 7 => v_ = .func (.func 44) #[] #[.pointer (some ⟨b19, 0, none⟩)] | 8 => v_ = .pointer (some ⟨b45, 1, none⟩) | 9 => v_ = .int .i64 ((m.comps[k]'(by omega)).data) | 10 => v_ = .agg #[.int .i64 ((pgAt m k + (cpg (m.comps[k]'(by omega)))) * 256), .int .i64 ((pgAt m k + (cpg (m.comps[k]'(by omega))) + ((m.comps[k]'(by omega)).data)) * 256)] | 11 => ∃ b75 : Nat, v_ = .slice (some ⟨b75, 0, none⟩) 1 1 | 12 => ∃ a79 : Option Addr, ∃ c80 : Nat, v_ = .slice a79 (k + 1) c80 | 13 => v_ = .pointer (some ⟨b9, 2, none⟩) | 14 => v_ = .slice a3 k c3 | 15 => v_ = .func (.func 44) #[] #[.pointer (some ⟨b19, 0, none⟩)] | 16 => v_ = .pointer (some ⟨b1, 1, none⟩) | 17 => v_ = .int .i64 m.heap | 18 => v_ = .agg #[.int .i64 ((pgAt m k + (cpg (m.comps[k]'(by omega))) + ((m.comps[k]'(by omega)).data)) * 256), .int .i64 ((pgAt m k + (cpg (m.comps[k]'(by omega))) + ((m.comps[k]'(by omega)).data) + m.heap) * 256)] | 19 => ∃ b87 : Nat, v_ = .slice (some ⟨b87, 0, none⟩) 1 1 | 20 => ∃ a91 : Option Addr, ∃ c92 : Nat, v_ = .slice a91 (k + 1) c92 | 21 => v_ = .pointer (some ⟨b9, 0, none⟩) | 23 => v_ = .pointer (some ⟨b9, 1, none⟩) | 25 => v_ = .pointer (some ⟨b9, 2, none⟩) | _ => True) (by kernel_rfl) (by kernel_rfl) ⟨?_, ?_, ?_, ?_, ?_, ?_, ?_, ?_, ?_, ?_, ?_, ?_, ?_, ?_, ?_, ?_, ?_, ?_, ?_, ?_, ?_, ?_, ?_, ?_, ?_, ?_, ?_, trivial⟩ ?_
    ·intro f0_ w0_ X0_ hfr hus hrd hst
     have hb3 : f0_ 3 = .pointer (some ⟨b9, 0, none⟩) := (hfr 3 rfl)
     refine og_none rfl (O_fieldAddr hb3 fd45_0 rfl (o' := 0) rfl rfl ?_)
     exact ⟨.pointer (some ⟨b9, 0, none⟩), rfl, rfl, hst⟩
    ·intro f1_ w1_ X1_ hfr hus hrd hst
     obtain ⟨hu0, -⟩ := hus
     have hu0 : f1_ 36 = .pointer (some ⟨b9, 0, none⟩) := hu0
     obtain ⟨hr33, -⟩ := hrd
     have hr33 : Item.φ (blk b9 [.slice a1 k c1, .slice a2 k c2, .slice a3 k c3, .slice none 0 0, .int .i64 0] 45) w1_ := hr33
     refine og_none rfl (O_load (v := .slice a1 k c1) hu0 ag42 (cell_of_blk (hr33) rfl) rfl ?_)
     exact ⟨.slice a1 k c1, rfl, rfl, hst⟩
    ·intro f2_ w2_ X2_ hfr hus hrd hst
     have hb8 : f2_ 8 = .pointer (some ⟨b55, 0, none⟩) := (hfr 8 rfl)
     obtain ⟨hr27, -⟩ := hrd
     have hr27 : Item.φ (blk b55 [.int .i64 ((pgAt m k) * 256), .int .i64 (((pgAt m k) * 256) + (((m.comps[k]'(by omega)).code.length : Nat) : Int))] 51) w2_ := hr27
     refine og_none rfl (O_load_agg (vs := [.int .i64 ((pgAt m k) * 256), .int .i64 (((pgAt m k) * 256) + (((m.comps[k]'(by omega)).code.length : Nat) : Int))]) hb8 ag51 sz51 (Rd.of_blk (hr27) 0 2) rfl rfl ?_)
     exact ⟨.agg #[.int .i64 ((pgAt m k) * 256), .int .i64 (((pgAt m k) * 256) + (((m.comps[k]'(by omega)).code.length : Nat) : Int))], rfl, rfl, hst⟩
    ·intro f3_ w3_ X3_ hfr hus hrd hst
     obtain ⟨hu2, -⟩ := hus
     have hu2 : f3_ 38 = .agg #[.int .i64 ((pgAt m k) * 256), .int .i64 (((pgAt m k) * 256) + (((m.comps[k]'(by omega)).code.length : Nat) : Int))] := hu2
     refine og_none rfl (O_buildSlice (zs := [.int .i64 0, .int .i64 0]) (ps := [(0, [.int .i64 ((pgAt m k) * 256), .int .i64 (((pgAt m k) * 256) + (((m.comps[k]'(by omega)).code.length : Nat) : Int))])]) (cs := [.int .i64 ((pgAt m k) * 256), .int .i64 (((pgAt m k) * 256) + (((m.comps[k]'(by omega)).code.length : Nat) : Int))]) hst un42 sz51 zv51 rfl rfl (by simp only [List.map_cons, List.map_nil, List.nil_append, List.cons_append, List.append_nil, ev, Value.cells, hu2]) rfl rfl ?_)
     intro b63 w64 hb66 hs65
     refine ⟨.slice (some ⟨b63, 0, none⟩) 1 1, rfl, ⟨_, rfl⟩, ?_⟩
     show St _ _ _ ((blk (vblk ((upd f3_ 39 (.slice (some ⟨b63, 0, none⟩) 1 1)) 39)) [.int .i64 ((pgAt m k) * 256), .int .i64 (((pgAt m k) * 256) + (((m.comps[k]'(by omega)).code.length : Nat) : Int))] 51) :: X3_) _
     exact hs65
    ·intro f4_ w4_ X4_ hfr hus hrd hst
     obtain ⟨hu1, hu3, -⟩ := hus
     have hu1 : f4_ 37 = .slice a1 k c1 := hu1
     obtain ⟨b63, hu3⟩ := (show ∃ b63 : Nat, f4_ 39 = .slice (some ⟨b63, 0, none⟩) 1 1 from hu3)
     have hst : St _ _ _ ((ownI 51 2 a1 c1 k ((codesTo m k).flatMap encR)) :: X4_) _ := hst
     obtain ⟨hr3, -⟩ := hrd
     have hr3 : Item.φ (blk (vblk (f4_ 39)) [.int .i64 ((pgAt m k) * 256), .int .i64 (((pgAt m k) * 256) + (((m.comps[k]'(by omega)).code.length : Nat) : Int))] 51) w4_ := hr3
     rw [hu3] at hr3; simp only [vblk, vaddr, vcap, vcell] at hr3
     refine og_none rfl (O_appendE (n2 := k + 1) (xs2 := (codesTo m (k + 1)).flatMap encR) hst 0 rfl hu1 hu3 un42 ni42 inf51 rfl (Src.rd (news := [.int .i64 ((pgAt m k) * 256), .int .i64 (((pgAt m k) * 256) + (((m.comps[k]'(by omega)).code.length : Nat) : Int))]) (Rd.of_blk (hr3) 0 2) rfl rfl) (rfl) (code_snoc (by omega)) (by omega) (by omega) rfl ?_)
     intro a67 c68 w69 hs70
     refine ⟨.slice a67 (k + 1) c68, rfl, ⟨_, _, rfl⟩, ?_⟩
     show St _ _ _ ((ownI 51 2 (vaddr ((upd f4_ 40 (.slice a67 (k + 1) c68)) 40)) (vcap ((upd f4_ 40 (.slice a67 (k + 1) c68)) 40)) (k + 1) ((codesTo m (k + 1)).flatMap encR)) :: X4_) _
     exact hs70
    ·intro f5_ w5_ X5_ hfr hus hrd hst
     have hb3 : f5_ 3 = .pointer (some ⟨b9, 0, none⟩) := (hfr 3 rfl)
     refine og_none rfl (O_fieldAddr hb3 fd45_1 rfl (o' := 1) rfl rfl ?_)
     exact ⟨.pointer (some ⟨b9, 1, none⟩), rfl, rfl, hst⟩
    ·intro f6_ w6_ X6_ hfr hus hrd hst
     obtain ⟨hu5, -⟩ := hus
     have hu5 : f6_ 41 = .pointer (some ⟨b9, 1, none⟩) := hu5
     obtain ⟨hr33, -⟩ := hrd
     have hr33 : Item.φ (blk b9 [.slice a1 k c1, .slice a2 k c2, .slice a3 k c3, .slice none 0 0, .int .i64 0] 45) w6_ := hr33
     refine og_none rfl (O_load (v := .slice a2 k c2) hu5 ag42 (cell_of_blk (hr33) rfl) rfl ?_)
     exact ⟨.slice a2 k c2, rfl, rfl, hst⟩
    ·intro f7_ w7_ X7_ hfr hus hrd hst
     have hb5 : f7_ 5 = .func (.func 44) #[] #[.pointer (some ⟨b19, 0, none⟩)] := (hfr 5 rfl)
     refine og_none rfl (O_move (v := .func (.func 44) #[] #[.pointer (some ⟨b19, 0, none⟩)]) hb5 rfl ?_)
     exact ⟨.func (.func 44) #[] #[.pointer (some ⟨b19, 0, none⟩)], rfl, rfl, hst⟩
    ·intro f8_ w8_ X8_ hfr hus hrd hst
     have hb7 : f8_ 7 = .pointer (some ⟨b45, 0, none⟩) := (hfr 7 rfl)
     refine og_none rfl (O_fieldAddr hb7 fd53_1 rfl (o' := 1) rfl rfl ?_)
     exact ⟨.pointer (some ⟨b45, 1, none⟩), rfl, rfl, hst⟩
    ·intro f9_ w9_ X9_ hfr hus hrd hst
     obtain ⟨hu8, -⟩ := hus
     have hu8 : f9_ 44 = .pointer (some ⟨b45, 1, none⟩) := hu8
     obtain ⟨hr28, -⟩ := hrd
     have hr28 : Item.φ (blk b45 [.slice ((m.comps[k]'(by omega)).a) ((m.comps[k]'(by omega)).code.length) ((m.comps[k]'(by omega)).cap), .int .i64 ((m.comps[k]'(by omega)).data)] 53) w9_ := hr28
     refine og_none rfl (O_load (v := .int .i64 ((m.comps[k]'(by omega)).data)) hu8 ag3 (cell_of_blk (hr28) rfl) rfl ?_)
     exact ⟨.int .i64 ((m.comps[k]'(by omega)).data), rfl, rfl, hst⟩
    ·intro f10_ w10_ X10_ hfr hus hrd hst
     obtain ⟨hu7, hu9, -⟩ := hus
     have hu7 : f10_ 43 = .func (.func 44) #[] #[.pointer (some ⟨b19, 0, none⟩)] := hu7
     have hu9 : f10_ 45 = .int .i64 ((m.comps[k]'(by omega)).data) := hu9
     have hst : St _ _ _ ((blk b19 [.int .i64 (pgAt m k + (cpg (m.comps[k]'(by omega))))] 3) :: X10_) _ := hst
     have hr32 := hst.get 0 rfl
     refine og_none rfl (O_call (args := [.int .i64 ((m.comps[k]'(by omega)).data), .pointer (some ⟨b19, 0, none⟩)]) hu7 (by simp only [List.map_cons, List.map_nil, List.nil_append, List.cons_append, List.append_nil, ev, Value.cells, hu9]) rfl en44 (take_c ((m.comps[k]'(by omega)).data) (pgAt m k + (cpg (m.comps[k]'(by omega)))) b19 _ (hr32) (by omega) (by omega)) ?_)
     rintro _ w71 ⟨⟨rfl, hr73⟩, hk74⟩
     have hs72 := hst.mut 0 rfl hk74 (blk b19 [.int .i64 (pgAt m k + (cpg (m.comps[k]'(by omega))) + ((m.comps[k]'(by omega)).data))] 3) hr73 (fun _ h => .inl h)
     refine ⟨.agg #[.int .i64 ((pgAt m k + (cpg (m.comps[k]'(by omega)))) * 256), .int .i64 ((pgAt m k + (cpg (m.comps[k]'(by omega))) + ((m.comps[k]'(by omega)).data)) * 256)], rfl, rfl, ?_⟩
     show St _ _ _ ((blk b19 [.int .i64 (pgAt m k + (cpg (m.comps[k]'(by omega))) + ((m.comps[k]'(by omega)).data))] 3) :: X10_) _
     exact hs72
    ·intro f11_ w11_ X11_ hfr hus hrd hst
     obtain ⟨hu10, -⟩ := hus
     have hu10 : f11_ 46 = .agg #[.int .i64 ((pgAt m k + (cpg (m.comps[k]'(by omega)))) * 256), .int .i64 ((pgAt m k + (cpg (m.comps[k]'(by omega))) + ((m.comps[k]'(by omega)).data)) * 256)] := hu10
     refine og_none rfl (O_buildSlice (zs := [.int .i64 0, .int .i64 0]) (ps := [(0, [.int .i64 ((pgAt m k + (cpg (m.comps[k]'(by omega)))) * 256), .int .i64 ((pgAt m k + (cpg (m.comps[k]'(by omega))) + ((m.comps[k]'(by omega)).data)) * 256)])]) (cs := [.int .i64 ((pgAt m k + (cpg (m.comps[k]'(by omega)))) * 256), .int .i64 ((pgAt m k + (cpg (m.comps[k]'(by omega))) + ((m.comps[k]'(by omega)).data)) * 256)]) hst un42 sz51 zv51 rfl rfl (by simp only [List.map_cons, List.map_nil, List.nil_append, List.cons_append, List.append_nil, ev, Value.cells, hu10]) rfl rfl ?_)
     intro b75 w76 hb78 hs77
     refine ⟨.slice (some ⟨b75, 0, none⟩) 1 1, rfl, ⟨_, rfl⟩, ?_⟩
     show St _ _ _ ((blk (vblk ((upd f11_ 47 (.slice (some ⟨b75, 0, none⟩) 1 1)) 47)) [.int .i64 ((pgAt m k + (cpg (m.comps[k]'(by omega)))) * 256), .int .i64 ((pgAt m k + (cpg (m.comps[k]'(by omega))) + ((m.comps[k]'(by omega)).data)) * 256)] 51) :: X11_) _
     exact hs77
    ·intro f12_ w12_ X12_ hfr hus hrd hst
     obtain ⟨hu6, hu11, -⟩ := hus
     have hu6 : f12_ 42 = .slice a2 k c2 := hu6
     obtain ⟨b75, hu11⟩ := (show ∃ b75 : Nat, f12_ 47 = .slice (some ⟨b75, 0, none⟩) 1 1 from hu11)
     have hst : St _ _ _ ((ownI 51 2 a2 c2 k ((datasTo m k).flatMap encR)) :: X12_) _ := hst
     obtain ⟨hr11, -⟩ := hrd
     have hr11 : Item.φ (blk (vblk (f12_ 47)) [.int .i64 ((pgAt m k + (cpg (m.comps[k]'(by omega)))) * 256), .int .i64 ((pgAt m k + (cpg (m.comps[k]'(by omega))) + ((m.comps[k]'(by omega)).data)) * 256)] 51) w12_ := hr11
     rw [hu11] at hr11; simp only [vblk, vaddr, vcap, vcell] at hr11
     refine og_none rfl (O_appendE (n2 := k + 1) (xs2 := (datasTo m (k + 1)).flatMap encR) hst 0 rfl hu6 hu11 un42 ni42 inf51 rfl (Src.rd (news := [.int .i64 ((pgAt m k + (cpg (m.comps[k]'(by omega)))) * 256), .int .i64 ((pgAt m k + (cpg (m.comps[k]'(by omega))) + ((m.comps[k]'(by omega)).data)) * 256)]) (Rd.of_blk (hr11) 0 2) rfl rfl) (rfl) (data_snoc (by omega)) (by omega) (by omega) rfl ?_)
     intro a79 c80 w81 hs82
     refine ⟨.slice a79 (k + 1) c80, rfl, ⟨_, _, rfl⟩, ?_⟩
     show St _ _ _ ((ownI 51 2 (vaddr ((upd f12_ 48 (.slice a79 (k + 1) c80)) 48)) (vcap ((upd f12_ 48 (.slice a79 (k + 1) c80)) 48)) (k + 1) ((datasTo m (k + 1)).flatMap encR)) :: X12_) _
     exact hs82
    ·intro f13_ w13_ X13_ hfr hus hrd hst
     have hb3 : f13_ 3 = .pointer (some ⟨b9, 0, none⟩) := (hfr 3 rfl)
     refine og_none rfl (O_fieldAddr hb3 fd45_2 rfl (o' := 2) rfl rfl ?_)
     exact ⟨.pointer (some ⟨b9, 2, none⟩), rfl, rfl, hst⟩
    ·intro f14_ w14_ X14_ hfr hus hrd hst
     obtain ⟨hu13, -⟩ := hus
     have hu13 : f14_ 49 = .pointer (some ⟨b9, 2, none⟩) := hu13
     obtain ⟨hr33, -⟩ := hrd
     have hr33 : Item.φ (blk b9 [.slice a1 k c1, .slice a2 k c2, .slice a3 k c3, .slice none 0 0, .int .i64 0] 45) w14_ := hr33
     refine og_none rfl (O_load (v := .slice a3 k c3) hu13 ag42 (cell_of_blk (hr33) rfl) rfl ?_)
     exact ⟨.slice a3 k c3, rfl, rfl, hst⟩
    ·intro f15_ w15_ X15_ hfr hus hrd hst
     have hb5 : f15_ 5 = .func (.func 44) #[] #[.pointer (some ⟨b19, 0, none⟩)] := (hfr 5 rfl)
     refine og_none rfl (O_move (v := .func (.func 44) #[] #[.pointer (some ⟨b19, 0, none⟩)]) hb5 rfl ?_)
     exact ⟨.func (.func 44) #[] #[.pointer (some ⟨b19, 0, none⟩)], rfl, rfl, hst⟩
    ·intro f16_ w16_ X16_ hfr hus hrd hst
     have hb1 : f16_ 1 = .pointer (some ⟨b1, 0, none⟩) := (hfr 1 rfl)
     refine og_none rfl (O_fieldAddr hb1 fd26_1 rfl (o' := 1) rfl rfl ?_)
     exact ⟨.pointer (some ⟨b1, 1, none⟩), rfl, rfl, hst⟩
    ·intro f17_ w17_ X17_ hfr hus hrd hst
     obtain ⟨hu16, -⟩ := hus
     have hu16 : f17_ 52 = .pointer (some ⟨b1, 1, none⟩) := hu16
     obtain ⟨hr35, -⟩ := hrd
     have hr35 : Item.φ (blk b1 (imgCells m) 26) w17_ := hr35
     refine og_none rfl (O_load (v := .int .i64 m.heap) hu16 ag3 (cell_of_blk (hr35) rfl) rfl ?_)
     exact ⟨.int .i64 m.heap, rfl, rfl, hst⟩
    ·intro f18_ w18_ X18_ hfr hus hrd hst
     obtain ⟨hu15, hu17, -⟩ := hus
     have hu15 : f18_ 51 = .func (.func 44) #[] #[.pointer (some ⟨b19, 0, none⟩)] := hu15
     have hu17 : f18_ 53 = .int .i64 m.heap := hu17
     have hst : St _ _ _ ((blk b19 [.int .i64 (pgAt m k + (cpg (m.comps[k]'(by omega))) + ((m.comps[k]'(by omega)).data))] 3) :: X18_) _ := hst
     have hr10 := hst.get 0 rfl
     refine og_none rfl (O_call (args := [.int .i64 m.heap, .pointer (some ⟨b19, 0, none⟩)]) hu15 (by simp only [List.map_cons, List.map_nil, List.nil_append, List.cons_append, List.append_nil, ev, Value.cells, hu17]) rfl en44 (take_c m.heap (pgAt m k + (cpg (m.comps[k]'(by omega))) + ((m.comps[k]'(by omega)).data)) b19 _ (hr10) (by omega) (by omega)) ?_)
     rintro _ w83 ⟨⟨rfl, hr85⟩, hk86⟩
     have hs84 := hst.mut 0 rfl hk86 (blk b19 [.int .i64 (pgAt m k + (cpg (m.comps[k]'(by omega))) + ((m.comps[k]'(by omega)).data) + m.heap)] 3) hr85 (fun _ h => .inl h)
     refine ⟨.agg #[.int .i64 ((pgAt m k + (cpg (m.comps[k]'(by omega))) + ((m.comps[k]'(by omega)).data)) * 256), .int .i64 ((pgAt m k + (cpg (m.comps[k]'(by omega))) + ((m.comps[k]'(by omega)).data) + m.heap) * 256)], rfl, rfl, ?_⟩
     show St _ _ _ ((blk b19 [.int .i64 (pgAt m k + (cpg (m.comps[k]'(by omega))) + ((m.comps[k]'(by omega)).data) + m.heap)] 3) :: X18_) _
     exact hs84
    ·intro f19_ w19_ X19_ hfr hus hrd hst
     obtain ⟨hu18, -⟩ := hus
     have hu18 : f19_ 54 = .agg #[.int .i64 ((pgAt m k + (cpg (m.comps[k]'(by omega))) + ((m.comps[k]'(by omega)).data)) * 256), .int .i64 ((pgAt m k + (cpg (m.comps[k]'(by omega))) + ((m.comps[k]'(by omega)).data) + m.heap) * 256)] := hu18
     refine og_none rfl (O_buildSlice (zs := [.int .i64 0, .int .i64 0]) (ps := [(0, [.int .i64 ((pgAt m k + (cpg (m.comps[k]'(by omega))) + ((m.comps[k]'(by omega)).data)) * 256), .int .i64 ((pgAt m k + (cpg (m.comps[k]'(by omega))) + ((m.comps[k]'(by omega)).data) + m.heap) * 256)])]) (cs := [.int .i64 ((pgAt m k + (cpg (m.comps[k]'(by omega))) + ((m.comps[k]'(by omega)).data)) * 256), .int .i64 ((pgAt m k + (cpg (m.comps[k]'(by omega))) + ((m.comps[k]'(by omega)).data) + m.heap) * 256)]) hst un42 sz51 zv51 rfl rfl (by simp only [List.map_cons, List.map_nil, List.nil_append, List.cons_append, List.append_nil, ev, Value.cells, hu18]) rfl rfl ?_)
     intro b87 w88 hb90 hs89
     refine ⟨.slice (some ⟨b87, 0, none⟩) 1 1, rfl, ⟨_, rfl⟩, ?_⟩
     show St _ _ _ ((blk (vblk ((upd f19_ 55 (.slice (some ⟨b87, 0, none⟩) 1 1)) 55)) [.int .i64 ((pgAt m k + (cpg (m.comps[k]'(by omega))) + ((m.comps[k]'(by omega)).data)) * 256), .int .i64 ((pgAt m k + (cpg (m.comps[k]'(by omega))) + ((m.comps[k]'(by omega)).data) + m.heap) * 256)] 51) :: X19_) _
     exact hs89
    ·intro f20_ w20_ X20_ hfr hus hrd hst
     obtain ⟨hu14, hu19, -⟩ := hus
     have hu14 : f20_ 50 = .slice a3 k c3 := hu14
     obtain ⟨b87, hu19⟩ := (show ∃ b87 : Nat, f20_ 55 = .slice (some ⟨b87, 0, none⟩) 1 1 from hu19)
     have hst : St _ _ _ ((ownI 51 2 a3 c3 k ((heapsTo m k).flatMap encR)) :: X20_) _ := hst
     obtain ⟨hr19, -⟩ := hrd
     have hr19 : Item.φ (blk (vblk (f20_ 55)) [.int .i64 ((pgAt m k + (cpg (m.comps[k]'(by omega))) + ((m.comps[k]'(by omega)).data)) * 256), .int .i64 ((pgAt m k + (cpg (m.comps[k]'(by omega))) + ((m.comps[k]'(by omega)).data) + m.heap) * 256)] 51) w20_ := hr19
     rw [hu19] at hr19; simp only [vblk, vaddr, vcap, vcell] at hr19
     refine og_none rfl (O_appendE (n2 := k + 1) (xs2 := (heapsTo m (k + 1)).flatMap encR) hst 0 rfl hu14 hu19 un42 ni42 inf51 rfl (Src.rd (news := [.int .i64 ((pgAt m k + (cpg (m.comps[k]'(by omega))) + ((m.comps[k]'(by omega)).data)) * 256), .int .i64 ((pgAt m k + (cpg (m.comps[k]'(by omega))) + ((m.comps[k]'(by omega)).data) + m.heap) * 256)]) (Rd.of_blk (hr19) 0 2) rfl rfl) (rfl) (heap_snoc (by omega)) (by omega) (by omega) rfl ?_)
     intro a91 c92 w93 hs94
     refine ⟨.slice a91 (k + 1) c92, rfl, ⟨_, _, rfl⟩, ?_⟩
     show St _ _ _ ((ownI 51 2 (vaddr ((upd f20_ 56 (.slice a91 (k + 1) c92)) 56)) (vcap ((upd f20_ 56 (.slice a91 (k + 1) c92)) 56)) (k + 1) ((heapsTo m (k + 1)).flatMap encR)) :: X20_) _
     exact hs94
    ·intro f21_ w21_ X21_ hfr hus hrd hst
     have hb3 : f21_ 3 = .pointer (some ⟨b9, 0, none⟩) := (hfr 3 rfl)
     refine og_none rfl (O_fieldAddr hb3 fd45_0 rfl (o' := 0) rfl rfl ?_)
     exact ⟨.pointer (some ⟨b9, 0, none⟩), rfl, rfl, hst⟩
    ·intro f22_ w22_ X22_ hfr hus hrd hst
     obtain ⟨hu21, hu4, -⟩ := hus
     have hu21 : f22_ 57 = .pointer (some ⟨b9, 0, none⟩) := hu21
     obtain ⟨a67, c68, hu4⟩ := (show ∃ a67 : Option Addr, ∃ c68 : Nat, f22_ 40 = .slice a67 (k + 1) c68 from hu4)
     have hst : St _ _ _ ((blk b9 [.slice a1 k c1, .slice a2 k c2, .slice a3 k c3, .slice none 0 0, .int .i64 0] 45) :: X22_) _ := hst
     refine og_none rfl (O_store (v := .slice a67 (k + 1) c68) (vs := [.slice a67 (k + 1) c68]) (cs' := [.slice a67 (k + 1) c68, .slice a2 k c2, .slice a3 k c3, .slice none 0 0, .int .i64 0]) hst 0 rfl hu21 hu4 sz42 rfl rfl rfl rfl rfl ?_)
     intro w95 hs96
     refine ⟨undef, rfl, trivial, ?_⟩
     show St _ _ _ ((blk b9 [.slice (vaddr (f22_ 40)) (k + 1) (vcap (f22_ 40)), .slice a2 k c2, .slice a3 k c3, .slice none 0 0, .int .i64 0] 45) :: X22_) _
     rw [show (f22_) 40 = _ from hu4]
     exact hs96
    ·intro f23_ w23_ X23_ hfr hus hrd hst
     have hb3 : f23_ 3 = .pointer (some ⟨b9, 0, none⟩) := (hfr 3 rfl)
     refine og_none rfl (O_fieldAddr hb3 fd45_1 rfl (o' := 1) rfl rfl ?_)
     exact ⟨.pointer (some ⟨b9, 1, none⟩), rfl, rfl, hst⟩
    ·intro f24_ w24_ X24_ hfr hus hrd hst
     obtain ⟨hu23, hu12, hu4, -⟩ := hus
     have hu23 : f24_ 58 = .pointer (some ⟨b9, 1, none⟩) := hu23
     obtain ⟨a79, c80, hu12⟩ := (show ∃ a79 : Option Addr, ∃ c80 : Nat, f24_ 48 = .slice a79 (k + 1) c80 from hu12)
     obtain ⟨a67, c68, hu4⟩ := (show ∃ a67 : Option Addr, ∃ c68 : Nat, f24_ 40 = .slice a67 (k + 1) c68 from hu4)
     have hst : St _ _ _ ((blk b9 [.slice (vaddr (f24_ 40)) (k + 1) (vcap (f24_ 40)), .slice a2 k c2, .slice a3 k c3, .slice none 0 0, .int .i64 0] 45) :: X24_) _ := hst
     rw [hu4] at hst; simp only [vblk, vaddr, vcap, vcell] at hst
     refine og_none rfl (O_store (v := .slice a79 (k + 1) c80) (vs := [.slice a79 (k + 1) c80]) (cs' := [.slice a67 (k + 1) c68, .slice a79 (k + 1) c80, .slice a3 k c3, .slice none 0 0, .int .i64 0]) hst 0 rfl hu23 hu12 sz42 rfl rfl rfl rfl rfl ?_)
     intro w97 hs98
     refine ⟨undef, rfl, trivial, ?_⟩
     show St _ _ _ ((blk b9 [.slice (vaddr (f24_ 40)) (k + 1) (vcap (f24_ 40)), .slice (vaddr (f24_ 48)) (k + 1) (vcap (f24_ 48)), .slice a3 k c3, .slice none 0 0, .int .i64 0] 45) :: X24_) _
     rw [show (f24_) 40 = _ from hu4]
     rw [show (f24_) 48 = _ from hu12]
     exact hs98
    ·intro f25_ w25_ X25_ hfr hus hrd hst
     have hb3 : f25_ 3 = .pointer (some ⟨b9, 0, none⟩) := (hfr 3 rfl)
     refine og_none rfl (O_fieldAddr hb3 fd45_2 rfl (o' := 2) rfl rfl ?_)
     exact ⟨.pointer (some ⟨b9, 2, none⟩), rfl, rfl, hst⟩
    ·intro f26_ w26_ X26_ hfr hus hrd hst
     obtain ⟨hu25, hu20, hu4, hu12, -⟩ := hus
     have hu25 : f26_ 59 = .pointer (some ⟨b9, 2, none⟩) := hu25
     obtain ⟨a91, c92, hu20⟩ := (show ∃ a91 : Option Addr, ∃ c92 : Nat, f26_ 56 = .slice a91 (k + 1) c92 from hu20)
     obtain ⟨a67, c68, hu4⟩ := (show ∃ a67 : Option Addr, ∃ c68 : Nat, f26_ 40 = .slice a67 (k + 1) c68 from hu4)
     obtain ⟨a79, c80, hu12⟩ := (show ∃ a79 : Option Addr, ∃ c80 : Nat, f26_ 48 = .slice a79 (k + 1) c80 from hu12)
     have hst : St _ _ _ ((blk b9 [.slice (vaddr (f26_ 40)) (k + 1) (vcap (f26_ 40)), .slice (vaddr (f26_ 48)) (k + 1) (vcap (f26_ 48)), .slice a3 k c3, .slice none 0 0, .int .i64 0] 45) :: X26_) _ := hst
     rw [hu4, hu12] at hst; simp only [vblk, vaddr, vcap, vcell] at hst
     refine og_none rfl (O_store (v := .slice a91 (k + 1) c92) (vs := [.slice a91 (k + 1) c92]) (cs' := [.slice a67 (k + 1) c68, .slice a79 (k + 1) c80, .slice a91 (k + 1) c92, .slice none 0 0, .int .i64 0]) hst 0 rfl hu25 hu20 sz42 rfl rfl rfl rfl rfl ?_)
     intro w99 hs100
     refine ⟨undef, rfl, trivial, ?_⟩
     show St _ _ _ ((blk b9 [.slice (vaddr (f26_ 40)) (k + 1) (vcap (f26_ 40)), .slice (vaddr (f26_ 48)) (k + 1) (vcap (f26_ 48)), .slice (vaddr (f26_ 56)) (k + 1) (vcap (f26_ 56)), .slice none 0 0, .int .i64 0] 45) :: X26_) _
     rw [show (f26_) 40 = _ from hu4]
     rw [show (f26_) 48 = _ from hu12]
     rw [show (f26_) 56 = _ from hu20]
     exact hs100
    intro f101 w102 hfr hus hs103
    obtain ⟨hu3, hu4, hu11, hu12, hu19, hu20, -⟩ := hus
    obtain ⟨b63, hu3⟩ := (show ∃ b63 : Nat, f101 39 = .slice (some ⟨b63, 0, none⟩) 1 1 from hu3)
    obtain ⟨a67, c68, hu4⟩ := (show ∃ a67 : Option Addr, ∃ c68 : Nat, f101 40 = .slice a67 (k + 1) c68 from hu4)
    obtain ⟨b75, hu11⟩ := (show ∃ b75 : Nat, f101 47 = .slice (some ⟨b75, 0, none⟩) 1 1 from hu11)
    obtain ⟨a79, c80, hu12⟩ := (show ∃ a79 : Option Addr, ∃ c80 : Nat, f101 48 = .slice a79 (k + 1) c80 from hu12)
    obtain ⟨b87, hu19⟩ := (show ∃ b87 : Nat, f101 55 = .slice (some ⟨b87, 0, none⟩) 1 1 from hu19)
    obtain ⟨a91, c92, hu20⟩ := (show ∃ a91 : Option Addr, ∃ c92 : Nat, f101 56 = .slice a91 (k + 1) c92 from hu20)
    have hs103 : St _ _ _ [blk (vblk (f101 55)) [.int .i64 ((pgAt m k + (cpg (m.comps[k]'(by omega))) + ((m.comps[k]'(by omega)).data)) * 256), .int .i64 ((pgAt m k + (cpg (m.comps[k]'(by omega))) + ((m.comps[k]'(by omega)).data) + m.heap) * 256)] 51, blk (vblk (f101 47)) [.int .i64 ((pgAt m k + (cpg (m.comps[k]'(by omega)))) * 256), .int .i64 ((pgAt m k + (cpg (m.comps[k]'(by omega))) + ((m.comps[k]'(by omega)).data)) * 256)] 51, blk (vblk (f101 39)) [.int .i64 ((pgAt m k) * 256), .int .i64 (((pgAt m k) * 256) + (((m.comps[k]'(by omega)).code.length : Nat) : Int))] 51, blk b55 [.int .i64 ((pgAt m k) * 256), .int .i64 (((pgAt m k) * 256) + (((m.comps[k]'(by omega)).code.length : Nat) : Int))] 51, blk b45 [.slice ((m.comps[k]'(by omega)).a) ((m.comps[k]'(by omega)).code.length) ((m.comps[k]'(by omega)).cap), .int .i64 ((m.comps[k]'(by omega)).data)] 53, ownI 51 2 (vaddr (f101 40)) (vcap (f101 40)) (k + 1) ((codesTo m (k + 1)).flatMap encR), ownI 51 2 (vaddr (f101 48)) (vcap (f101 48)) (k + 1) ((datasTo m (k + 1)).flatMap encR), ownI 51 2 (vaddr (f101 56)) (vcap (f101 56)) (k + 1) ((heapsTo m (k + 1)).flatMap encR), blk b19 [.int .i64 (pgAt m k + (cpg (m.comps[k]'(by omega))) + ((m.comps[k]'(by omega)).data) + m.heap)] 3, blk b9 [.slice (vaddr (f101 40)) (k + 1) (vcap (f101 40)), .slice (vaddr (f101 48)) (k + 1) (vcap (f101 48)), .slice (vaddr (f101 56)) (k + 1) (vcap (f101 56)), .slice none 0 0, .int .i64 0] 45, blk b5 [.slice none 0 0, .slice none 0 0, .slice none 0 0, .slice none 0 0, .int .i64 0] 45, blk b1 (imgCells m) 26] _ := hs103
    simp only [hu3, hu4, hu11, hu12, hu19, hu20, vblk, vaddr, vcap, vcell] at hs103
    have hs103 : St _ _ _ [blk b87 [.int .i64 ((pgAt m k + (cpg (m.comps[k]'(by omega))) + ((m.comps[k]'(by omega)).data)) * 256), .int .i64 ((pgAt m k + (cpg (m.comps[k]'(by omega))) + ((m.comps[k]'(by omega)).data) + m.heap) * 256)] 51, blk b75 [.int .i64 ((pgAt m k + (cpg (m.comps[k]'(by omega)))) * 256), .int .i64 ((pgAt m k + (cpg (m.comps[k]'(by omega))) + ((m.comps[k]'(by omega)).data)) * 256)] 51, blk b63 [.int .i64 ((pgAt m k) * 256), .int .i64 (((pgAt m k) * 256) + (((m.comps[k]'(by omega)).code.length : Nat) : Int))] 51, blk b55 [.int .i64 ((pgAt m k) * 256), .int .i64 (((pgAt m k) * 256) + (((m.comps[k]'(by omega)).code.length : Nat) : Int))] 51, blk b45 [.slice ((m.comps[k]'(by omega)).a) ((m.comps[k]'(by omega)).code.length) ((m.comps[k]'(by omega)).cap), .int .i64 ((m.comps[k]'(by omega)).data)] 53, ownI 51 2 a67 c68 (k + 1) ((codesTo m (k + 1)).flatMap encR), ownI 51 2 a79 c80 (k + 1) ((datasTo m (k + 1)).flatMap encR), ownI 51 2 a91 c92 (k + 1) ((heapsTo m (k + 1)).flatMap encR), blk b19 [.int .i64 (pgAt m k + (cpg (m.comps[k]'(by omega))) + ((m.comps[k]'(by omega)).data) + m.heap)] 3, blk b9 [.slice a67 (k + 1) c68, .slice a79 (k + 1) c80, .slice a91 (k + 1) c92, .slice none 0 0, .int .i64 0] 45, blk b5 [.slice none 0 0, .slice none 0 0, .slice none 0 0, .slice none 0 0, .int .i64 0] 45, blk b1 (imgCells m) 26] _ := hs103
    have e104 : f101 1 = .pointer (some ⟨b1, 0, none⟩) := (hfr 1 rfl)
    rewrite [upd_id e104]
    have e105 : f101 2 = .pointer (some ⟨b5, 0, none⟩) := (hfr 2 rfl)
    rewrite [upd_id e105]
    have e106 : f101 3 = .pointer (some ⟨b9, 0, none⟩) := (hfr 3 rfl)
    rewrite [upd_id e106]
    have e107 : f101 4 = .pointer (some ⟨b19, 0, none⟩) := (hfr 4 rfl)
    rewrite [upd_id e107]
    have e108 : f101 5 = .func (.func 44) #[] #[.pointer (some ⟨b19, 0, none⟩)] := (hfr 5 rfl)
    rewrite [upd_id e108]
    have e109 : f101 15 = .slice m.ca m.comps.length m.ccap := (hfr 15 rfl)
    rewrite [upd_id e109]
    have e110 : f101 16 = .int .i64 ((m.comps.length : Nat) : Int) := (hfr 16 rfl)
    rewrite [upd_id e110]
    have e111 : f101 17 = .int .i64 ((k : Nat) : Int) := (hfr 17 rfl)
    rewrite [upd_id e111]
    refine blockQ_n (thenQ_n ?_)
    have hs112 : St w (fun _ => False) w102 [blk b87 [.int .i64 ((pgAt m k + (cpg (m.comps[k]'(by omega))) + ((m.comps[k]'(by omega)).data)) * 256), .int .i64 ((pgAt m k + (cpg (m.comps[k]'(by omega))) + ((m.comps[k]'(by omega)).data) + m.heap) * 256)] 51, blk b75 [.int .i64 ((pgAt m k + (cpg (m.comps[k]'(by omega)))) * 256), .int .i64 ((pgAt m k + (cpg (m.comps[k]'(by omega))) + ((m.comps[k]'(by omega)).data)) * 256)] 51, blk b63 [.int .i64 ((pgAt m k) * 256), .int .i64 (((pgAt m k) * 256) + (((m.comps[k]'(by omega)).code.length : Nat) : Int))] 51, blk b55 [.int .i64 ((pgAt m k) * 256), .int .i64 (((pgAt m k) * 256) + (((m.comps[k]'(by omega)).code.length : Nat) : Int))] 51, blk b45 [.slice ((m.comps[k]'(by omega)).a) ((m.comps[k]'(by omega)).code.length) ((m.comps[k]'(by omega)).cap), .int .i64 ((m.comps[k]'(by omega)).data)] 53, ownI 51 2 a67 c68 (k + 1) ((codesTo m (k + 1)).flatMap encR), ownI 51 2 a79 c80 (k + 1) ((datasTo m (k + 1)).flatMap encR), ownI 51 2 a91 c92 (k + 1) ((heapsTo m (k + 1)).flatMap encR), blk b19 [.int .i64 (pgAt m (k + 1))] 3, blk b9 [.slice a67 (k + 1) c68, .slice a79 (k + 1) c80, .slice a91 (k + 1) c92, .slice none 0 0, .int .i64 0] 45, blk b5 [.slice none 0 0, .slice none 0 0, .slice none 0 0, .slice none 0 0, .int .i64 0] 45, blk b1 (imgCells m) 26] [rdI b41 (o42 + k * 2) (encComp (m.comps[k]'(by omega))), arrI encComp 2 m.ca m.comps, arrI encLink 3 m.la m.links, arrI encShare 2 m.sa m.shares, codesI m.comps] := by rw [hps]; exact hs103
    refine W_region ?_
    refine L_cons rfl (O_bin (v := .int .i64 ((k + 1 : Nat) : Int)) rfl rfl rfl (b_add (wrap_i64e (by omega) (by omega))) ?_)
    refine L_cons rfl (O_move (v := .int .i64 ((k + 1 : Nat) : Int)) rfl rfl ?_)
    refine L_nil (thenQ_n ?_)
    refine ⟨_, ?_, k + 1, a67, c68, a79, c80, a91, c92, rfl, by omega, rfl, rfl, rfl, rfl, rfl, rfl, rfl, rfl, hs112.popR.popM.popM.popM.popM.popM⟩
    omega
   ·refine W_exit (thenQ_e (thenQ_e (blockQ_x (thenQ_n (W_seq (W_seq (W_region ?_)))))))
    refine L_cons rfl (O_fieldAddr rfl fd26_5 rfl (o' := 5) rfl rfl ?_)
    refine L_cons rfl (O_load (v := .slice m.sa m.shares.length m.scap) rfl ag24 (cell_of_blk (hs30.get 6 rfl) rfl) rfl ?_)
    refine L_cons rfl (O_len_slice (len := m.shares.length) rfl un24 rfl ?_)
    refine L_cons rfl (O_move (v := .int .i64 0) rfl rfl ?_)
    refine L_nil (thenQ_n (W_block ?_))
    obtain rfl : k = m.comps.length := by omega
    have hs113 := hs30.ownNil 3 1
    have hs114 : St w (fun _ => False) w29 [ownI 3 1 none 0 0 [], ownI 51 2 a1 c1 m.comps.length ((codesTo m m.comps.length).flatMap encR), ownI 51 2 a2 c2 m.comps.length ((datasTo m m.comps.length).flatMap encR), ownI 51 2 a3 c3 m.comps.length ((heapsTo m m.comps.length).flatMap encR), blk b19 [.int .i64 (pgEnd m + ((0 : Nat) : Int))] 3, blk b9 [.slice a1 m.comps.length c1, .slice a2 m.comps.length c2, .slice a3 m.comps.length c3, .slice none 0 0, .int .i64 0] 45, blk b5 [.slice none 0 0, .slice none 0 0, .slice none 0 0, .slice none 0 0, .int .i64 0] 45, blk b1 (imgCells m) 26] (imgIs m) := by have e : pgEnd m + ((0 : Nat) : Int) = pgAt m m.comps.length := Int.add_zero _; rw [e]; exact hs113
    refine W_loopm (fun m_ f_ w_ => ∃ j : Nat, ∃ a4 : Option Addr, ∃ c4 : Nat, m_ = m.shares.length - j ∧ (j ≤ m.shares.length) ∧ f_ 2 = .pointer (some ⟨b5, 0, none⟩) ∧ f_ 3 = .pointer (some ⟨b9, 0, none⟩) ∧ f_ 4 = .pointer (some ⟨b19, 0, none⟩) ∧ f_ 5 = .func (.func 44) #[] #[.pointer (some ⟨b19, 0, none⟩)] ∧ f_ 63 = .int .i64 ((m.shares.length : Nat) : Int) ∧ f_ 64 = .int .i64 ((j : Nat) : Int) ∧ St w (fun _ => False) w_ [ownI 3 1 a4 c4 j ((shsTo m j).flatMap encI), ownI 51 2 a1 c1 m.comps.length ((codesTo m m.comps.length).flatMap encR), ownI 51 2 a2 c2 m.comps.length ((datasTo m m.comps.length).flatMap encR), ownI 51 2 a3 c3 m.comps.length ((heapsTo m m.comps.length).flatMap encR), blk b19 [.int .i64 (pgEnd m + ((j : Nat) : Int))] 3, blk b9 [.slice a1 m.comps.length c1, .slice a2 m.comps.length c2, .slice a3 m.comps.length c3, .slice a4 j c4, .int .i64 0] 45, blk b5 [.slice none 0 0, .slice none 0 0, .slice none 0 0, .slice none 0 0, .int .i64 0] 45, blk b1 (imgCells m) 26] (imgIs m)) ?_ ?_
    ·exact ⟨_, 0, none, 0, rfl, by omega, rfl, rfl, rfl, rfl, rfl, rfl, hs114⟩
    ·intro m118 f115 w116; rintro ⟨j, a4, c4, rfl, hk2, e119, e120, e121, e122, e123, e124, hs117⟩
     rewrite [upd_id e119]
     rewrite [upd_id e120]
     rewrite [upd_id e121]
     rewrite [upd_id e122]
     rewrite [upd_id e123]
     rewrite [upd_id e124]
     refine W_seq (W_region ?_)
     refine L_cons rfl (O_bin (k := .i64) (k' := .i64) (a := ((j : Nat) : Int)) (b := ((m.shares.length : Nat) : Int)) rfl rfl rfl b_lss ?_)
     refine L_nil (thenQ_n (W_seq ?_))
     refine W_cond_d rfl (fun hc125 => ?_) (fun hc125 => ?_)
     ·refine W_skip (thenQ_n (W_seq (W_block ?_)))
      refine W_par' mixed (show St _ _ _ [ownI 3 1 a4 c4 j ((shsTo m j).flatMap encI), ownI 51 2 a1 c1 m.comps.length ((codesTo m m.comps.length).flatMap encR), ownI 51 2 a2 c2 m.comps.length ((datasTo m m.comps.length).flatMap encR), ownI 51 2 a3 c3 m.comps.length ((heapsTo m m.comps.length).flatMap encR), blk b19 [.int .i64 (pgEnd m + ((j : Nat) : Int))] 3, blk b9 [.slice a1 m.comps.length c1, .slice a2 m.comps.length c2, .slice a3 m.comps.length c3, .slice a4 j c4, .int .i64 0] 45, blk b5 [.slice none 0 0, .slice none 0 0, .slice none 0 0, .slice none 0 0, .int .i64 0] 45, blk b1 (imgCells m) 26] _ from hs117) (fun i_ => match i_ with | 3 => some ([], fun _ => blk b19 [.int .i64 (pgEnd m + ((j : Nat) : Int) + 1)] 3) | 5 => some ([71], fun vs_ => match vs_ with | [x71] => blk (vblk x71) [.int .i64 ((pgEnd m + ((j : Nat) : Int)) * 256)] 3 | _ => emp) | 6 => some ([72], fun vs_ => match vs_ with | [x72] => ownI 3 1 (vaddr x72) (vcap x72) (j + 1) ((shsTo m (j + 1)).flatMap encI) | _ => emp) | 8 => some ([72], fun vs_ => match vs_ with | [x72] => blk b9 [.slice a1 m.comps.length c1, .slice a2 m.comps.length c2, .slice a3 m.comps.length c3, .slice (vaddr x72) (j + 1) (vcap x72), .int .i64 0] 45 | _ => emp) | _ => none) (fun i_ => match i_ with | 3 => [13] | 6 => [9] | 8 => [14] | _ => []) (fun i_ => match i_ with | 1 => [14] | 6 => [5] | _ => []) (fun i_ => match i_ with | 1 => [0] | 3 => [2] | 4 => [3] | 5 => [4] | 6 => [1, 5] | 8 => [7, 6] | _ => []) [5, 6, 10, 11, 12, 3, 8, 15, 16, 0, 1, 2, 4, 7, 17, 18, 19, 20, 21, 22, 23, 24, 25] [5, 6] (fun i_ v_ => match i_ with | 0 => v_ = .pointer (some ⟨b9, 3, none⟩) | 1 => v_ = .slice a4 j c4 | 2 => v_ = .func (.func 44) #[] #[.pointer (some ⟨b19, 0, none⟩)] | 3 => v_ = .agg #[.int .i64 ((pgEnd m + ((j : Nat) : Int)) * 256), .int .i64 ((pgEnd m + ((j : Nat) : Int) + 1) * 256)] | 4 => v_ = .int .i64 ((pgEnd m + ((j : Nat) : Int)) * 256) | 5 => ∃ b130 : Nat, v_ = .slice (some ⟨b130, 0, none⟩) 1 1 | 6 => ∃ a134 : Option Addr, ∃ c135 : Nat, v_ = .slice a134 (j + 1) c135 | 7 => v_ = .pointer (some ⟨b9, 3, none⟩) | _ => True) (by kernel_rfl) (by kernel_rfl) ⟨?_, ?_, ?_, ?_, ?_, ?_, ?_, ?_, ?_, trivial⟩ ?_
      ·intro f0_ w0_ X0_ hfr hus hrd hst
       have hb3 : f0_ 3 = .pointer (some ⟨b9, 0, none⟩) := (hfr 3 rfl)
       refine og_none rfl (O_fieldAddr hb3 fd45_3 rfl (o' := 3) rfl rfl ?_)
       exact ⟨.pointer (some ⟨b9, 3, none⟩), rfl, rfl, hst⟩
      ·intro f1_ w1_ X1_ hfr hus hrd hst
       obtain ⟨hu0, -⟩ := hus
       have hu0 : f1_ 66 = .pointer (some ⟨b9, 3, none⟩) := hu0
       obtain ⟨hr14, -⟩ := hrd
       have hr14 : Item.φ (blk b9 [.slice a1 m.comps.length c1, .slice a2 m.comps.length c2, .slice a3 m.comps.length c3, .slice a4 j c4, .int .i64 0] 45) w1_ := hr14
       refine og_none rfl (O_load (v := .slice a4 j c4) hu0 ag43 (cell_of_blk (hr14) rfl) rfl ?_)
       exact ⟨.slice a4 j c4, rfl, rfl, hst⟩
      ·intro f2_ w2_ X2_ hfr hus hrd hst
       have hb5 : f2_ 5 = .func (.func 44) #[] #[.pointer (some ⟨b19, 0, none⟩)] := (hfr 5 rfl)
       refine og_none rfl (O_move (v := .func (.func 44) #[] #[.pointer (some ⟨b19, 0, none⟩)]) hb5 rfl ?_)
       exact ⟨.func (.func 44) #[] #[.pointer (some ⟨b19, 0, none⟩)], rfl, rfl, hst⟩
      ·intro f3_ w3_ X3_ hfr hus hrd hst
       obtain ⟨hu2, -⟩ := hus
       have hu2 : f3_ 68 = .func (.func 44) #[] #[.pointer (some ⟨b19, 0, none⟩)] := hu2
       have hst : St _ _ _ ((blk b19 [.int .i64 (pgEnd m + ((j : Nat) : Int))] 3) :: X3_) _ := hst
       have hr13 := hst.get 0 rfl
       refine og_none rfl (O_call (args := [.int .i64 1, .pointer (some ⟨b19, 0, none⟩)]) hu2 rfl rfl en44 (take_c 1 (pgEnd m + ((j : Nat) : Int)) b19 _ (hr13) (by omega) (by omega)) ?_)
       rintro _ w126 ⟨⟨rfl, hr128⟩, hk129⟩
       have hs127 := hst.mut 0 rfl hk129 (blk b19 [.int .i64 (pgEnd m + ((j : Nat) : Int) + 1)] 3) hr128 (fun _ h => .inl h)
       refine ⟨.agg #[.int .i64 ((pgEnd m + ((j : Nat) : Int)) * 256), .int .i64 ((pgEnd m + ((j : Nat) : Int) + 1) * 256)], rfl, rfl, ?_⟩
       show St _ _ _ ((blk b19 [.int .i64 (pgEnd m + ((j : Nat) : Int) + 1)] 3) :: X3_) _
       exact hs127
      ·intro f4_ w4_ X4_ hfr hus hrd hst
       obtain ⟨hu3, -⟩ := hus
       have hu3 : f4_ 69 = .agg #[.int .i64 ((pgEnd m + ((j : Nat) : Int)) * 256), .int .i64 ((pgEnd m + ((j : Nat) : Int) + 1) * 256)] := hu3
       refine og_none rfl (O_index_arr (v := .int .i64 ((pgEnd m + ((j : Nat) : Int)) * 256)) hu3 rfl un51 ag3 sz3 (by omega) (by omega) rfl rfl ?_)
       exact ⟨.int .i64 ((pgEnd m + ((j : Nat) : Int)) * 256), rfl, rfl, hst⟩
      ·intro f5_ w5_ X5_ hfr hus hrd hst
       obtain ⟨hu4, -⟩ := hus
       have hu4 : f5_ 70 = .int .i64 ((pgEnd m + ((j : Nat) : Int)) * 256) := hu4
       refine og_none rfl (O_buildSlice (zs := [.int .i64 0]) (ps := [(0, [.int .i64 ((pgEnd m + ((j : Nat) : Int)) * 256)])]) (cs := [.int .i64 ((pgEnd m + ((j : Nat) : Int)) * 256)]) hst un43 sz3 zv3 rfl rfl (by simp only [List.map_cons, List.map_nil, List.nil_append, List.cons_append, List.append_nil, ev, Value.cells, hu4]) rfl rfl ?_)
       intro b130 w131 hb133 hs132
       refine ⟨.slice (some ⟨b130, 0, none⟩) 1 1, rfl, ⟨_, rfl⟩, ?_⟩
       show St _ _ _ ((blk (vblk ((upd f5_ 71 (.slice (some ⟨b130, 0, none⟩) 1 1)) 71)) [.int .i64 ((pgEnd m + ((j : Nat) : Int)) * 256)] 3) :: X5_) _
       exact hs132
      ·intro f6_ w6_ X6_ hfr hus hrd hst
       obtain ⟨hu1, hu5, -⟩ := hus
       have hu1 : f6_ 67 = .slice a4 j c4 := hu1
       obtain ⟨b130, hu5⟩ := (show ∃ b130 : Nat, f6_ 71 = .slice (some ⟨b130, 0, none⟩) 1 1 from hu5)
       have hst : St _ _ _ ((ownI 3 1 a4 c4 j ((shsTo m j).flatMap encI)) :: X6_) _ := hst
       obtain ⟨hr5, -⟩ := hrd
       have hr5 : Item.φ (blk (vblk (f6_ 71)) [.int .i64 ((pgEnd m + ((j : Nat) : Int)) * 256)] 3) w6_ := hr5
       rw [hu5] at hr5; simp only [vblk, vaddr, vcap, vcell] at hr5
       refine og_none rfl (O_appendE (n2 := j + 1) (xs2 := (shsTo m (j + 1)).flatMap encI) hst 0 rfl hu1 hu5 un43 ni43 inf3 rfl (Src.rd (news := [.int .i64 ((pgEnd m + ((j : Nat) : Int)) * 256)]) (Rd.of_blk (hr5) 0 1) rfl rfl) (rfl) (sh_snoc m j) (by omega) (by omega) rfl ?_)
       intro a134 c135 w136 hs137
       refine ⟨.slice a134 (j + 1) c135, rfl, ⟨_, _, rfl⟩, ?_⟩
       show St _ _ _ ((ownI 3 1 (vaddr ((upd f6_ 72 (.slice a134 (j + 1) c135)) 72)) (vcap ((upd f6_ 72 (.slice a134 (j + 1) c135)) 72)) (j + 1) ((shsTo m (j + 1)).flatMap encI)) :: X6_) _
       exact hs137
      ·intro f7_ w7_ X7_ hfr hus hrd hst
       have hb3 : f7_ 3 = .pointer (some ⟨b9, 0, none⟩) := (hfr 3 rfl)
       refine og_none rfl (O_fieldAddr hb3 fd45_3 rfl (o' := 3) rfl rfl ?_)
       exact ⟨.pointer (some ⟨b9, 3, none⟩), rfl, rfl, hst⟩
      ·intro f8_ w8_ X8_ hfr hus hrd hst
       obtain ⟨hu7, hu6, -⟩ := hus
       have hu7 : f8_ 73 = .pointer (some ⟨b9, 3, none⟩) := hu7
       obtain ⟨a134, c135, hu6⟩ := (show ∃ a134 : Option Addr, ∃ c135 : Nat, f8_ 72 = .slice a134 (j + 1) c135 from hu6)
       have hst : St _ _ _ ((blk b9 [.slice a1 m.comps.length c1, .slice a2 m.comps.length c2, .slice a3 m.comps.length c3, .slice a4 j c4, .int .i64 0] 45) :: X8_) _ := hst
       refine og_none rfl (O_store (v := .slice a134 (j + 1) c135) (vs := [.slice a134 (j + 1) c135]) (cs' := [.slice a1 m.comps.length c1, .slice a2 m.comps.length c2, .slice a3 m.comps.length c3, .slice a134 (j + 1) c135, .int .i64 0]) hst 0 rfl hu7 hu6 sz43 rfl rfl rfl rfl rfl ?_)
       intro w138 hs139
       refine ⟨undef, rfl, trivial, ?_⟩
       show St _ _ _ ((blk b9 [.slice a1 m.comps.length c1, .slice a2 m.comps.length c2, .slice a3 m.comps.length c3, .slice (vaddr (f8_ 72)) (j + 1) (vcap (f8_ 72)), .int .i64 0] 45) :: X8_) _
       rw [show (f8_) 72 = _ from hu6]
       exact hs139
      intro f140 w141 hfr hus hs142
      obtain ⟨hu5, hu6, -⟩ := hus
      obtain ⟨b130, hu5⟩ := (show ∃ b130 : Nat, f140 71 = .slice (some ⟨b130, 0, none⟩) 1 1 from hu5)
      obtain ⟨a134, c135, hu6⟩ := (show ∃ a134 : Option Addr, ∃ c135 : Nat, f140 72 = .slice a134 (j + 1) c135 from hu6)
      have hs142 : St _ _ _ [blk (vblk (f140 71)) [.int .i64 ((pgEnd m + ((j : Nat) : Int)) * 256)] 3, ownI 3 1 (vaddr (f140 72)) (vcap (f140 72)) (j + 1) ((shsTo m (j + 1)).flatMap encI), ownI 51 2 a1 c1 m.comps.length ((codesTo m m.comps.length).flatMap encR), ownI 51 2 a2 c2 m.comps.length ((datasTo m m.comps.length).flatMap encR), ownI 51 2 a3 c3 m.comps.length ((heapsTo m m.comps.length).flatMap encR), blk b19 [.int .i64 (pgEnd m + ((j : Nat) : Int) + 1)] 3, blk b9 [.slice a1 m.comps.length c1, .slice a2 m.comps.length c2, .slice a3 m.comps.length c3, .slice (vaddr (f140 72)) (j + 1) (vcap (f140 72)), .int .i64 0] 45, blk b5 [.slice none 0 0, .slice none 0 0, .slice none 0 0, .slice none 0 0, .int .i64 0] 45, blk b1 (imgCells m) 26] _ := hs142
      simp only [hu5, hu6, vblk, vaddr, vcap, vcell] at hs142
      have hs142 : St _ _ _ [blk b130 [.int .i64 ((pgEnd m + ((j : Nat) : Int)) * 256)] 3, ownI 3 1 a134 c135 (j + 1) ((shsTo m (j + 1)).flatMap encI), ownI 51 2 a1 c1 m.comps.length ((codesTo m m.comps.length).flatMap encR), ownI 51 2 a2 c2 m.comps.length ((datasTo m m.comps.length).flatMap encR), ownI 51 2 a3 c3 m.comps.length ((heapsTo m m.comps.length).flatMap encR), blk b19 [.int .i64 (pgEnd m + ((j : Nat) : Int) + 1)] 3, blk b9 [.slice a1 m.comps.length c1, .slice a2 m.comps.length c2, .slice a3 m.comps.length c3, .slice a134 (j + 1) c135, .int .i64 0] 45, blk b5 [.slice none 0 0, .slice none 0 0, .slice none 0 0, .slice none 0 0, .int .i64 0] 45, blk b1 (imgCells m) 26] _ := hs142
      have e143 : f140 2 = .pointer (some ⟨b5, 0, none⟩) := (hfr 2 rfl)
      rewrite [upd_id e143]
      have e144 : f140 3 = .pointer (some ⟨b9, 0, none⟩) := (hfr 3 rfl)
      rewrite [upd_id e144]
      have e145 : f140 4 = .pointer (some ⟨b19, 0, none⟩) := (hfr 4 rfl)
      rewrite [upd_id e145]
      have e146 : f140 5 = .func (.func 44) #[] #[.pointer (some ⟨b19, 0, none⟩)] := (hfr 5 rfl)
      rewrite [upd_id e146]
      have e147 : f140 63 = .int .i64 ((m.shares.length : Nat) : Int) := (hfr 63 rfl)
      rewrite [upd_id e147]
      have e148 : f140 64 = .int .i64 ((j : Nat) : Int) := (hfr 64 rfl)
      rewrite [upd_id e148]
      refine blockQ_n (thenQ_n ?_)
      have hs149 : St w (fun _ => False) w141 [blk b130 [.int .i64 ((pgEnd m + ((j : Nat) : Int)) * 256)] 3, ownI 3 1 a134 c135 (j + 1) ((shsTo m (j + 1)).flatMap encI), ownI 51 2 a1 c1 m.comps.length ((codesTo m m.comps.length).flatMap encR), ownI 51 2 a2 c2 m.comps.length ((datasTo m m.comps.length).flatMap encR), ownI 51 2 a3 c3 m.comps.length ((heapsTo m m.comps.length).flatMap encR), blk b19 [.int .i64 (pgEnd m + ((j + 1 : Nat) : Int))] 3, blk b9 [.slice a1 m.comps.length c1, .slice a2 m.comps.length c2, .slice a3 m.comps.length c3, .slice a134 (j + 1) c135, .int .i64 0] 45, blk b5 [.slice none 0 0, .slice none 0 0, .slice none 0 0, .slice none 0 0, .int .i64 0] 45, blk b1 (imgCells m) 26] (imgIs m) := by rw [show pgEnd m + ((j + 1 : Nat) : Int) = pgEnd m + ((j : Nat) : Int) + 1 from by omega]; exact hs142
      refine W_region ?_
      refine L_cons rfl (O_bin (v := .int .i64 ((j + 1 : Nat) : Int)) rfl rfl rfl (b_add (wrap_i64e (by omega) (by omega))) ?_)
      refine L_cons rfl (O_move (v := .int .i64 ((j + 1 : Nat) : Int)) rfl rfl ?_)
      refine L_nil (thenQ_n ?_)
      refine ⟨_, ?_, j + 1, a134, c135, rfl, by omega, rfl, rfl, rfl, rfl, rfl, rfl, hs149.popM⟩
      omega
     ·refine W_exit (thenQ_e (thenQ_e (blockQ_x (thenQ_n (W_seq (W_region ?_))))))
      refine L_cons rfl (O_load (v := .int .i64 (pgEnd m + ((j : Nat) : Int))) rfl ag3 (cell_of_blk (hs117.get 4 rfl) rfl) rfl ?_)
      refine L_cons rfl (O_fieldAddr rfl fd45_4 rfl (o' := 4) rfl rfl ?_)
      refine L_cons rfl (O_store (v := .int .i64 (pgEnd m + ((j : Nat) : Int))) (vs := [.int .i64 (pgEnd m + ((j : Nat) : Int))]) (cs' := [.slice a1 m.comps.length c1, .slice a2 m.comps.length c2, .slice a3 m.comps.length c3, .slice a4 j c4, .int .i64 (pgEnd m + ((j : Nat) : Int))]) hs117 5 rfl rfl rfl sz3 rfl rfl rfl rfl rfl ?_)
      intro w150 hs151
      refine L_nil (thenQ_n (W_seq (W_region ?_)))
      refine L_cons rfl (O_load_agg (vs := [.slice a1 m.comps.length c1, .slice a2 m.comps.length c2, .slice a3 m.comps.length c3, .slice a4 j c4, .int .i64 (pgEnd m + ((j : Nat) : Int))]) rfl ag45 sz45 (Rd.of_blk (hs151.get 5 rfl) 0 5) rfl rfl ?_)
      refine L_cons rfl (O_store (v := .agg #[.slice a1 m.comps.length c1, .slice a2 m.comps.length c2, .slice a3 m.comps.length c3, .slice a4 j c4, .int .i64 (pgEnd m + ((j : Nat) : Int))]) (vs := [.slice a1 m.comps.length c1, .slice a2 m.comps.length c2, .slice a3 m.comps.length c3, .slice a4 j c4, .int .i64 (pgEnd m + ((j : Nat) : Int))]) (cs' := [.slice a1 m.comps.length c1, .slice a2 m.comps.length c2, .slice a3 m.comps.length c3, .slice a4 j c4, .int .i64 (pgEnd m + ((j : Nat) : Int))]) hs151 6 rfl rfl rfl sz45 rfl rfl rfl rfl rfl ?_)
      intro w152 hs153
      refine L_nil (thenQ_n (W_ret ?_))
      refine ⟨.agg #[.slice a1 m.comps.length c1, .slice a2 m.comps.length c2, .slice a3 m.comps.length c3, .slice a4 j c4, .int .i64 (pgEnd m + ((j : Nat) : Int))], resn [.agg #[.slice a1 m.comps.length c1, .slice a2 m.comps.length c2, .slice a3 m.comps.length c3, .slice a4 j c4, .int .i64 (pgEnd m + ((j : Nat) : Int))]] ⟨(rv_agg rfl ag45 sz45 (vs := [.slice a1 m.comps.length c1, .slice a2 m.comps.length c2, .slice a3 m.comps.length c3, .slice a4 j c4, .int .i64 (pgEnd m + ((j : Nat) : Int))]) (Rd.of_blk (hs153.get 6 rfl) 0 5) rfl), trivial⟩ rfl, ?_⟩
      obtain rfl : j = m.shares.length := by omega
      have he := whereS_yes hright
      exact ⟨⟨⟨a1, c1, a2, c2, a3, c3, a4, c4⟩, by rw [he]; exact lay_v, by rw [he]; exact lay_ok (hs153.get 1 rfl) (hs153.get 2 rfl) (hs153.get 3 rfl) (hs153.get 0 rfl), by rw [he]; exact lay_new (hs153.newB 1 rfl) (hs153.newB 2 rfl) (hs153.newB 3 rfl) (hs153.newB 0 rfl), by rw [he]; exact lay_B (hs153.get 1 rfl) (hs153.get 2 rfl) (hs153.get 3 rfl) (hs153.get 0 rfl)⟩, hs153.base⟩


end Go.Proofs.Ytgddigkdldnmdaa
