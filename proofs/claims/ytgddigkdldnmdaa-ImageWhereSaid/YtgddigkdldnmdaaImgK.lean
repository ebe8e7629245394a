/-
  Plain: the laws of images.
-/
import Derived.Test.YtgddigkdldnmdaaImgJ
namespace Go.Img
open Go Go.Vg
theorem and_not_eqK {x y : BitVec 64} (h : x &&& ~~~y = 0#64) : x &&& y = x := by
  have e : x = (x &&& y) ||| (x &&& ~~~y) := by
    apply BitVec.eq_of_getLsbD_eq
    intro i hi
    simp only [BitVec.getLsbD_or, BitVec.getLsbD_and, BitVec.getLsbD_not, hi, decide_true, Bool.true_and]
    cases x.getLsbD i <;> cases y.getLsbD i <;> rfl
  rw [h] at e
  simpa using e.symm
theorem wr_le {a b : Int} (h0 : 0 ≤ a) (h1 : a ≤ 9223372036854775807) (hb : 0 ≤ b ∧ b ≤ 100) (h : jf .andNot .i64 a b = 0) : a ≤ b := by
  have e2 : jf .andNot .i64 a b = IntKind.i64.wrap (((BitVec.ofInt 64 a &&& ~~~ BitVec.ofInt 64 b).toNat : Nat) : Int) := rfl
  have hx : ∀ {a : Int}, 0 ≤ a → a ≤ 9223372036854775807 → (BitVec.ofInt 64 a).toNat = a.toNat := by
    intro a h0 h1
    rw [BitVec.toNat_ofInt]
    have : a % ((2 ^ 64 : Nat) : Int) = a := Int.emod_eq_of_lt h0 (by omega)
    rw [this]
  have l2 : (BitVec.ofInt 64 a &&& ~~~ BitVec.ofInt 64 b).toNat ≤ a.toNat := by rw [BitVec.toNat_and, hx h0 h1]; exact Nat.and_le_left
  rw [e2, wrap_i64 (by omega)] at h
  have k2 : BitVec.ofInt 64 a &&& ~~~ BitVec.ofInt 64 b = 0#64 := by
    rw [← BitVec.toNat_inj]
    show (BitVec.ofInt 64 a &&& ~~~ BitVec.ofInt 64 b).toNat = 0
    omega
  have k3 := congrArg BitVec.toNat (and_not_eqK k2)
  have l3 : (BitVec.ofInt 64 a &&& BitVec.ofInt 64 b).toNat ≤ b.toNat := by rw [BitVec.toNat_and, hx hb.1 (by omega)]; exact Nat.and_le_right
  rw [hx h0 h1] at k3
  omega
theorem right_wf {m : ImageV} (h : RightOk m) (hw : ∀ s ∈ m.shares, s.wr ≤ 9223372036854775807) : WF m := by
  have hp := pow_small h.n4
  have := h.n4; have := h.l16; have := h.s4
  refine ⟨⟨by have := h.h1; omega, by have := h.h64; omega⟩, ⟨by have := h.f1; omega, by have := h.f2; omega⟩, by omega, by omega, by omega, ?_, ?_, ?_⟩
  · intro c hc
    have hk := h.comp c hc
    exact ⟨by have := hk.lm; omega, by have := hk.d1; omega, by have := hk.d8; omega⟩
  · intro l hl
    have hk := linkS_ok (h.link l hl)
    have e := codeLen_at (m := m) (t := l.to) (by omega) (by omega)
    have hc := (h.comp _ (List.getElem_mem (by omega : l.to.toNat < m.comps.length))).lm
    refine ⟨⟨by omega, by omega⟩, ⟨by omega, by omega⟩, by omega, by omega⟩
  · intro s hs
    have hk := h.share s hs
    simp only [jm, Bool.and_eq_true, jx, decide_eq_true_eq] at hk
    have := wr_le hk.2.1 (hw s hs) ⟨hk.1.1, by omega⟩ hk.2.2
    exact ⟨⟨by omega, by omega⟩, by omega, by omega⟩
theorem notQ {l : List UInt8} (h : gQ l = false) : (gs11 l).bad = false ∧ l.length ≤ (gs11 l).off ∧ xj l = [83, 90] ∧ zm l ≤ 1 ∧ jo (gImg l) = true := by
  unfold gQ at h
  simp only [Bool.or_eq_false_iff, decide_eq_false_iff_not, Bool.not_eq_false', decide_eq_true_eq] at h
  exact ⟨h.1, by omega, h.2.2.1, by omega, h.2.2.2.2⟩
theorem putS_all {m : ImageV} (h : z2 m = true) : putS m = allB m := by unfold putS; rw [if_pos h]; rfl
theorem get_put {m : ImageV} (h : z2 m = true) (hw : ∀ s ∈ m.shares, s.wr ≤ 9223372036854775807) : getI (putS m) = (m.canon, 0) := by
  have hok := jy h
  obtain ⟨a, e1, e2, e3⟩ := get_fwd (l := putS m) (t := []) (right_wf hok hw) (by rw [putS_all h, List.append_nil])
  have hoff : ¬ (gs11 (putS m)).off < (putS m).length := by
    have := congrArg List.length a.dr
    simp only [List.length_drop, List.length_nil] at this
    omega
  have hf : jo m = true := by simp only [z2, Bool.and_eq_true] at h; exact h.1
  have hQ : gQ (putS m) = false := by
    unfold gQ
    rw [a.ok, e1, e2, e3, formS_canon, hf, decide_eq_false hoff]
    have : ¬ 1 < strictN m := by unfold strictN; split <;> omega
    simp [this]
  rw [xd, if_neg (by rw [hQ]; simp), e3, x3, if_neg (by rw [h]; simp)]
theorem get_zero {l : List UInt8} (h : (getI l).2 = 0) : gQ l = false ∧ getI l = (gImg l, 0) ∧ z2 (gImg l) = true := by
  rw [xd] at h
  cases hQ : gQ l
  · rw [hQ, if_neg (by simp)] at h
    cases hr : z2 (gImg l)
    · rw [hr, if_pos rfl] at h; cases h
    · exact ⟨rfl, by rw [xd, hQ, if_neg (by simp), hr, if_neg (by simp)], rfl⟩
  · rw [hQ, if_pos rfl] at h; cases h
theorem get_ways (l : List UInt8) : getI l = (ya, 1) ∨ getI l = (ya, 151) ∨ ((getI l).2 = 0 ∧ z2 (getI l).1 = true ∧ putS (getI l).1 = l) := by
  cases hQ : gQ l
  · cases hr : z2 (gImg l)
    · exact .inr (.inl (by rw [xd, hQ, if_neg (by simp), hr, if_pos rfl]))
    · refine .inr (.inr ?_)
      have e : getI l = (gImg l, 0) := by rw [xd, hQ, if_neg (by simp), hr, if_neg (by simp)]
      rw [e]
      refine ⟨rfl, hr, ?_⟩
      obtain ⟨h1, h2, h3, h4, h5⟩ := notQ hQ
      obtain ⟨e1, _⟩ := get_back h1 h3 h4
      rw [List.drop_of_length_le h2, List.append_nil] at e1
      show putS (gImg l) = l
      rw [putS_all hr]; exact e1.symm
  · exact .inl (by rw [xd, hQ, if_pos rfl])
theorem get_cut {m : ImageV} (h : z2 m = true) (hw : ∀ s ∈ m.shares, s.wr ≤ 9223372036854775807) {k : Nat} (hk : k < (putS m).length) : getI ((putS m).take k) = (ya, 1) := by
  rw [xd]
  cases hQ : gQ ((putS m).take k)
  · exfalso
    obtain ⟨h1, h2, h3, h4, h5⟩ := notQ hQ
    obtain ⟨e1, w1⟩ := get_back h1 h3 h4
    rw [List.drop_of_length_le h2, List.append_nil] at e1
    have e2 : putS m = allB (gImg ((putS m).take k)) ++ (putS m).drop k := by
      rw [← e1]; exact (List.take_append_drop k _).symm
    have a1 := (get_fwd w1 e2).1
    have a2 := (get_fwd (l := putS m) (t := []) (right_wf (jy h) hw) (by rw [putS_all h, List.append_nil])).1
    have e3 := a1.dr.symm.trans a2.dr
    have := congrArg List.length e3
    simp only [List.length_drop, List.length_nil] at this
    omega
  · rw [if_pos rfl]
theorem get_more {m : ImageV} (h : z2 m = true) (hw : ∀ s ∈ m.shares, s.wr ≤ 9223372036854775807) (c : UInt8) : getI (putS m ++ [c]) = (ya, 1) := by
  obtain ⟨a, _⟩ := get_fwd (l := putS m ++ [c]) (t := [c]) (right_wf (jy h) hw) (by rw [putS_all h])
  have hoff : (gs11 (putS m ++ [c])).off < (putS m ++ [c]).length := by
    have := congrArg List.length a.dr
    simp only [List.length_drop, List.length_singleton] at this
    omega
  have hQ : gQ (putS m ++ [c]) = true := by unfold gQ; rw [decide_eq_true hoff]; simp
  rw [xd, if_pos hQ]
theorem put_pos {m : ImageV} : (decide (0 < ((putS m).length : Int)) : Bool) = z2 m := by
  unfold putS
  cases h : z2 m
  · rw [if_neg (by simp)]; rfl
  · rw [if_pos rfl]
    have : 0 < (put4 m m.comps.length).length := by
      show 0 < (allB m).length
      rw [allB_eq]; simp
    exact decide_eq_true (by omega)
/-! ### Strict -/
def askC (c : CompV) : Bool := (List.range (c.code.length / 4)).any fun j => decide ((((c.code[4 * j]?).getD 0).toNat : Int) = 28)
theorem runs_ask {c : CompV} (h4 : c.code.length % 4 = 0) : xl c true = (xl c false && !askC c) := by
  unfold xl
  by_cases he : (allS c.code).2.2 = 0
  · have hb : ∀ i, i < nch c.code.length → j7 c.code i = 0 := by
      intro i hi
      unfold allS at he
      split at he
      · rename_i j hj
        have := List.find?_some hj
        simp at this; exact absurd he this
      · rename_i hn
        have := List.find?_eq_none.1 hn i (by simpa using hi)
        simpa using this
    have hn : nch c.code.length = c.code.length / 4 := by unfold nch; omega
    have hl : c.code.length = 4 * (c.code.length / 4) := by omega
    have ha : (allS c.code).1 = (List.range (c.code.length / 4)).map (k9 c.code) := by
      rw [allS_good (k := c.code.length / 4) (fun i hi => hb i (by omega)) (by omega) (by omega)]
    have hop : ∀ j, j < c.code.length / 4 → (k9 c.code j).op = (((c.code[4 * j]?).getD 0).toNat : Int) := by
      intro j hj
      have hbj := hb j (by omega)
      have hcl : (kg c.code j).length = 4 := by rw [yj]; unfold kz; split <;> omega
      unfold j7 at hbj
      rw [xf hcl] at hbj
      unfold k9
      rw [xf hcl]
      split at hbj
      · rename_i hi
        rw [if_pos hi]
        have e0 : (kg c.code j)[0]'(by omega) = (c.code[4 * j]?).getD 0 := by
          rw [List.getElem?_eq_getElem (by omega : 4 * j < c.code.length)]
          simp [kg]
        rw [← e0]
        unfold insOf; split <;> rfl
      · cases hbj
    have hany : ((allS c.code).1.any fun x => decide (x.op = 28)) = askC c := by
      rw [ha, List.any_map]
      unfold askC
      rw [Bool.eq_iff_iff, List.any_eq_true, List.any_eq_true]
      constructor
      · rintro ⟨j, hj, hd⟩
        refine ⟨j, hj, ?_⟩
        have hd' : decide ((k9 c.code j).op = 28) = true := hd
        rw [hop j (by simpa using hj)] at hd'; exact hd'
      · rintro ⟨j, hj, hd⟩
        refine ⟨j, hj, ?_⟩
        show decide ((k9 c.code j).op = 28) = true
        rw [hop j (by simpa using hj)]; exact hd
    rw [hany]
    simp [he]
  · simp [he]
def withSt (m : ImageV) (b : Bool) : ImageV := { m with strict := b }
theorem formS_st (m : ImageV) (b : Bool) : jo (withSt m b) = jo m := by
  have h1 : km (withSt m b) = km m := rfl
  have h2 : jm (withSt m b) = jm m := rfl
  unfold jo
  rw [h1, h2]; rfl
theorem strict_law (m : ImageV) : z2 (withSt m true) = (z2 (withSt m false) && !(m.comps.any askC)) := by
  unfold z2
  rw [formS_st, formS_st]
  cases hf : jo m
  · rfl
  · have hok := formS_ok hf
    simp only [Bool.true_and]
    show (m.comps.all fun c => xl c true) = ((m.comps.all fun c => xl c false) && _)
    have hc := hok.comp
    clear hok hf
    generalize m.comps = l at hc ⊢
    induction l with
    | nil => rfl
    | cons c l ih =>
      rw [List.all_cons, List.all_cons, List.any_cons, ih (fun x hx => hc x (by simp [hx])), runs_ask (hc c (by simp)).l0]
      cases xl c false <;> cases askC c <;> simp
/-! ### Apart -/
theorem cmpOk {m : ImageV} (h : RightOk m) {i : Nat} (hi : i < m.comps.length) : CompOk (jd m i) := by rw [compAt_get hi]; exact h.comp _ (List.getElem_mem hi)
theorem pg_mono {m : ImageV} (h : RightOk m) {i : Nat} : ∀ {j : Nat}, i < j → j ≤ m.comps.length → pgAt m i + cpg (jd m i) + (jd m i).data + m.heap ≤ pgAt m j
  | j + 1, hij, hj => by
    have hs := pgAt_succ (m := m) (k := j) (by omega)
    rcases Nat.lt_succ_iff_lt_or_eq.1 hij with h1 | h1
    · have ih := pg_mono h h1 (by omega)
      have hc := h.comp _ (List.getElem_mem (by omega : j < m.comps.length))
      have := hc.g1; have := hc.d1; have := h.h1
      omega
    · subst h1
      rw [hs, compAt_get (by omega)]
      exact Int.le_refl _
structure Ps (m : ImageV) (lo hi : Int) (x : Int × Int) : Prop where
  a : x.1 = lo * 256
  b : x.1 < x.2
  c : x.2 ≤ hi * 256
theorem code_ps {m : ImageV} (h : RightOk m) {i : Nat} (hi : i < m.comps.length) : Ps m (pgAt m i) (pgAt m i + cpg (jd m i)) (qr m i) := by
  have hc := cmpOk h hi
  have := hc.l4
  refine ⟨rfl, by show pgAt m i * 256 < pgAt m i * 256 + _; omega, ?_⟩
  show pgAt m i * 256 + (((jd m i).code.length : Nat) : Int) ≤ _
  unfold cpg; omega
theorem data_ps {m : ImageV} (h : RightOk m) {i : Nat} (hi : i < m.comps.length) : Ps m (pgAt m i + cpg (jd m i)) (pgAt m i + cpg (jd m i) + (jd m i).data) (qv m i) := by
  have hc := cmpOk h hi
  have := hc.d1
  exact ⟨rfl, by show (pgAt m i + cpg (jd m i)) * 256 < (pgAt m i + cpg (jd m i) + (jd m i).data) * 256; omega, Int.le_refl _⟩
theorem heap_ps {m : ImageV} (h : RightOk m) {i : Nat} (_hi : i < m.comps.length) : Ps m (pgAt m i + cpg (jd m i) + (jd m i).data) (pgAt m i + cpg (jd m i) + (jd m i).data + m.heap) (heapAt m i) := by
  have := h.h1
  exact ⟨rfl, by show (pgAt m i + cpg (jd m i) + (jd m i).data) * 256 < (pgAt m i + cpg (jd m i) + (jd m i).data + m.heap) * 256; omega, Int.le_refl _⟩
def shPair (a : Int) : Int × Int := (a, a + 256)
def apartL (m : ImageV) (k : Nat) : List (Int × Int) := ((ks m m.comps.length ++ ku m m.comps.length) ++ kv m m.comps.length) ++ (j3 m k).map shPair
def Disj (x y : Int × Int) : Prop := x.2 ≤ y.1 ∨ y.2 ≤ x.1
/-- Where a part of a layout lies: pages from lo to hi. -/
def In1 (m : ImageV) (k : Nat) (x : Int × Int) : Prop := ∃ lo hi, Ps m lo hi x ∧ 1 ≤ lo ∧ hi ≤ z5 m + ((k : Nat) : Int)
theorem end_ge {m : ImageV} (h : RightOk m) {i : Nat} (hi : i < m.comps.length) : pgAt m i + cpg (jd m i) + (jd m i).data + m.heap ≤ z5 m := pg_mono h hi (Nat.le_refl _)
theorem apart_in {m : ImageV} (h : RightOk m) : ∀ x ∈ apartL m m.shares.length, In1 m m.shares.length x := by
  intro x hx
  simp only [apartL, List.mem_append, ks, ku, kv, j3, List.map_map, List.mem_map, List.mem_range] at hx
  rcases hx with ((⟨i, hi, rfl⟩ | ⟨i, hi, rfl⟩) | ⟨i, hi, rfl⟩) | ⟨i, hi, rfl⟩
  · have := pgAt_b h i (by omega); have := end_ge h hi; have hc := cmpOk h hi; have := hc.g1; have := hc.d1; have := h.h1
    exact ⟨_, _, code_ps h hi, by omega, by omega⟩
  · have := pgAt_b h i (by omega); have := end_ge h hi; have hc := cmpOk h hi; have := hc.g1; have := hc.d1; have := h.h1
    exact ⟨_, _, data_ps h hi, by omega, by omega⟩
  · have := pgAt_b h i (by omega); have := end_ge h hi; have hc := cmpOk h hi; have := hc.g1; have := hc.d1; have := h.h1
    exact ⟨_, _, heap_ps h hi, by omega, by omega⟩
  · have := pgEnd_b h
    refine ⟨z5 m + ((i : Nat) : Int), z5 m + ((i : Nat) : Int) + 1, ⟨rfl, ?_, ?_⟩, by omega, by omega⟩
    · show shAt m i < shAt m i + 256; omega
    · show shAt m i + 256 ≤ _; unfold shAt; omega
theorem disj_of {m : ImageV} {lo hi lo2 hi2 : Int} {x y : Int × Int} (h : Ps m lo hi x) (h2 : Ps m lo2 hi2 y) (hd : hi ≤ lo2 ∨ hi2 ≤ lo) : Disj x y := by
  have := h.a; have := h.c; have := h2.a; have := h2.c
  unfold Disj
  omega
theorem pair_range {α : Type} {R : α → α → Prop} {g : Nat → α} {n : Nat} (h : ∀ i j, i < j → j < n → R (g i) (g j)) : ((List.range n).map g).Pairwise R := by
  rw [List.pairwise_map]
  refine List.Pairwise.imp_of_mem ?_ List.pairwise_lt_range
  intro a b ha hb hab
  exact h a b hab (by simpa using hb)
theorem apart_dis {m : ImageV} (h : RightOk m) : (apartL m m.shares.length).Pairwise Disj := by
  have key : ∀ {i j}, i < m.comps.length → j < m.comps.length → i ≠ j → (pgAt m i + cpg (jd m i) + (jd m i).data + m.heap ≤ pgAt m j ∨ pgAt m j + cpg (jd m j) + (jd m j).data + m.heap ≤ pgAt m i) := by
    intro i j hi hj hne
    rcases Nat.lt_or_gt_of_ne hne with h1 | h1
    · exact .inl (pg_mono h h1 (by omega))
    · exact .inr (pg_mono h h1 (by omega))
  have pos : ∀ {i}, i < m.comps.length → 1 ≤ cpg (jd m i) ∧ 1 ≤ (jd m i).data := fun hi => ⟨(cmpOk h hi).g1, (cmpOk h hi).d1⟩
  have hh := h.h1
  unfold apartL
  simp only [List.pairwise_append, List.mem_append]
  refine ⟨⟨⟨?_, ?_, ?_⟩, ?_, ?_⟩, ?_, ?_⟩
  · exact pair_range fun i j hij hj => disj_of (code_ps h (by omega)) (code_ps h hj) (by
      have := key (by omega) hj (Nat.ne_of_lt hij); have := pos (i := i) (by omega); have := pos hj; omega)
  · exact pair_range fun i j hij hj => disj_of (data_ps h (by omega)) (data_ps h hj) (by
      have := key (by omega) hj (Nat.ne_of_lt hij); have := pos (i := i) (by omega); have := pos hj; omega)
  · intro x hx y hy
    simp only [ks, ku, List.mem_map, List.mem_range] at hx hy
    obtain ⟨i, hi, rfl⟩ := hx
    obtain ⟨j, hj, rfl⟩ := hy
    refine disj_of (code_ps h hi) (data_ps h hj) ?_
    have := pos hi; have := pos hj
    by_cases e : i = j
    · subst e; omega
    · have := key hi hj e; omega
  · exact pair_range fun i j hij hj => disj_of (heap_ps h (by omega)) (heap_ps h hj) (by
      have := key (by omega) hj (Nat.ne_of_lt hij); have := pos (i := i) (by omega); have := pos hj; omega)
  · intro x hx y hy
    simp only [ks, ku, kv, List.mem_map, List.mem_range] at hx hy
    obtain ⟨j, hj, rfl⟩ := hy
    rcases hx with ⟨i, hi, rfl⟩ | ⟨i, hi, rfl⟩
    · refine disj_of (code_ps h hi) (heap_ps h hj) ?_
      have := pos hi; have := pos hj
      by_cases e : i = j
      · subst e; omega
      · have := key hi hj e; omega
    · refine disj_of (data_ps h hi) (heap_ps h hj) ?_
      have := pos hi; have := pos hj
      by_cases e : i = j
      · subst e; omega
      · have := key hi hj e; omega
  · rw [j3, List.map_map]
    exact pair_range fun i j hij hj => by
      show Disj (shAt m i, shAt m i + 256) (shAt m j, shAt m j + 256)
      unfold Disj shAt; simp only; omega
  · intro x hx y hy
    simp only [ks, ku, kv, j3, List.map_map, List.mem_map, List.mem_range] at hx hy
    obtain ⟨j, hj, rfl⟩ := hy
    have hy1 : ((shPair ∘ shAt m) j).1 = (z5 m + ((j : Nat) : Int)) * 256 := rfl
    left
    rcases hx with (⟨i, hi, rfl⟩ | ⟨i, hi, rfl⟩) | ⟨i, hi, rfl⟩
    · have := (code_ps h hi).c; have := end_ge h hi; have := pos hi; omega
    · have := (data_ps h hi).c; have := end_ge h hi; have := pos hi; omega
    · have := (heap_ps h hi).c; have := end_ge h hi; omega
end Go.Img
