/-
  Plain: what is got of an image's bytes, and of bytes that are cut.
-/
import Derived.Test.YtgddigkdldnmdaaImgI
namespace Go.Img
open Go Go.Vg
/-- The reader stands where this is left. -/
structure At (l : List UInt8) (s : RS) (R : List UInt8) : Prop where
  ok : s.bad = false
  le : s.off ≤ l.length
  dr : l.drop s.off = R
theorem At.take {l x R : List UInt8} {s : RS} {n : Nat} (h : At l s (x ++ R)) (hn : x.length = n) : kb l s.off n = x ∧ At l (zv l s n) R := by
  have hl := congrArg List.length h.dr
  simp only [List.length_drop, List.length_append] at hl
  have hle := h.le
  have hi : s.off + n ≤ l.length := by omega
  unfold kb zv
  rw [if_pos hi, if_pos hi]
  refine ⟨by rw [h.dr]; simp [← hn], h.ok, hi, ?_⟩
  show l.drop (s.off + n) = R
  rw [← List.drop_drop, h.dr]
  simp [← hn]
theorem At.back {l R : List UInt8} {s : RS} {n : Nat} (h : At l s R) (hb : (zv l s n).bad = false) : R = kb l s.off n ++ R.drop n ∧ At l (zv l s n) (R.drop n) := by
  unfold zv at hb ⊢
  split at hb
  · rename_i hi
    rw [if_pos hi]
    unfold kb
    rw [if_pos hi, h.dr]
    refine ⟨(List.take_append_drop n R).symm, h.ok, hi, ?_⟩
    show l.drop (s.off + n) = _
    rw [← List.drop_drop, h.dr]
  · simp at hb
theorem At.bad {l : List UInt8} {s : RS} {n : Nat} (h : (zv l s n).bad = false) : s.bad = false := by
  cases hs : s.bad
  · rfl
  · rw [someR_bad hs] at h; cases h
theorem byteV_nat (x : UInt8) : zh (x.toNat : Int) = x := by
  unfold zh
  have := x.toNat_lt
  have e : ((x.toNat : Int) % 256).toNat = x.toNat := by omega
  rw [e]; simp
theorem byteV_hi (a b : UInt8) : zh (((a.toNat : Int) * 256 + (b.toNat : Int)) / 256) = a := by
  have := b.toNat_lt
  have e : ((a.toNat : Int) * 256 + (b.toNat : Int)) / 256 = (a.toNat : Int) := by omega
  rw [e, byteV_nat]
theorem byteV_lo (a b : UInt8) : zh ((a.toNat : Int) * 256 + (b.toNat : Int)) = b := by
  unfold zh
  have := b.toNat_lt
  have e : (((a.toNat : Int) * 256 + (b.toNat : Int)) % 256).toNat = b.toNat := by omega
  rw [e]; simp
theorem len1 {l : List UInt8} (h : l.length = 1) : l = [yk l 0] := by
  match l, h with
  | [a], _ => rfl
theorem len2 {l : List UInt8} (h : l.length = 2) : l = [yk l 0, yk l 1] := by
  match l, h with
  | [a, b], _ => rfl
theorem At.back1 {l R : List UInt8} {s : RS} (h : At l s R) (hb : (zv l s 1).bad = false) : R = [zh (oneV l s)] ++ R.drop 1 ∧ At l (zv l s 1) (R.drop 1) := by
  obtain ⟨h1, h2⟩ := h.back hb
  refine ⟨?_, h2⟩
  have e := len1 (xg l s.off 1)
  unfold oneV
  rw [byteV_nat, ← e]; exact h1
theorem At.back2 {l R : List UInt8} {s : RS} (h : At l s R) (hb : (zv l s 2).bad = false) : R = twoB (twoV l s) ++ R.drop 2 ∧ At l (zv l s 2) (R.drop 2) := by
  obtain ⟨h1, h2⟩ := h.back hb
  refine ⟨?_, h2⟩
  have e := len2 (xg l s.off 2)
  unfold twoV twoB
  rw [byteV_hi, byteV_lo, ← e]; exact h1
theorem At.fwd1 {l R : List UInt8} {s : RS} {n : Int} (h : At l s ([zh n] ++ R)) (h0 : 0 ≤ n ∧ n ≤ 255) : oneV l s = n ∧ At l (zv l s 1) R := by
  obtain ⟨h1, h2⟩ := h.take (n := 1) rfl
  refine ⟨?_, h2⟩
  unfold oneV
  rw [h1]
  show ((zh n).toNat : Int) = n
  rw [byteV_toNat]; omega
theorem At.fwd2 {l R : List UInt8} {s : RS} {n : Int} (h : At l s (twoB n ++ R)) (h0 : 0 ≤ n ∧ n ≤ 65535) : twoV l s = n ∧ At l (zv l s 2) R := by
  obtain ⟨h1, h2⟩ := h.take (n := 2) rfl
  refine ⟨?_, h2⟩
  unfold twoV
  rw [h1]
  show ((zh (n / 256)).toNat : Int) * 256 + ((zh n).toNat : Int) = n
  rw [byteV_toNat, byteV_toNat]; omega
def pairB (p : Int × Int) : List UInt8 := twoB p.1 ++ [zh p.2]
theorem flat_drop {α β : Type} (f : α → List β) {l : List α} {k : Nat} (h : k < l.length) : (l.drop k).flatMap f = f l[k] ++ (l.drop (k + 1)).flatMap f := by
  rw [List.drop_eq_getElem_cons h, List.flatMap_cons]
theorem take_snoc {α : Type} {l : List α} {k : Nat} {x : α} (h : k < l.length) (hx : x = l[k]) : l.take k ++ [x] = l.take (k + 1) := by rw [List.take_succ_eq_append_getElem h, hx]
theorem itC_fwd {l R : List UInt8} {s : RS} (ps : List (Int × Int)) (hp : ∀ p ∈ ps, (0 ≤ p.1 ∧ p.1 ≤ 65535) ∧ 0 ≤ p.2 ∧ p.2 ≤ 255) (h : At l s (ps.flatMap pairB ++ R)) :
    ∀ k, k ≤ ps.length → (itC l s k).1 = ps.take k ∧ At l (itC l s k).2 ((ps.drop k).flatMap pairB ++ R)
  | 0, _ => ⟨by simp [itC], by simpa [itC] using h⟩
  | k + 1, hk => by
    obtain ⟨h1, h2⟩ := itC_fwd ps hp h k (by omega)
    have hm := hp _ (List.getElem_mem (by omega : k < ps.length))
    rw [flat_drop pairB (by omega), List.append_assoc] at h2
    unfold pairB at h2
    rw [List.append_assoc] at h2
    obtain ⟨e1, a1⟩ := h2.fwd2 hm.1
    obtain ⟨e2, a2⟩ := a1.fwd1 hm.2
    refine ⟨?_, a2⟩
    show (itC l s k).1 ++ [_] = _
    rw [h1]
    exact take_snoc (by omega) (by rw [e1, e2])
theorem itC_back {l R : List UInt8} {s : RS} (h : At l s R) : ∀ k, (itC l s k).2.bad = false → ∃ R', R = (itC l s k).1.flatMap pairB ++ R' ∧ At l (itC l s k).2 R'
  | 0, _ => ⟨R, rfl, h⟩
  | k + 1, hb => by
    have hb1 : (zv l (itC l s k).2 2).bad = false := At.bad hb
    obtain ⟨R1, e1, a1⟩ := itC_back h k (At.bad hb1)
    obtain ⟨e2, a2⟩ := a1.back2 hb1
    obtain ⟨e3, a3⟩ := a2.back1 hb
    refine ⟨_, ?_, a3⟩
    simp only [itC, List.flatMap_append, List.flatMap_cons, List.flatMap_nil, List.append_nil, pairB, List.append_assoc]
    rw [← e3, ← e2]; exact e1
theorem itL_fwd {l R : List UInt8} {s : RS} (ps : List LinkV) (hp : ∀ p ∈ ps, (0 ≤ p.fr ∧ p.fr ≤ 255) ∧ (0 ≤ p.to ∧ p.to ≤ 255) ∧ 0 ≤ p.ad ∧ p.ad ≤ 65535) (h : At l s (ps.flatMap yq ++ R)) :
    ∀ k, k ≤ ps.length → (itL l s k).1 = ps.take k ∧ At l (itL l s k).2 ((ps.drop k).flatMap yq ++ R)
  | 0, _ => ⟨by simp [itL], by simpa [itL] using h⟩
  | k + 1, hk => by
    obtain ⟨h1, h2⟩ := itL_fwd ps hp h k (by omega)
    have hm := hp _ (List.getElem_mem (by omega : k < ps.length))
    rw [flat_drop yq (by omega), List.append_assoc] at h2
    have h2' : At l (itL l s k).2 ([zh (ps[k]).fr] ++ ([zh (ps[k]).to] ++ (twoB (ps[k]).ad ++ ((ps.drop (k + 1)).flatMap yq ++ R)))) := h2
    obtain ⟨e1, a1⟩ := h2'.fwd1 hm.1
    obtain ⟨e2, a2⟩ := a1.fwd1 hm.2.1
    obtain ⟨e3, a3⟩ := a2.fwd2 hm.2.2
    refine ⟨?_, a3⟩
    show (itL l s k).1 ++ [_] = _
    rw [h1]
    exact take_snoc (by omega) (by rw [e1, e2, e3])
theorem itL_back {l R : List UInt8} {s : RS} (h : At l s R) : ∀ k, (itL l s k).2.bad = false → ∃ R', R = (itL l s k).1.flatMap yq ++ R' ∧ At l (itL l s k).2 R'
  | 0, _ => ⟨R, rfl, h⟩
  | k + 1, hb => by
    have hb2 : (zv l (zv l (itL l s k).2 1) 1).bad = false := At.bad hb
    have hb1 : (zv l (itL l s k).2 1).bad = false := At.bad hb2
    obtain ⟨R1, e1, a1⟩ := itL_back h k (At.bad hb1)
    obtain ⟨e2, a2⟩ := a1.back1 hb1
    obtain ⟨e3, a3⟩ := a2.back1 hb2
    obtain ⟨e4, a4⟩ := a3.back2 hb
    refine ⟨_, ?_, a4⟩
    simp only [itL, List.flatMap_append, List.flatMap_cons, List.flatMap_nil, List.append_nil, yq, List.append_assoc]
    have e5 : ∀ (a b : UInt8) (x y : List UInt8), [a, b] ++ (x ++ y) = [a] ++ ([b] ++ (x ++ y)) := fun _ _ _ _ => rfl
    rw [e5, ← e4, ← e3, ← e2]; exact e1
theorem itS_fwd {l R : List UInt8} {s : RS} (ps : List ShareV) (hp : ∀ p ∈ ps, (0 ≤ p.rd ∧ p.rd ≤ 255) ∧ 0 ≤ p.wr ∧ p.wr ≤ 255) (h : At l s (ps.flatMap xu ++ R)) :
    ∀ k, k ≤ ps.length → (itS l s k).1 = ps.take k ∧ At l (itS l s k).2 ((ps.drop k).flatMap xu ++ R)
  | 0, _ => ⟨by simp [itS], by simpa [itS] using h⟩
  | k + 1, hk => by
    obtain ⟨h1, h2⟩ := itS_fwd ps hp h k (by omega)
    have hm := hp _ (List.getElem_mem (by omega : k < ps.length))
    rw [flat_drop xu (by omega), List.append_assoc] at h2
    have h2' : At l (itS l s k).2 ([zh (ps[k]).rd] ++ ([zh (ps[k]).wr] ++ ((ps.drop (k + 1)).flatMap xu ++ R))) := h2
    obtain ⟨e1, a1⟩ := h2'.fwd1 hm.1
    obtain ⟨e2, a2⟩ := a1.fwd1 hm.2
    refine ⟨?_, a2⟩
    show (itS l s k).1 ++ [_] = _
    rw [h1]
    exact take_snoc (by omega) (by rw [e1, e2])
theorem itS_back {l R : List UInt8} {s : RS} (h : At l s R) : ∀ k, (itS l s k).2.bad = false → ∃ R', R = (itS l s k).1.flatMap xu ++ R' ∧ At l (itS l s k).2 R'
  | 0, _ => ⟨R, rfl, h⟩
  | k + 1, hb => by
    have hb1 : (zv l (itS l s k).2 1).bad = false := At.bad hb
    obtain ⟨R1, e1, a1⟩ := itS_back h k (At.bad hb1)
    obtain ⟨e2, a2⟩ := a1.back1 hb1
    obtain ⟨e3, a3⟩ := a2.back1 hb
    refine ⟨_, ?_, a3⟩
    simp only [itS, List.flatMap_append, List.flatMap_cons, List.flatMap_nil, List.append_nil, xu, List.append_assoc]
    have e5 : ∀ (a b : UInt8) (x : List UInt8), [a, b] ++ x = [a] ++ ([b] ++ x) := fun _ _ _ => rfl
    rw [e5, ← e3, ← e2]; exact e1
theorem itK_fwd {l R : List UInt8} {s : RS} (cs : List (List UInt8)) (sz : List Int) (hs : sz = cs.map fun c => ((c.length : Nat) : Int)) (h : At l s (cs.flatMap id ++ R)) :
    ∀ k, k ≤ cs.length → (itK l sz s k).1 = cs.take k ∧ At l (itK l sz s k).2 ((cs.drop k).flatMap id ++ R)
  | 0, _ => ⟨by simp [itK], by simpa [itK] using h⟩
  | k + 1, hk => by
    obtain ⟨h1, h2⟩ := itK_fwd cs sz hs h k (by omega)
    have hz : ((sz[k]?).getD 0).toNat = (cs[k]'(by omega)).length := by
      subst hs
      rw [List.getElem?_map, List.getElem?_eq_getElem (by omega)]; simp
    rw [flat_drop id (by omega), List.append_assoc] at h2
    obtain ⟨e1, a1⟩ := h2.take (n := ((sz[k]?).getD 0).toNat) hz.symm
    refine ⟨?_, a1⟩
    show (itK l sz s k).1 ++ [_] = _
    rw [h1]
    exact take_snoc (by omega) e1
theorem itK_back {l R : List UInt8} {sz : List Int} {s : RS} (h : At l s R) : ∀ k, (itK l sz s k).2.bad = false → ∃ R', R = (itK l sz s k).1.flatMap id ++ R' ∧ At l (itK l sz s k).2 R'
  | 0, _ => ⟨R, rfl, h⟩
  | k + 1, hb => by
    obtain ⟨R1, e1, a1⟩ := itK_back h k (At.bad hb)
    obtain ⟨e2, a2⟩ := a1.back hb
    refine ⟨_, ?_, a2⟩
    simp only [itK, List.flatMap_append, List.flatMap_cons, List.flatMap_nil, List.append_nil, List.append_assoc, id]
    rw [← e2]; exact e1
theorem itK_lens {l : List UInt8} {sz : List Int} {s : RS} : ∀ k (i : Nat), i < k → (((itK l sz s k).1[i]?).getD []).length = ((sz[i]?).getD 0).toNat
  | k + 1, i, hi => by
    show ((((itK l sz s k).1 ++ [_])[i]?).getD []).length = _
    rcases Nat.lt_succ_iff_lt_or_eq.1 hi with h | h
    · rw [List.getElem?_append_left (by rw [itK_len]; exact h)]; exact itK_lens k i h
    · subst h
      rw [List.getElem?_append_right (by rw [itK_len]; exact Nat.le_refl _), itK_len, Nat.sub_self]
      exact xg _ _ _
/-- Numbers that fit into bytes. -/
structure WF (m : ImageV) : Prop where
  hp : 0 ≤ m.heap ∧ m.heap ≤ 255
  fu : 0 ≤ m.full ∧ m.full ≤ 65535
  nc : m.comps.length ≤ 255
  nl : m.links.length ≤ 255
  ns : m.shares.length ≤ 255
  c : ∀ c ∈ m.comps, c.code.length ≤ 65535 ∧ 0 ≤ c.data ∧ c.data ≤ 255
  l : ∀ p ∈ m.links, (0 ≤ p.fr ∧ p.fr ≤ 255) ∧ (0 ≤ p.to ∧ p.to ≤ 255) ∧ 0 ≤ p.ad ∧ p.ad ≤ 65535
  s : ∀ p ∈ m.shares, (0 ≤ p.rd ∧ p.rd ≤ 255) ∧ 0 ≤ p.wr ∧ p.wr ≤ 255
def allB (m : ImageV) : List UInt8 := put4 m m.comps.length
theorem allB_eq (m : ImageV) : allB m = [83, 90] ++ ([jn m] ++ ([zh m.heap] ++ (twoB m.full ++ ([zh m.comps.length] ++ ([zh m.links.length] ++ ([zh m.shares.length] ++ (m.comps.flatMap putComp ++ (m.links.flatMap yq ++ (m.shares.flatMap xu ++ m.comps.flatMap (·.code))))))))))  := by
  unfold allB put4 put3 put2 put1 je
  simp only [List.take_length, List.append_assoc]
  rfl
theorem strictB_V (m : ImageV) : jn m = zh (strictN m) := by unfold jn strictN; split <;> rfl
theorem get_fwd {l t : List UInt8} {m : ImageV} (hw : WF m) (h : l = allB m ++ t) : At l (gs11 l) t ∧ xj l = [83, 90] ∧ zm l = strictN m ∧ gImg l = m.canon := by
  have a0 : At l (gs0 l) l := ⟨rfl, Nat.zero_le _, rfl⟩
  have a0' : At l (gs0 l) ([83, 90] ++ ([jn m] ++ ([zh m.heap] ++ (twoB m.full ++ ([zh m.comps.length] ++ ([zh m.links.length] ++ ([zh m.shares.length] ++ (m.comps.flatMap putComp ++ (m.links.flatMap yq ++ (m.shares.flatMap xu ++ (m.comps.flatMap (·.code) ++ t))))))))))) := by
    have e := allB_eq m
    rw [e] at h
    simp only [List.append_assoc] at h
    rw [← h]; exact a0
  obtain ⟨e1, a1⟩ := a0'.take (n := 2) rfl
  rw [strictB_V] at a1
  obtain ⟨e2, a2⟩ := At.fwd1 (s := gs1 l) a1 (by unfold strictN; split <;> decide)
  obtain ⟨e3, a3⟩ := At.fwd1 (s := gs2 l) a2 hw.hp
  obtain ⟨e4, a4⟩ := At.fwd2 (s := gs3 l) a3 hw.fu
  have := hw.nc; have := hw.nl; have := hw.ns
  obtain ⟨e5, a5⟩ := At.fwd1 (s := gs4 l) a4 (by omega)
  obtain ⟨e6, a6⟩ := At.fwd1 (s := gs5 l) a5 (by omega)
  obtain ⟨e7, a7⟩ := At.fwd1 (s := gs6 l) a6 (by omega)
  have c5 : gC l = m.comps.length := by unfold gC; rw [e5]; omega
  have c6 : gL l = m.links.length := by unfold gL; rw [e6]; omega
  have c7 : gS l = m.shares.length := by unfold gS; rw [e7]; omega
  have q8 := itC_fwd (s := gs7 l) (m.comps.map fun c => (((c.code.length : Nat) : Int), c.data)) (fun p hp => by
    obtain ⟨c, hc, rfl⟩ := List.mem_map.1 hp
    have := hw.c c hc
    exact ⟨by show 0 ≤ ((c.code.length : Nat) : Int) ∧ _; omega, this.2⟩) (by rw [List.flatMap_map]; exact a7) (gC l) (by simp [c5])
  obtain ⟨e8, a8⟩ := q8
  rw [List.take_of_length_le (by simp [c5])] at e8
  rw [List.drop_of_length_le (by simp [c5]), List.flatMap_nil, List.nil_append] at a8
  obtain ⟨e9, a9⟩ := itL_fwd (s := gs8 l) m.links hw.l a8 (gL l) (by simp [c6])
  rw [List.take_of_length_le (by simp [c6])] at e9
  rw [List.drop_of_length_le (by simp [c6]), List.flatMap_nil, List.nil_append] at a9
  obtain ⟨e10, a10⟩ := itS_fwd (s := gs9 l) m.shares hw.s a9 (gS l) (by simp [c7])
  rw [List.take_of_length_le (by simp [c7])] at e10
  rw [List.drop_of_length_le (by simp [c7]), List.flatMap_nil, List.nil_append] at a10
  have hsz : gSz l = (m.comps.map (·.code)).map fun c => ((c.length : Nat) : Int) := by unfold gSz; rw [e8]; simp
  have hda : gDa l = m.comps.map (·.data) := by unfold gDa; rw [e8]; simp
  have q11 := itK_fwd (s := gs10 l) (m.comps.map (·.code)) (gSz l) hsz (by rw [List.flatMap_map]; exact a10) (gC l) (by simp [c5])
  obtain ⟨e11, a11⟩ := q11
  rw [List.take_of_length_le (by simp [c5])] at e11
  rw [List.drop_of_length_le (by simp [c5]), List.flatMap_nil, List.nil_append] at a11
  refine ⟨a11, e1, e2, ?_⟩
  have hz : ∀ cs : List CompV, List.zipWith mkC (cs.map (·.code)) (cs.map (·.data)) = cs.map CompV.canon := by
    intro cs; induction cs with
    | nil => rfl
    | cons c cs ih => simp [ih, mkC, CompV.canon]
  unfold gImg ImageV.canon
  have qk : decide (zm l = 1) = m.strict := by unfold zm; rw [e2]; unfold strictN; cases m.strict <;> rfl
  rw [qk, e11, hda, hz, e9, e10]
  have hh : kp l = m.heap := e3
  have hf : kq l = m.full := e4
  rw [hh, hf]
theorem zip_code : ∀ {A : List (List UInt8)} {B : List Int}, A.length = B.length → (List.zipWith mkC A B).map (·.code) = A
  | [], [], _ => rfl
  | a :: A, b :: B, h => by
    rw [List.zipWith_cons_cons, List.map_cons, zip_code (by simpa using h)]; rfl
theorem zip_data : ∀ {A : List (List UInt8)} {B : List Int}, A.length = B.length → (List.zipWith mkC A B).map (·.data) = B
  | [], [], _ => rfl
  | a :: A, b :: B, h => by
    rw [List.zipWith_cons_cons, List.map_cons, zip_data (by simpa using h)]; rfl
theorem get_back {l : List UInt8} (hb : (gs11 l).bad = false) (hn : xj l = [83, 90]) (hs : zm l ≤ 1) : l = allB (gImg l) ++ l.drop (gs11 l).off ∧ WF (gImg l) := by
  have hC := gC_le l; have hL := gL_le l; have hS := gS_le l
  have b10 : (gs10 l).bad = false := by
    have key : ∀ k, (itK l (gSz l) (gs10 l) k).2.bad = false → (gs10 l).bad = false := by
      intro k; induction k with
      | zero => exact id
      | succ k ih => exact fun h => ih (At.bad h)
    exact key _ hb
  have b9 : (gs9 l).bad = false := by
    have key : ∀ k, (itS l (gs9 l) k).2.bad = false → (gs9 l).bad = false := by
      intro k; induction k with
      | zero => exact id
      | succ k ih => exact fun h => ih (At.bad (At.bad h))
    exact key _ b10
  have b8 : (gs8 l).bad = false := by
    have key : ∀ k, (itL l (gs8 l) k).2.bad = false → (gs8 l).bad = false := by
      intro k; induction k with
      | zero => exact id
      | succ k ih => exact fun h => ih (At.bad (At.bad (At.bad h)))
    exact key _ b9
  have b7 : (gs7 l).bad = false := by
    have key : ∀ k, (itC l (gs7 l) k).2.bad = false → (gs7 l).bad = false := by
      intro k; induction k with
      | zero => exact id
      | succ k ih => exact fun h => ih (At.bad (At.bad h))
    exact key _ b8
  have b6 : (gs6 l).bad = false := At.bad b7
  have b5 : (gs5 l).bad = false := At.bad b6
  have b4 : (gs4 l).bad = false := At.bad b5
  have b3 : (gs3 l).bad = false := At.bad b4
  have b2 : (gs2 l).bad = false := At.bad b3
  have b1 : (gs1 l).bad = false := At.bad b2
  have a0 : At l (gs0 l) l := ⟨rfl, Nat.zero_le _, rfl⟩
  obtain ⟨e1, a1⟩ := a0.back b1
  obtain ⟨e2, a2⟩ := At.back1 (s := gs1 l) a1 b2
  obtain ⟨e3, a3⟩ := At.back1 (s := gs2 l) a2 b3
  obtain ⟨e4, a4⟩ := At.back2 (s := gs3 l) a3 b4
  obtain ⟨e5, a5⟩ := At.back1 (s := gs4 l) a4 b5
  obtain ⟨e6, a6⟩ := At.back1 (s := gs5 l) a5 b6
  obtain ⟨e7, a7⟩ := At.back1 (s := gs6 l) a6 b7
  obtain ⟨R8, e8, a8⟩ := itC_back (s := gs7 l) a7 _ b8
  obtain ⟨R9, e9, a9⟩ := itL_back (s := gs8 l) a8 _ b9
  obtain ⟨R10, e10, a10⟩ := itS_back (s := gs9 l) a9 _ b10
  obtain ⟨R11, e11, a11⟩ := itK_back (s := gs10 l) (sz := gSz l) a10 _ hb
  have hcl : (gImg l).comps.length = gC l := by simp [gImg, itK_len, gDa, yr]
  have hll : (gImg l).links.length = gL l := by simp [gImg, itL_len]
  have hsl : (gImg l).shares.length = gS l := by simp [gImg, itS_len]
  have hs0 := yg l (gs1 l)
  have qk : [jn (gImg l)] = [zh (oneV l (gs1 l))] := by
    have hg : zm l = oneV l (gs1 l) := rfl
    have : oneV l (gs1 l) = 0 ∨ oneV l (gs1 l) = 1 := by omega
    rcases this with h | h
    · have : (gImg l).strict = false := by show decide (zm l = 1) = false; rw [hg, h]; rfl
      unfold jn; rw [this, h]; rfl
    · have : (gImg l).strict = true := by show decide (zm l = 1) = true; rw [hg, h]; rfl
      unfold jn; rw [this, h]; rfl
  have hcode : (gImg l).comps.map (·.code) = (itK l (gSz l) (gs10 l) (gC l)).1 := by
    exact zip_code (by rw [itK_len]; simp [gDa, yr])
  have hcp : (gImg l).comps.flatMap putComp = (itC l (gs7 l) (gC l)).1.flatMap pairB := by
    have : (gImg l).comps.map (fun c => ((c.code.length : Nat) : Int)) = gSz l ∧ (gImg l).comps.map (·.data) = gDa l := by
      constructor
      · have hm : (gImg l).comps.map (fun c => ((c.code.length : Nat) : Int)) = ((gImg l).comps.map (·.code)).map (fun c => ((c.length : Nat) : Int)) := by rw [List.map_map]; rfl
        rw [hm, hcode]
        apply List.ext_getElem
        · rw [List.length_map, itK_len, gSz_len]
        · intro i h1 h2
          have hi : i < gC l := by rw [gSz_len] at h2; exact h2
          have hz := itK_lens (l := l) (sz := gSz l) (s := gs10 l) (gC l) i hi
          have h3 : i < (itK l (gSz l) (gs10 l) (gC l)).1.length := by rw [itK_len]; exact hi
          rw [List.getElem?_eq_getElem h3, List.getElem?_eq_getElem h2] at hz
          simp only [Option.getD_some] at hz
          rw [List.getElem_map, hz]
          have := (szN_int h2)
          omega
      · exact zip_data (by rw [itK_len]; simp [gDa, yr])
    obtain ⟨h1, h2⟩ := this
    have e : (gImg l).comps.map (fun c => (((c.code.length : Nat) : Int), c.data)) = (itC l (gs7 l) (gC l)).1 := by
      apply List.ext_getElem
      · simp [hcl, yr]
      · intro i g1 g2
        have i1 : ((gImg l).comps.map (fun c => ((c.code.length : Nat) : Int)))[i]? = (gSz l)[i]? := by rw [h1]
        have i2 : ((gImg l).comps.map (·.data))[i]? = (gDa l)[i]? := by rw [h2]
        have g1' : i < (gImg l).comps.length := by simpa using g1
        rw [List.getElem?_map, List.getElem?_eq_getElem g1'] at i1 i2
        unfold gSz at i1; unfold gDa at i2
        rw [List.getElem?_map, List.getElem?_eq_getElem g2] at i1 i2
        simp only [Option.map_some, Option.some.injEq] at i1 i2
        rw [List.getElem_map]
        exact Prod.ext i1 i2
    rw [← e, List.flatMap_map]; rfl
  have hdr : l.drop (gs11 l).off = R11 := a11.dr
  refine ⟨?_, ?_⟩
  · rw [allB_eq, qk, hcp, hdr]
    have h3 : (gImg l).heap = oneV l (gs2 l) := rfl
    have h4 : (gImg l).full = twoV l (gs3 l) := rfl
    have h5 : (((gImg l).comps.length : Nat) : Int) = oneV l (gs4 l) := by rw [hcl, gC_int]
    have h6 : (((gImg l).links.length : Nat) : Int) = oneV l (gs5 l) := by rw [hll, gL_int]
    have h7 : (((gImg l).shares.length : Nat) : Int) = oneV l (gs6 l) := by rw [hsl, gS_int]
    have h9 : (gImg l).links = (itL l (gs8 l) (gL l)).1 := rfl
    have h10 : (gImg l).shares = (itS l (gs9 l) (gS l)).1 := rfl
    have h11 : (gImg l).comps.flatMap (·.code) = (itK l (gSz l) (gs10 l) (gC l)).1.flatMap id := by rw [← hcode, List.flatMap_map]; rfl
    rw [h3, h4, h5, h6, h7, h9, h10, h11]
    simp only [List.append_assoc]
    rw [← e11, ← e10, ← e9, ← e8, ← e7, ← e6, ← e5, ← e4, ← e3, ← e2]
    have hnm : kb l (gs0 l).off 2 = [83, 90] := hn
    rw [← hnm]; exact e1
  · refine ⟨yg l _, twoV_le l _, by rw [hcl]; exact hC, by rw [hll]; exact hL, by rw [hsl]; exact hS, ?_, ?_, ?_⟩
    · intro c hc
      have hc' : c ∈ List.zipWith mkC (itK l (gSz l) (gs10 l) (gC l)).1 (gDa l) := hc
      obtain ⟨i, hi, rfl⟩ := List.getElem_of_mem hc'
      have hi1 : i < (itK l (gSz l) (gs10 l) (gC l)).1.length := by simp at hi; omega
      have hi2 : i < (gDa l).length := by simp at hi; omega
      have hi3 : i < gC l := by rw [itK_len] at hi1; exact hi1
      have hz := itK_lens (l := l) (sz := gSz l) (s := gs10 l) (gC l) i hi3
      rw [List.getElem?_eq_getElem hi1] at hz
      simp only [Option.getD_some] at hz
      have hzz := szN_int (l := l) (k := i) (by rw [gSz_len]; exact hi3)
      rw [List.getElem?_eq_getElem (by rw [gSz_len]; exact hi3)] at hz
      simp only [Option.getD_some] at hz
      rw [List.getElem_zipWith]
      refine ⟨by show ((itK l (gSz l) (gs10 l) (gC l)).1[i]).length ≤ _; omega, ?_⟩
      show 0 ≤ (gDa l)[i] ∧ (gDa l)[i] ≤ 255
      have key : ∀ k, ∀ p ∈ (itC l (gs7 l) k).1, 0 ≤ p.2 ∧ p.2 ≤ 255 := by
        intro k; induction k with
        | zero => intro p hp; simp [itC] at hp
        | succ k ih =>
          intro p hp
          simp only [itC, List.mem_append, List.mem_singleton] at hp
          rcases hp with hp | rfl
          · exact ih p hp
          · exact yg l _
      obtain ⟨p, hp, e⟩ := List.mem_map.1 (show (gDa l)[i] ∈ (itC l (gs7 l) (gC l)).1.map (·.2) from List.getElem_mem hi2)
      have := key _ p hp
      have e : p.2 = (gDa l)[i] := e
      omega
    · have key : ∀ k, ∀ p ∈ (itL l (gs8 l) k).1, (0 ≤ p.fr ∧ p.fr ≤ 255) ∧ (0 ≤ p.to ∧ p.to ≤ 255) ∧ 0 ≤ p.ad ∧ p.ad ≤ 65535 := by
        intro k; induction k with
        | zero => intro p hp; simp [itL] at hp
        | succ k ih =>
          intro p hp
          simp only [itL, List.mem_append, List.mem_singleton] at hp
          rcases hp with hp | rfl
          · exact ih p hp
          · exact ⟨yg l _, yg l _, twoV_le l _⟩
      exact key _
    · have key : ∀ k, ∀ p ∈ (itS l (gs9 l) k).1, (0 ≤ p.rd ∧ p.rd ≤ 255) ∧ 0 ≤ p.wr ∧ p.wr ≤ 255 := by
        intro k; induction k with
        | zero => intro p hp; simp [itS] at hp
        | succ k ih =>
          intro p hp
          simp only [itS, List.mem_append, List.mem_singleton] at hp
          rcases hp with hp | rfl
          · exact ih p hp
          · exact ⟨yg l _, yg l _⟩
      exact key _
end Go.Img
