/-
  Plain: the reference's image of bytes is the program's.
-/
import Derived.Test.YtgddigkdldnmdaaImgK
namespace Go.Img
open Go Go.Vg
def hiV (l : List UInt8) (s : RS) : Int := ((yk (kb l s.off 2) 0).toNat : Int)
def loV (l : List UInt8) (s : RS) : Int := ((yk (kb l s.off 2) 1).toNat : Int)
theorem twoV_eq (l : List UInt8) (s : RS) : 256 * hiV l s + loV l s = twoV l s := by unfold hiV loV twoV; omega
theorem hiV_b (l : List UInt8) (s : RS) : (0 ≤ hiV l s ∧ hiV l s ≤ 255) ∧ (0 ≤ loV l s ∧ loV l s ≤ 255) := by
  unfold hiV loV
  have := (yk (kb l s.off 2) 0).toNat_lt
  have := (yk (kb l s.off 2) 1).toNat_lt
  omega
theorem takeS_at {l : List UInt8} {o n i : Nat} (h : o + n ≤ l.length) (hi : i < n) : yk (kb l o n) i = l[o + i]'(by omega) := by
  unfold kb yk
  rw [if_pos h, List.getElem?_eq_getElem (by simp; omega)]
  simp
theorem enc_one {l : List UInt8} {s : RS} {o : Nat} (hs : s.off = o) (h : o < l.length) : encB l[o] = [.int .u8 (oneV l s)] := by
  unfold encB oneV
  rw [hs, takeS_at (by omega) (by omega)]; rfl
theorem enc_hi {l : List UInt8} {s : RS} {o : Nat} (hs : s.off = o) (h : o + 2 ≤ l.length) : encB (l[o]'(by omega)) = [.int .u8 (hiV l s)] := by
  unfold encB hiV
  rw [hs, takeS_at h (by omega)]; rfl
theorem enc_lo {l : List UInt8} {s : RS} {o : Nat} (hs : s.off = o) (h : o + 2 ≤ l.length) : encB (l[o + 1]'(by omega)) = [.int .u8 (loV l s)] := by
  unfold encB loV
  rw [hs, takeS_at h (by omega)]
theorem x5 {l : List UInt8} {o n : Nat} (h : o + n ≤ l.length) : zv l ⟨o, false⟩ n = ⟨o + n, false⟩ := by unfold zv; rw [if_pos h]
theorem hdr {l : List UInt8} (h : 9 ≤ l.length) : gs1 l = ⟨2, false⟩ ∧ gs2 l = ⟨3, false⟩ ∧ gs3 l = ⟨4, false⟩ ∧ gs4 l = ⟨6, false⟩ ∧ gs5 l = ⟨7, false⟩ ∧ gs6 l = ⟨8, false⟩ ∧ gs7 l = ⟨9, false⟩ := by
  have e1 : gs1 l = ⟨2, false⟩ := x5 (o := 0) (n := 2) (by omega)
  have e2 : gs2 l = ⟨3, false⟩ := by unfold gs2; rw [e1]; exact x5 (by omega)
  have e3 : gs3 l = ⟨4, false⟩ := by unfold gs3; rw [e2]; exact x5 (by omega)
  have e4 : gs4 l = ⟨6, false⟩ := by unfold gs4; rw [e3]; exact x5 (by omega)
  have e5 : gs5 l = ⟨7, false⟩ := by unfold gs5; rw [e4]; exact x5 (by omega)
  have e6 : gs6 l = ⟨8, false⟩ := by unfold gs6; rw [e5]; exact x5 (by omega)
  have e7 : gs7 l = ⟨9, false⟩ := by unfold gs7; rw [e6]; exact x5 (by omega)
  exact ⟨e1, e2, e3, e4, e5, e6, e7⟩
def tabN (l : List UInt8) : Nat := 9 + 3 * gC l + 4 * gL l + 2 * gS l
theorem itC_st {l : List UInt8} {o : Nat} {s : RS} (hs : s = ⟨o, false⟩) : ∀ k, o + 3 * k ≤ l.length → (itC l s k).2 = ⟨o + 3 * k, false⟩
  | 0, _ => hs
  | k + 1, h => by
    simp only [itC]
    rw [itC_st hs k (by omega), x5 (by omega), x5 (by omega)]
    congr 1
theorem itL_st {l : List UInt8} {o : Nat} {s : RS} (hs : s = ⟨o, false⟩) : ∀ k, o + 4 * k ≤ l.length → (itL l s k).2 = ⟨o + 4 * k, false⟩
  | 0, _ => hs
  | k + 1, h => by
    simp only [itL]
    rw [itL_st hs k (by omega), x5 (by omega), x5 (by omega), x5 (by omega)]
    congr 1
theorem itS_st {l : List UInt8} {o : Nat} {s : RS} (hs : s = ⟨o, false⟩) : ∀ k, o + 2 * k ≤ l.length → (itS l s k).2 = ⟨o + 2 * k, false⟩
  | 0, _ => hs
  | k + 1, h => by
    simp only [itS]
    rw [itS_st hs k (by omega), x5 (by omega), x5 (by omega)]
    congr 1
theorem gs8_st {l : List UInt8} (h : tabN l ≤ l.length) : gs8 l = ⟨9 + 3 * gC l, false⟩ := by
  unfold tabN at h; exact itC_st (hdr (by omega)).2.2.2.2.2.2 _ (by omega)
theorem gs9_st {l : List UInt8} (h : tabN l ≤ l.length) : gs9 l = ⟨9 + 3 * gC l + 4 * gL l, false⟩ := by
  have := gs8_st h; unfold tabN at h; exact itL_st this _ (by omega)
theorem gs10_st {l : List UInt8} (h : tabN l ≤ l.length) : gs10 l = ⟨tabN l, false⟩ := by
  have := gs9_st h; exact itS_st this _ h
/-- Where the codes begin, as the reference reads them. -/
def rAt (l : List UInt8) : Nat → Nat
  | 0 => tabN l
  | k + 1 => rAt l k + min (szN l k) (l.length - rAt l k)
def rCode (l : List UInt8) (k : Nat) : List UInt8 := (l.drop (rAt l k)).take (min (szN l k) (l.length - rAt l k))
def rCodes (l : List UInt8) (k : Nat) : List (List UInt8) := (List.range k).map (rCode l)
def rImg (l : List UInt8) : ImageV := { gImg l with comps := List.zipWith mkC (rCodes l (gC l)) (gDa l) }
theorem rAt_le {l : List UInt8} (h : tabN l ≤ l.length) : ∀ k, rAt l k ≤ l.length
  | 0 => h
  | k + 1 => by have := rAt_le h k; unfold rAt; omega
theorem rCode_len {l : List UInt8} (k : Nat) : (rCode l k).length = min (szN l k) (l.length - rAt l k) := by
  unfold rCode; rw [List.length_take, List.length_drop]; omega
theorem rCodes_succ (l : List UInt8) (k : Nat) : rCodes l (k + 1) = rCodes l k ++ [rCode l k] := by unfold rCodes; rw [List.range_succ, List.map_append]; rfl
theorem rK {l : List UInt8} (h : tabN l ≤ l.length) : ∀ k, (itK l (gSz l) (gs10 l) k).2.bad = false → (itK l (gSz l) (gs10 l) k).2 = ⟨rAt l k, false⟩ ∧ (itK l (gSz l) (gs10 l) k).1 = rCodes l k
  | 0, _ => ⟨gs10_st h, rfl⟩
  | k + 1, hb => by
    have hb' : (zv l (itK l (gSz l) (gs10 l) k).2 (szN l k)).bad = false := hb
    obtain ⟨e1, e2⟩ := rK h k (At.bad hb')
    rw [e1] at hb'
    unfold zv at hb'
    split at hb'
    · rename_i hi
      have hi : rAt l k + szN l k ≤ l.length := hi
      have hm : min (szN l k) (l.length - rAt l k) = szN l k := by omega
      constructor
      · show zv l (itK l (gSz l) (gs10 l) k).2 (szN l k) = _
        rw [e1, x5 hi]
        show (⟨rAt l k + szN l k, false⟩ : RS) = ⟨rAt l k + min (szN l k) (l.length - rAt l k), false⟩
        rw [hm]
      · show (itK l (gSz l) (gs10 l) k).1 ++ [kb l (itK l (gSz l) (gs10 l) k).2.off (szN l k)] = _
        rw [e1, e2, rCodes_succ]
        unfold rCode kb
        rw [hm, if_pos hi]
    · simp at hb'
theorem allB_len {m : ImageV} : 9 + 3 * m.comps.length + 4 * m.links.length + 2 * m.shares.length ≤ (allB m).length := by
  rw [allB_eq]
  have h1 := xw (f := putComp) (c := 3) (fun _ => rfl) m.comps
  have h2 := xw (f := yq) (c := 4) (fun _ => rfl) m.links
  have h3 := xw (f := xu) (c := 2) (fun _ => rfl) m.shares
  simp only [List.length_append, h1, h2, h3, twoB, List.length_cons, List.length_nil]
  omega
theorem ref_small {l : List UInt8} (h : l.length < 9) : getI l = (ya, 1) := by
  rw [xd]
  cases hQ : gQ l
  · exfalso
    obtain ⟨h1, h2, h3, h4, h5⟩ := notQ hQ
    obtain ⟨e1, _⟩ := get_back h1 h3 h4
    rw [List.drop_of_length_le h2, List.append_nil] at e1
    have := congrArg List.length e1
    have := allB_len (m := gImg l)
    omega
  · rw [if_pos rfl]
theorem ref_tab {l : List UInt8} (h : l.length < tabN l) : getI l = (ya, 1) := by
  rw [xd]
  cases hQ : gQ l
  · exfalso
    obtain ⟨h1, h2, h3, h4, h5⟩ := notQ hQ
    obtain ⟨e1, _⟩ := get_back h1 h3 h4
    rw [List.drop_of_length_le h2, List.append_nil] at e1
    have := congrArg List.length e1
    have := allB_len (m := gImg l)
    have hcl : (gImg l).comps.length = gC l := by simp [gImg, itK_len, gDa, yr]
    have hll : (gImg l).links.length = gL l := by simp [gImg, itL_len]
    have hsl : (gImg l).shares.length = gS l := by simp [gImg, itS_len]
    unfold tabN at h
    omega
  · rw [if_pos rfl]
theorem ref_img {l : List UInt8} (h : tabN l ≤ l.length) (hQ : gQ l = false) : rImg l = gImg l := by
  have hb := (notQ hQ).1
  have := (rK h _ hb).2
  unfold rImg
  rw [← this]; rfl
theorem ref_form {l : List UInt8} (h : tabN l ≤ l.length) (hf : jo (rImg l) = false) : getI l = (ya, 1) := by
  rw [xd]
  cases hQ : gQ l
  · have := (notQ hQ).2.2.2.2
    rw [← ref_img h hQ, hf] at this; cases this
  · rw [if_pos rfl]
theorem ref_bytes {l : List UInt8} (h : tabN l ≤ l.length) (hf : ¬ allB (rImg l) = l) : getI l = (ya, 1) := by
  rw [xd]
  cases hQ : gQ l
  · exfalso
    obtain ⟨h1, h2, h3, h4, h5⟩ := notQ hQ
    obtain ⟨e1, _⟩ := get_back h1 h3 h4
    rw [List.drop_of_length_le h2, List.append_nil, ← ref_img h hQ] at e1
    exact hf e1.symm
  · rw [if_pos rfl]
theorem rImg_wr (l : List UInt8) : ∀ s ∈ (rImg l).shares, s.wr ≤ 9223372036854775807 := by
  have key : ∀ k, ∀ p ∈ (itS l (gs9 l) k).1, p.wr ≤ 9223372036854775807 := by
    intro k; induction k with
    | zero => intro p hp; simp [itS] at hp
    | succ k ih =>
      intro p hp
      simp only [itS, List.mem_append, List.mem_singleton] at hp
      rcases hp with hp | rfl
      · exact ih p hp
      · have := (yg l (zv l (itS l (gs9 l) k).2 1)).2
        show oneV l (zv l (itS l (gs9 l) k).2 1) ≤ _; omega
  exact key _
theorem rImg_canon (l : List UInt8) : (rImg l).canon = rImg l := by
  have key : ∀ (A : List (List UInt8)) (B : List Int), (List.zipWith mkC A B).map CompV.canon = List.zipWith mkC A B := by
    intro A; induction A with
    | nil => intro B; simp
    | cons a A ih => intro B; cases B with
      | nil => simp
      | cons b B => simp [ih, mkC, CompV.canon]
  unfold ImageV.canon
  show ({ rImg l with ca := none, ccap := 0, comps := (List.zipWith mkC (rCodes l (gC l)) (gDa l)).map CompV.canon, la := none, lcap := 0, sa := none, scap := 0 } : ImageV) = rImg l
  rw [key]; rfl
theorem ref_right {l : List UInt8} (hf : jo (rImg l) = true) (he : allB (rImg l) = l) : getI l = if z2 (rImg l) = false then (ya, 151) else (rImg l, 0) := by
  obtain ⟨a, e1, e2, e3⟩ := get_fwd (l := l) (t := []) (right_wf (formS_ok hf) (rImg_wr l)) (by rw [he, List.append_nil])
  rw [rImg_canon] at e3
  have hoff : ¬ (gs11 l).off < l.length := by
    have := congrArg List.length a.dr
    simp only [List.length_drop, List.length_nil] at this
    omega
  have hQ : gQ l = false := by
    unfold gQ
    rw [a.ok, e1, e2, e3, hf, decide_eq_false hoff]
    have : ¬ 1 < strictN (rImg l) := by unfold strictN; split <;> omega
    simp [this]
  rw [xd, if_neg (by rw [hQ]; simp), e3]
/-- The sizes so far. -/
def sz1 (l : List UInt8) (k : Nat) : List Int := (itC l (gs7 l) k).1.map (·.1)
theorem sz1_len (l : List UInt8) (k : Nat) : (sz1 l k).length = k := by simp [sz1, yr]
theorem sz1_succ (l : List UInt8) (k : Nat) : sz1 l (k + 1) = sz1 l k ++ [twoV l (itC l (gs7 l) k).2] := by simp [sz1, itC]
theorem sz1_all (l : List UInt8) : sz1 l (gC l) = gSz l := rfl
end Go.Img
