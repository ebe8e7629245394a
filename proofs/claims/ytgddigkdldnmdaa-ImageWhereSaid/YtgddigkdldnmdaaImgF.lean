/-
  Plain: the image of bytes.
-/
import Derived.Test.YtgddigkdldnmdaaImgE
namespace Go.Img
open Go Go.Vg
def CompV.canon (c : CompV) : CompV := { c with a := none, cap := 0 }
def ImageV.canon (m : ImageV) : ImageV := { m with ca := none, ccap := 0, comps := m.comps.map CompV.canon, la := none, lcap := 0, sa := none, scap := 0 }
def mkC (code : List UInt8) (data : Int) : CompV := ⟨none, 0, code, data⟩
def gs0 (_l : List UInt8) : RS := ⟨0, false⟩
def gs1 (l : List UInt8) : RS := zv l (gs0 l) 2
def gs2 (l : List UInt8) : RS := zv l (gs1 l) 1
def gs3 (l : List UInt8) : RS := zv l (gs2 l) 1
def gs4 (l : List UInt8) : RS := zv l (gs3 l) 2
def gs5 (l : List UInt8) : RS := zv l (gs4 l) 1
def gs6 (l : List UInt8) : RS := zv l (gs5 l) 1
def gs7 (l : List UInt8) : RS := zv l (gs6 l) 1
def xj (l : List UInt8) : List UInt8 := kb l 0 2
def zm (l : List UInt8) : Int := oneV l (gs1 l)
def kp (l : List UInt8) : Int := oneV l (gs2 l)
def kq (l : List UInt8) : Int := twoV l (gs3 l)
def gC (l : List UInt8) : Nat := (oneV l (gs4 l)).toNat
def gL (l : List UInt8) : Nat := (oneV l (gs5 l)).toNat
def gS (l : List UInt8) : Nat := (oneV l (gs6 l)).toNat
/-- What the compartments' sizes and pages are. -/
def itC (l : List UInt8) (s : RS) : Nat → List (Int × Int) × RS
  | 0 => ([], s)
  | k + 1 => ((itC l s k).1 ++ [(twoV l (itC l s k).2, oneV l (zv l (itC l s k).2 2))], zv l (zv l (itC l s k).2 2) 1)
def itL (l : List UInt8) (s : RS) : Nat → List LinkV × RS
  | 0 => ([], s)
  | k + 1 => ((itL l s k).1 ++ [⟨oneV l (itL l s k).2, oneV l (zv l (itL l s k).2 1), twoV l (zv l (zv l (itL l s k).2 1) 1)⟩], zv l (zv l (zv l (itL l s k).2 1) 1) 2)
def itS (l : List UInt8) (s : RS) : Nat → List ShareV × RS
  | 0 => ([], s)
  | k + 1 => ((itS l s k).1 ++ [⟨oneV l (itS l s k).2, oneV l (zv l (itS l s k).2 1)⟩], zv l (zv l (itS l s k).2 1) 1)
def itK (l : List UInt8) (sz : List Int) (s : RS) : Nat → List (List UInt8) × RS
  | 0 => ([], s)
  | k + 1 => ((itK l sz s k).1 ++ [kb l (itK l sz s k).2.off ((sz[k]?).getD 0).toNat], zv l (itK l sz s k).2 ((sz[k]?).getD 0).toNat)
def gs8 (l : List UInt8) : RS := (itC l (gs7 l) (gC l)).2
def gs9 (l : List UInt8) : RS := (itL l (gs8 l) (gL l)).2
def gs10 (l : List UInt8) : RS := (itS l (gs9 l) (gS l)).2
def gSz (l : List UInt8) : List Int := (itC l (gs7 l) (gC l)).1.map (·.1)
def gDa (l : List UInt8) : List Int := (itC l (gs7 l) (gC l)).1.map (·.2)
def gs11 (l : List UInt8) : RS := (itK l (gSz l) (gs10 l) (gC l)).2
def gImg (l : List UInt8) : ImageV :=
  { strict := decide (zm l = 1), heap := kp l, full := kq l, ca := none, ccap := 0, comps := List.zipWith mkC (itK l (gSz l) (gs10 l) (gC l)).1 (gDa l), la := none, lcap := 0, links := (itL l (gs8 l) (gL l)).1, sa := none, scap := 0, shares := (itS l (gs9 l) (gS l)).1 }
def ya : ImageV := { strict := false, heap := 0, full := 0, ca := none, ccap := 0, comps := [], la := none, lcap := 0, links := [], sa := none, scap := 0, shares := [] }
/-- image.Get -/
def getI (l : List UInt8) : ImageV × Int :=
  if ((gs11 l).bad || (decide ((gs11 l).off < l.length) || (!decide (xj l = [83, 90]) || (decide (1 < zm l) || !jo (gImg l))))) = true then (ya, 1)
  else if z2 (gImg l) = false then (ya, 151) else (gImg l, 0)

theorem yg (l : List UInt8) (s : RS) : 0 ≤ oneV l s ∧ oneV l s ≤ 255 := by
  unfold oneV
  have := (yk (kb l s.off 1) 0).toNat_lt
  omega
theorem twoV_le (l : List UInt8) (s : RS) : 0 ≤ twoV l s ∧ twoV l s ≤ 65535 := by
  unfold twoV
  have := (yk (kb l s.off 2) 0).toNat_lt
  have := (yk (kb l s.off 2) 1).toNat_lt
  omega
theorem yr (l : List UInt8) (s : RS) : ∀ k, (itC l s k).1.length = k
  | 0 => rfl
  | k + 1 => by simp [itC, yr l s k]
theorem itL_len (l : List UInt8) (s : RS) : ∀ k, (itL l s k).1.length = k
  | 0 => rfl
  | k + 1 => by simp [itL, itL_len l s k]
theorem itS_len (l : List UInt8) (s : RS) : ∀ k, (itS l s k).1.length = k
  | 0 => rfl
  | k + 1 => by simp [itS, itS_len l s k]
theorem itK_len (l : List UInt8) (sz : List Int) (s : RS) : ∀ k, (itK l sz s k).1.length = k
  | 0 => rfl
  | k + 1 => by simp [itK, itK_len l sz s k]
theorem itC_le (l : List UInt8) (s : RS) : ∀ k, ∀ p ∈ (itC l s k).1, 0 ≤ p.1 ∧ p.1 ≤ 65535
  | 0, p, hp => by simp [itC] at hp
  | k + 1, p, hp => by
    simp only [itC, List.mem_append, List.mem_singleton] at hp
    rcases hp with hp | rfl
    · exact itC_le l s k p hp
    · exact twoV_le l _
theorem gC_le (l : List UInt8) : gC l ≤ 255 := by have := yg l (gs4 l); unfold gC; omega
theorem gL_le (l : List UInt8) : gL l ≤ 255 := by have := yg l (gs5 l); unfold gL; omega
theorem gS_le (l : List UInt8) : gS l ≤ 255 := by have := yg l (gs6 l); unfold gS; omega
theorem gC_int (l : List UInt8) : oneV l (gs4 l) = ((gC l : Nat) : Int) := by have := yg l (gs4 l); unfold gC; omega
theorem gL_int (l : List UInt8) : oneV l (gs5 l) = ((gL l : Nat) : Int) := by have := yg l (gs5 l); unfold gL; omega
theorem gS_int (l : List UInt8) : oneV l (gs6 l) = ((gS l : Nat) : Int) := by have := yg l (gs6 l); unfold gS; omega
theorem gSz_len (l : List UInt8) : (gSz l).length = gC l := by simp [gSz, yr]
def szN (l : List UInt8) (k : Nat) : Nat := (((gSz l)[k]?).getD 0).toNat
theorem szN_int {l : List UInt8} {k : Nat} (h : k < (gSz l).length) : (gSz l)[k] = ((szN l k : Nat) : Int) ∧ szN l k ≤ 65535 := by
  have hm : (gSz l)[k] ∈ gSz l := List.getElem_mem h
  have hb : 0 ≤ (gSz l)[k] ∧ (gSz l)[k] ≤ 65535 := by
    obtain ⟨p, hp, e⟩ := List.mem_map.1 (show (gSz l)[k] ∈ (itC l (gs7 l) (gC l)).1.map (·.1) from hm)
    have := itC_le l _ _ p hp
    have e : p.1 = (gSz l)[k] := e
    omega
  unfold szN
  rw [List.getElem?_eq_getElem h]
  simp only [Option.getD_some]
  omega
/-- The sizes so far. -/
def szs (l : List UInt8) (k : Nat) : List Int := (itC l (gs7 l) k).1.map (·.1) ++ List.replicate (gC l - k) 0
def cmp (l : List UInt8) (k : Nat) : List CompV := (itC l (gs7 l) k).1.map fun p => mkC [] p.2
theorem szs_succ {l : List UInt8} {k : Nat} (h : k < gC l) : (szs l k).set k (twoV l (itC l (gs7 l) k).2) = szs l (k + 1) := by
  have hl : ((itC l (gs7 l) k).1.map (·.1)).length = k := by simp [yr]
  unfold szs
  rw [List.set_append_right _ _ (by omega), hl, Nat.sub_self, show gC l - k = (gC l - (k + 1)) + 1 from by omega, List.replicate_succ, List.set_cons_zero]
  simp [itC]
theorem szs_len {l : List UInt8} {k : Nat} (h : k ≤ gC l) : (szs l k).length = gC l := by
  unfold szs; simp [yr]; omega
theorem szs_all (l : List UInt8) : szs l (gC l) = gSz l := by unfold szs gSz; simp
theorem cmp_succ (l : List UInt8) (k : Nat) : cmp l (k + 1) = cmp l k ++ [mkC [] (oneV l (zv l (itC l (gs7 l) k).2 2))] := by unfold cmp; simp [itC]
theorem cmp_len (l : List UInt8) (k : Nat) : (cmp l k).length = k := by unfold cmp; simp [yr]
/-! ### An image's answers do not depend on where it stands -/
theorem allS_canon (c : CompV) : xl c.canon = xl c := rfl
theorem linkS_canon (m : ImageV) (k : LinkV) : km m.canon k = km m k := by
  have : codeLen m.canon k.to = codeLen m k.to := by
    unfold codeLen ImageV.canon
    simp only [List.getElem?_map]
    cases m.comps[k.to.toNat]? <;> rfl
  unfold km
  rw [this]
  simp [ImageV.canon]
theorem all_canon (l : List CompV) (p : CompV → Bool) (hp : ∀ c, p c.canon = p c) : (l.map CompV.canon).all p = l.all p := by
  induction l with
  | nil => rfl
  | cons c l ih => simp [hp, ih]
theorem formS_canon (m : ImageV) : jo m.canon = jo m := by
  unfold jo
  have h1 : form0S m.canon = form0S m := by unfold form0S ImageV.canon; simp only [List.length_map]
  have h2 : m.canon.comps.all kf = m.comps.all kf := all_canon _ _ fun c => rfl
  have h3 : m.canon.links.all (km m.canon) = m.links.all (km m) := by
    show m.links.all (km m.canon) = _
    rw [funext (linkS_canon m)]
  have h4 : m.canon.shares.all (jm m.canon) = m.shares.all (jm m) := by
    have : jm m.canon = jm m := funext fun s => by simp [jm, ImageV.canon]
    rw [this]; rfl
  rw [h1, h2, h3, h4]; rfl
theorem x3 (m : ImageV) : z2 m.canon = z2 m := by
  unfold z2
  rw [formS_canon]
  congr 1
  exact all_canon _ _ fun c => rfl
end Go.Img
