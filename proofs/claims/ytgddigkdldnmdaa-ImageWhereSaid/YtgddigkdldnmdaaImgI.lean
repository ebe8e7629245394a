/-
  Plain: the one image of the live question, and what is computed of it.
-/
import Derived.Test.YtgddigkdldnmdaaImgH
import Derived.KernelRfl
namespace Go.Img
open Go Go.Vg
def oneI : ImageV :=
  { strict := false, heap := 2, full := 8, ca := none, ccap := 0, comps := [mkC [1, 1, 0, 7, 0, 0, 0, 0] 1, mkC [0, 0, 0, 0] 2], la := none, lcap := 0, links := [⟨1, 0, 1⟩], sa := none, scap := 0, shares := [⟨3, 1⟩] }
def oneB : List UInt8 := [83, 90, 0, 2, 0, 8, 2, 1, 1, 0, 8, 1, 0, 4, 2, 1, 0, 0, 1, 3, 1, 1, 1, 0, 7, 0, 0, 0, 0, 0, 0, 0, 0]
def badB : List UInt8 := [83, 90, 0, 2, 0, 8, 2, 1, 1, 0, 8, 1, 0, 4, 2, 1, 0, 0, 1, 3, 1, 1, 1, 0, 7, 0, 0, 0, 0, 0, 0, 0, 9]
def oneG : List CapV := [⟨true, 1280, 1284, 1280, 5, 0⟩, ⟨true, 1536, 2048, 1536, 27, 0⟩, ⟨true, 17, 18, 17, 96, 0⟩, ⟨true, 2560, 2816, 2560, 1, 0⟩]
def oneP : List (CapV × CapV) := [(⟨true, 256, 264, 260, 5, 2⟩, ⟨true, 512, 768, 512, 27, 2⟩)]
theorem one_right : z2 oneI = true := by kernel_rfl
theorem one_put : putS oneI = oneB := by kernel_rfl
theorem one_get : getI oneB = (oneI, 0) := by kernel_rfl
theorem bad_get : getI badB = (ya, 151) := by kernel_rfl
theorem nil_get : getI [] = (ya, 1) := by kernel_rfl
theorem one_pages : z5 oneI + 1 = 11 := by kernel_rfl
theorem one_grants : zr oneI 1 = oneG := by kernel_rfl
theorem one_pairs : zc oneI 1 = oneP := by kernel_rfl
theorem no_right : z2 ya = false := by kernel_rfl
/-! ### An image's answers do not depend on where it stands -/
theorem flatMap_canon {β : Type} (l : List CompV) (f : CompV → List β) (h : ∀ c, f c.canon = f c) : (l.map CompV.canon).flatMap f = l.flatMap f := by
  induction l with
  | nil => rfl
  | cons c l ih => simp [h, ih]
theorem take_canon (m : ImageV) (k : Nat) : m.canon.comps.take k = (m.comps.take k).map CompV.canon := by simp [ImageV.canon, List.map_take]
theorem putS_canon (m : ImageV) : putS m.canon = putS m := by
  have hl : m.canon.comps.length = m.comps.length := by simp [ImageV.canon]
  have h0 : je m.canon = je m := by unfold je; rw [hl]; rfl
  have h1 : ∀ k, put1 m.canon k = put1 m k := fun k => by unfold put1; rw [h0, take_canon, flatMap_canon _ _ fun _ => rfl]
  have h2 : ∀ k, put2 m.canon k = put2 m k := fun k => by unfold put2; rw [h1, hl]; rfl
  have h3 : ∀ k, put3 m.canon k = put3 m k := fun k => by unfold put3; rw [h2]; rfl
  have h4 : ∀ k, put4 m.canon k = put4 m k := fun k => by unfold put4; rw [h3, take_canon, flatMap_canon _ _ fun _ => rfl]; rfl
  unfold putS
  rw [x3, h4, hl]
theorem pgs_canon (h : Int) : ∀ (l : List CompV) (p : Int), pgs h p (l.map CompV.canon) = pgs h p l
  | [], _ => rfl
  | _ :: l, _ => pgs_canon h l _
theorem pgAt_canon (m : ImageV) (k : Nat) : pgAt m.canon k = pgAt m k := by unfold pgAt; rw [take_canon]; exact pgs_canon _ _ _
theorem compAt_canon (m : ImageV) (k : Nat) : jd m.canon k = (jd m k).canon := by
  unfold jd
  have : m.canon.comps[k]? = (m.comps[k]?).map CompV.canon := by simp [ImageV.canon]
  rw [this]; cases m.comps[k]? <;> rfl
theorem codeAt_canon (m : ImageV) (k : Nat) : qr m.canon k = qr m k := by unfold qr; rw [pgAt_canon, compAt_canon]; rfl
theorem dataAt_canon (m : ImageV) (k : Nat) : qv m.canon k = qv m k := by unfold qv; rw [pgAt_canon, compAt_canon]; rfl
theorem pgEnd_canon (m : ImageV) : z5 m.canon = z5 m := by unfold z5; rw [pgAt_canon]; simp [ImageV.canon]
theorem shAt_canon (m : ImageV) (k : Nat) : shAt m.canon k = shAt m k := by unfold shAt; rw [pgEnd_canon]
theorem grantsS_canon (m : ImageV) (k : Int) : zr m.canon k = zr m k := by
  have h1 : ∀ n, grTo m.canon k n = grTo m k n := fun n => by
    unfold grTo
    have : grSh m.canon k = grSh m k := funext fun i => by unfold grSh; rw [shAt_canon]; rfl
    rw [codeAt_canon, dataAt_canon, this]
  have hl : m.canon.comps.length = m.comps.length := by simp [ImageV.canon]
  unfold zr
  rw [x3, hl, h1]; rfl
theorem pairsS_canon (m : ImageV) (k : Int) : zc m.canon k = zc m k := by
  have h1 : prL m.canon k = prL m k := funext fun l => by unfold prL pairOf; rw [codeAt_canon, dataAt_canon]
  unfold zc
  rw [x3]
  unfold prTo
  rw [h1]; rfl
/-- What comes in. -/
structure ImgI (m : ImageV) : Prop where
  cl : m.comps.length ≤ 200000000000000
  ll : m.links.length ≤ 200000000000000
  sl : m.shares.length ≤ 200000000000000
  cc : m.comps.length ≤ m.ccap
  lc : m.links.length ≤ m.lcap
  sc : m.shares.length ≤ m.scap
  cn : m.ca = none → m.ccap = 0
  ln : m.la = none → m.lcap = 0
  sn : m.sa = none → m.scap = 0
  co : ∀ c ∈ m.comps, c.code.length ≤ c.cap ∧ (c.a = none → c.cap = 0)
  wr : ∀ s ∈ m.shares, s.wr ≤ 9223372036854775807
end Go.Img
