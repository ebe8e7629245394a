/-
  Plain: where all of an image stands; grants; pairs.
-/
import Derived.Test.YtgddigkdldnmdaaImgG
import Derived.Test.YtgddigkdldnmdaaV9
namespace Go.Img
open Go Go.Vg
structure CapV where
  tag : Bool
  base : Int
  top : Int
  pos : Int
  perms : Int
  ty : Int
deriving DecidableEq
def encCap (c : CapV) : List Value := [.bool c.tag, .int .i64 c.base, .int .i64 c.top, .int .i64 c.pos, .int .i64 c.perms, .int .i64 c.ty]
def encPair (p : CapV × CapV) : List Value := encCap p.1 ++ encCap p.2
def encR (p : Int × Int) : List Value := [.int .i64 p.1, .int .i64 p.2]
def zComp : CompV := ⟨none, 0, [], 0⟩
def compAt (m : ImageV) (i : Nat) : CompV := (m.comps[i]?).getD zComp
def cpg (c : CompV) : Int := (((c.code.length + 256 : Nat) : Int) - 1) / 256
def pgs (h : Int) : Int → List CompV → Int
  | p, [] => p
  | p, c :: cs => pgs h (p + cpg c + c.data + h) cs
def pgAt (m : ImageV) (k : Nat) : Int := pgs m.heap 1 (m.comps.take k)
def codeAt (m : ImageV) (i : Nat) : Int × Int := (pgAt m i * 256, pgAt m i * 256 + (((compAt m i).code.length : Nat) : Int))
def dataAt (m : ImageV) (i : Nat) : Int × Int := ((pgAt m i + cpg (compAt m i)) * 256, (pgAt m i + cpg (compAt m i) + (compAt m i).data) * 256)
def heapAt (m : ImageV) (i : Nat) : Int × Int := ((pgAt m i + cpg (compAt m i) + (compAt m i).data) * 256, (pgAt m i + cpg (compAt m i) + (compAt m i).data + m.heap) * 256)
def pgEnd (m : ImageV) : Int := pgAt m m.comps.length
def shAt (m : ImageV) (i : Nat) : Int := (pgEnd m + ((i : Nat) : Int)) * 256
structure LayV where
  codes : List (Int × Int)
  datas : List (Int × Int)
  heaps : List (Int × Int)
  shs : List Int
  pages : Int
def codesTo (m : ImageV) (k : Nat) : List (Int × Int) := (List.range k).map (codeAt m)
def datasTo (m : ImageV) (k : Nat) : List (Int × Int) := (List.range k).map (dataAt m)
def heapsTo (m : ImageV) (k : Nat) : List (Int × Int) := (List.range k).map (heapAt m)
def shsTo (m : ImageV) (k : Nat) : List Int := (List.range k).map (shAt m)
def whereS (m : ImageV) : LayV :=
  if rightS m then ⟨codesTo m m.comps.length, datasTo m m.comps.length, heapsTo m m.comps.length, shsTo m m.shares.length, pgEnd m + ((m.shares.length : Nat) : Int)⟩ else ⟨[], [], [], [], 0⟩
/-- Where a layout's slices stand. -/
structure LayA where
  a1 : Option Addr
  c1 : Nat
  a2 : Option Addr
  c2 : Nat
  a3 : Option Addr
  c3 : Nat
  a4 : Option Addr
  c4 : Nat
def layCells (A : LayA) (L : LayV) : List Value := [.slice A.a1 L.codes.length A.c1, .slice A.a2 L.datas.length A.c2, .slice A.a3 L.heaps.length A.c3, .slice A.a4 L.shs.length A.c4, .int .i64 L.pages]
def layIs (A : LayA) (L : LayV) : List Vg.Item := [arrI encR 2 A.a1 L.codes, arrI encR 2 A.a2 L.datas, arrI encR 2 A.a3 L.heaps, arrI encI 1 A.a4 L.shs]
structure LayB (A : LayA) (L : LayV) : Prop where
  l1 : L.codes.length ≤ A.c1
  l2 : L.datas.length ≤ A.c2
  l3 : L.heaps.length ≤ A.c3
  l4 : L.shs.length ≤ A.c4
  n1 : A.a1 = none → A.c1 = 0
  n2 : A.a2 = none → A.c2 = 0
  n3 : A.a3 = none → A.c3 = 0
  n4 : A.a4 = none → A.c4 = 0
theorem compAt_get {m : ImageV} {k : Nat} (h : k < m.comps.length) : compAt m k = m.comps[k] := by unfold compAt; rw [List.getElem?_eq_getElem h]; rfl
theorem pgs_snoc (h : Int) (c : CompV) : ∀ (l : List CompV) (p : Int), pgs h p (l ++ [c]) = pgs h p l + cpg c + c.data + h
  | [], p => rfl
  | x :: l, p => by rw [List.cons_append]; exact pgs_snoc h c l _
theorem pgAt_succ {m : ImageV} {k : Nat} (h : k < m.comps.length) : pgAt m (k + 1) = pgAt m k + cpg m.comps[k] + m.comps[k].data + m.heap := by
  unfold pgAt
  rw [List.take_succ_eq_append_getElem h, pgs_snoc]
theorem range_flat {α : Type} (enc : α → List Value) (g : Nat → α) (k : Nat) : ((List.range k).map g).flatMap enc ++ enc (g k) = ((List.range (k + 1)).map g).flatMap enc := by
  rw [List.range_succ, List.map_append, List.flatMap_append]; simp
theorem code_snoc {m : ImageV} {k : Nat} (h : k < m.comps.length) : (codesTo m k).flatMap encR ++ [.int .i64 (pgAt m k * 256), .int .i64 (pgAt m k * 256 + (((m.comps[k]).code.length : Nat) : Int))] = (codesTo m (k + 1)).flatMap encR := by
  have := range_flat encR (codeAt m) k
  unfold codeAt at this; rw [compAt_get h] at this; exact this
theorem data_snoc {m : ImageV} {k : Nat} (h : k < m.comps.length) : (datasTo m k).flatMap encR ++ [.int .i64 ((pgAt m k + cpg m.comps[k]) * 256), .int .i64 ((pgAt m k + cpg m.comps[k] + (m.comps[k]).data) * 256)] = (datasTo m (k + 1)).flatMap encR := by
  have := range_flat encR (dataAt m) k
  unfold dataAt at this; rw [compAt_get h] at this; exact this
theorem heap_snoc {m : ImageV} {k : Nat} (h : k < m.comps.length) : (heapsTo m k).flatMap encR ++ [.int .i64 ((pgAt m k + cpg m.comps[k] + (m.comps[k]).data) * 256), .int .i64 ((pgAt m k + cpg m.comps[k] + (m.comps[k]).data + m.heap) * 256)] = (heapsTo m (k + 1)).flatMap encR := by
  have := range_flat encR (heapAt m) k
  unfold heapAt at this; rw [compAt_get h] at this; exact this
theorem sh_snoc (m : ImageV) (k : Nat) : (shsTo m k).flatMap encI ++ [.int .i64 ((pgEnd m + ((k : Nat) : Int)) * 256)] = (shsTo m (k + 1)).flatMap encI := range_flat encI (shAt m) k
theorem codesTo_len (m : ImageV) (k : Nat) : (codesTo m k).length = k := by simp [codesTo]
theorem datasTo_len (m : ImageV) (k : Nat) : (datasTo m k).length = k := by simp [datasTo]
theorem heapsTo_len (m : ImageV) (k : Nat) : (heapsTo m k).length = k := by simp [heapsTo]
theorem shsTo_len (m : ImageV) (k : Nat) : (shsTo m k).length = k := by simp [shsTo]
structure CompOk (c : CompV) : Prop where
  l4 : 4 ≤ c.code.length
  lm : c.code.length ≤ 4096
  l0 : c.code.length % 4 = 0
  d1 : 1 ≤ c.data
  d8 : c.data ≤ 8
  g1 : 1 ≤ cpg c
  g16 : cpg c ≤ 16
theorem compS_ok {c : CompV} (h : compS c = true) : CompOk c := by
  simp only [compS, Bool.and_eq_true, decide_eq_true_eq, withinS_iff] at h
  obtain ⟨h1, h2, h3⟩ := h
  exact ⟨by omega, by omega, by omega, h3.1, h3.2, by unfold cpg; omega, by unfold cpg; omega⟩
structure RightOk (m : ImageV) : Prop where
  h1 : 1 ≤ m.heap
  h64 : m.heap ≤ 64
  f1 : 1 ≤ m.full
  f2 : m.full ≤ 4096
  n1 : 1 ≤ m.comps.length
  n4 : m.comps.length ≤ 4
  l16 : m.links.length ≤ 16
  s4 : m.shares.length ≤ 4
  comp : ∀ c ∈ m.comps, CompOk c
  link : ∀ k ∈ m.links, linkS m k = true
  share : ∀ s ∈ m.shares, shareS m s = true
theorem formS_ok {m : ImageV} (h : formS m = true) : RightOk m := by
  simp only [formS, form0S, Bool.and_eq_true, decide_eq_true_eq, withinS_iff, List.all_eq_true] at h
  obtain ⟨⟨⟨⟨h0, hc⟩, hl⟩, hm⟩, hs⟩ := h
  exact ⟨by omega, by omega, by omega, by omega, by omega, by omega, by omega, by omega, fun c hc' => compS_ok (hc c hc'), hl, hs⟩
theorem rightS_ok {m : ImageV} (h : rightS m = true) : RightOk m := formS_ok (by simp only [rightS, Bool.and_eq_true] at h; exact h.1)
theorem pgAt_b {m : ImageV} (h : RightOk m) : ∀ k, k ≤ m.comps.length → 1 ≤ pgAt m k ∧ pgAt m k ≤ 1 + 88 * ((k : Nat) : Int)
  | 0, _ => by simp [pgAt, pgs]
  | k + 1, hk => by
    have := pgAt_b h k (by omega)
    have hc := h.comp _ (List.getElem_mem (by omega : k < m.comps.length))
    rw [pgAt_succ (by omega)]
    have := hc.g1; have := hc.g16; have := hc.d1; have := hc.d8; have := h.h1; have := h.h64
    omega
theorem pgEnd_b {m : ImageV} (h : RightOk m) : 1 ≤ pgEnd m ∧ pgEnd m ≤ 353 := by
  have := pgAt_b h m.comps.length (Nat.le_refl _); have := h.n4; unfold pgEnd; omega
theorem linkS_ok {m : ImageV} {k : LinkV} (h : linkS m k = true) : 0 ≤ k.fr ∧ k.fr < m.comps.length ∧ 0 ≤ k.to ∧ k.to < m.comps.length ∧ k.fr ≠ k.to ∧ 0 ≤ k.ad ∧ k.ad ≤ codeLen m k.to / 4 - 1 := by
  simp only [linkS, Bool.and_eq_true, withinS_iff, Bool.not_eq_true', decide_eq_false_iff_not] at h
  omega
/-! ### Bits -/
def bitS (x : Int) (k : Int) : Int := x / 2 ^ k.toNat % 2
theorem and_one (x : Int) : bitsI .and .i64 x 1 = x % 2 := by
  have h2 : (BitVec.ofInt 64 x &&& BitVec.ofInt 64 1).toNat = (x % 2).toNat := by
    rw [BitVec.toNat_and]
    have e1 : (BitVec.ofInt 64 1).toNat = 1 := by decide
    rw [e1, Nat.and_one_is_mod]
    have e2 : (BitVec.ofInt 64 x).toNat = (x % 18446744073709551616).toNat := by
      rw [BitVec.toNat_ofInt]; rfl
    rw [e2]; omega
  have h3 : IntKind.i64.wrap (((BitVec.ofInt 64 x &&& BitVec.ofInt 64 1).toNat : Nat) : Int) = x % 2 := by
    rw [h2, wrap_i64 (by omega)]; omega
  exact h3
theorem shr_bit {x k : Int} (h : 0 ≤ k ∧ k ≤ 60) : x.fdiv (2 ^ (min k.toNat IntKind.i64.bits)) = x / 2 ^ k.toNat := by
  have e : min k.toNat IntKind.i64.bits = k.toNat := by
    have : IntKind.i64.bits = 64 := rfl
    rw [this]; omega
  rw [e, Int.fdiv_eq_ediv_of_nonneg _ (Int.le_of_lt (Int.pow_pos (by decide)))]
/-! ### Grants -/
def grantV (r : Int × Int) (p : Int) : CapV := ⟨true, r.1, r.2, r.1, p, 0⟩
def shareAt (m : ImageV) (i : Nat) : ShareV := (m.shares[i]?).getD ⟨0, 0⟩
def shPerm (s : ShareV) (k : Int) : Int := if bitS s.wr k = 1 then 3 else 1
def grSh (m : ImageV) (k : Int) (i : Nat) : List CapV := if bitS (shareAt m i).rd k = 1 then [grantV (shAt m i, shAt m i + 256) (shPerm (shareAt m i) k)] else []
def grTo (m : ImageV) (k : Int) (n : Nat) : List CapV := [grantV (codeAt m k.toNat) 5, grantV (dataAt m k.toNat) 27, grantV (16 + k, 16 + k + 1) 96] ++ (List.range n).flatMap (grSh m k)
def grantsS (m : ImageV) (k : Int) : List CapV := if rightS m = true ∧ 0 ≤ k ∧ k < m.comps.length then grTo m k m.shares.length else []
theorem shareAt_get {m : ImageV} {k : Nat} (h : k < m.shares.length) : shareAt m k = m.shares[k] := by unfold shareAt; rw [List.getElem?_eq_getElem h]; rfl
theorem grTo_yes {m : ImageV} {k : Int} {i : Nat} (h : i < m.shares.length) (hb : bitS (m.shares[i]).rd k = 1) : grTo m k (i + 1) = grTo m k i ++ [grantV (shAt m i, shAt m i + 256) (shPerm (m.shares[i]) k)] := by
  have e : grSh m k i = [grantV (shAt m i, shAt m i + 256) (shPerm (m.shares[i]) k)] := by unfold grSh; rw [shareAt_get h, if_pos hb]
  unfold grTo
  rw [List.range_succ, List.flatMap_append, List.append_assoc]
  simp [e]
theorem grTo_no {m : ImageV} {k : Int} {i : Nat} (h : i < m.shares.length) (hb : ¬ bitS (m.shares[i]).rd k = 1) : grTo m k (i + 1) = grTo m k i := by
  have e : grSh m k i = [] := by unfold grSh; rw [shareAt_get h, if_neg hb]
  unfold grTo
  rw [List.range_succ, List.flatMap_append]
  simp [e]
theorem grTo_len (m : ImageV) (k : Int) : ∀ n, 3 ≤ (grTo m k n).length ∧ (grTo m k n).length ≤ 3 + n
  | 0 => by simp [grTo]
  | n + 1 => by
    have := grTo_len m k n
    have e : (grTo m k (n + 1)).length = (grTo m k n).length + (grSh m k n).length := by
      unfold grTo; rw [List.range_succ, List.flatMap_append]; simp; omega
    have : (grSh m k n).length ≤ 1 := by unfold grSh; split <;> simp
    omega
/-! ### Pairs -/
def pairOf (m : ImageV) (l : LinkV) : CapV × CapV :=
  ({ grantV (codeAt m l.to.toNat) 5 with pos := (codeAt m l.to.toNat).1 + 4 * l.ad, ty := 2 + l.to }, { grantV (dataAt m l.to.toNat) 27 with ty := 2 + l.to })
def prL (m : ImageV) (k : Int) (l : LinkV) : List (CapV × CapV) := if l.fr = k then [pairOf m l] else []
def prTo (m : ImageV) (k : Int) (n : Nat) : List (CapV × CapV) := (m.links.take n).flatMap (prL m k)
def pairsS (m : ImageV) (k : Int) : List (CapV × CapV) := if rightS m = true then prTo m k m.links.length else []
theorem prTo_yes {m : ImageV} {k : Int} {i : Nat} (h : i < m.links.length) (hb : (m.links[i]).fr = k) : prTo m k (i + 1) = prTo m k i ++ [pairOf m m.links[i]] := by
  unfold prTo
  rw [List.take_succ_eq_append_getElem h, List.flatMap_append]
  simp [prL, hb]
theorem prTo_no {m : ImageV} {k : Int} {i : Nat} (h : i < m.links.length) (hb : ¬ (m.links[i]).fr = k) : prTo m k (i + 1) = prTo m k i := by
  unfold prTo
  rw [List.take_succ_eq_append_getElem h, List.flatMap_append]
  simp [prL, hb]
theorem prTo_len (m : ImageV) (k : Int) (n : Nat) : (prTo m k n).length ≤ m.links.length := by
  have key : ∀ l : List LinkV, (l.flatMap (prL m k)).length ≤ l.length := by
    intro l
    induction l with
    | nil => simp
    | cons x l ih =>
      rw [List.flatMap_cons, List.length_append, List.length_cons]
      have : (prL m k x).length ≤ 1 := by unfold prL; split <;> simp
      omega
  exact Nat.le_trans (key _) (by rw [List.length_take]; omega)
end Go.Img
