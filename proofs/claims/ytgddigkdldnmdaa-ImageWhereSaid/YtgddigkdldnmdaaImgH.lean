/-
  Plain: where all of an image stands; grants; pairs.
-/
import Derived.Test.YtgddigkdldnmdaaImgG
import Derived.Test.YtgddigkdldnmdaaV9
namespace Go.Img
open Go Go.Vg
structure CapV where
  tag : Bool
  base : Int
  top : Int
  pos : Int
  perms : Int
  ty : Int
deriving DecidableEq
def z9 (c : CapV) : List Value := [.bool c.tag, .int .i64 c.base, .int .i64 c.top, .int .i64 c.pos, .int .i64 c.perms, .int .i64 c.ty]
def jt (p : CapV × CapV) : List Value := z9 p.1 ++ z9 p.2
def encR (p : Int × Int) : List Value := [.int .i64 p.1, .int .i64 p.2]
def zComp : CompV := ⟨none, 0, [], 0⟩
def jd (m : ImageV) (i : Nat) : CompV := (m.comps[i]?).getD zComp
def cpg (c : CompV) : Int := (((c.code.length + 256 : Nat) : Int) - 1) / 256
def pgs (h : Int) : Int → List CompV → Int
  | p, [] => p
  | p, c :: cs => pgs h (p + cpg c + c.data + h) cs
def pgAt (m : ImageV) (k : Nat) : Int := pgs m.heap 1 (m.comps.take k)
def qr (m : ImageV) (i : Nat) : Int × Int := (pgAt m i * 256, pgAt m i * 256 + (((jd m i).code.length : Nat) : Int))
def qv (m : ImageV) (i : Nat) : Int × Int := ((pgAt m i + cpg (jd m i)) * 256, (pgAt m i + cpg (jd m i) + (jd m i).data) * 256)
def heapAt (m : ImageV) (i : Nat) : Int × Int := ((pgAt m i + cpg (jd m i) + (jd m i).data) * 256, (pgAt m i + cpg (jd m i) + (jd m i).data + m.heap) * 256)
def z5 (m : ImageV) : Int := pgAt m m.comps.length
def shAt (m : ImageV) (i : Nat) : Int := (z5 m + ((i : Nat) : Int)) * 256
structure LayV where
  codes : List (Int × Int)
  datas : List (Int × Int)
  heaps : List (Int × Int)
  shs : List Int
  pages : Int
def ks (m : ImageV) (k : Nat) : List (Int × Int) := (List.range k).map (qr m)
def ku (m : ImageV) (k : Nat) : List (Int × Int) := (List.range k).map (qv m)
def kv (m : ImageV) (k : Nat) : List (Int × Int) := (List.range k).map (heapAt m)
def j3 (m : ImageV) (k : Nat) : List Int := (List.range k).map (shAt m)
def zg (m : ImageV) : LayV :=
  if z2 m then ⟨ks m m.comps.length, ku m m.comps.length, kv m m.comps.length, j3 m m.shares.length, z5 m + ((m.shares.length : Nat) : Int)⟩ else ⟨[], [], [], [], 0⟩
/-- Where a layout's slices stand. -/
structure LayA where
  a1 : Option Addr
  c1 : Nat
  a2 : Option Addr
  c2 : Nat
  a3 : Option Addr
  c3 : Nat
  a4 : Option Addr
  c4 : Nat
def layCells (A : LayA) (L : LayV) : List Value := [.slice A.a1 L.codes.length A.c1, .slice A.a2 L.datas.length A.c2, .slice A.a3 L.heaps.length A.c3, .slice A.a4 L.shs.length A.c4, .int .i64 L.pages]
def x2 (A : LayA) (L : LayV) : List Vg.Item := [arrI encR 2 A.a1 L.codes, arrI encR 2 A.a2 L.datas, arrI encR 2 A.a3 L.heaps, arrI encI 1 A.a4 L.shs]
structure LayB (A : LayA) (L : LayV) : Prop where
  l1 : L.codes.length ≤ A.c1
  l2 : L.datas.length ≤ A.c2
  l3 : L.heaps.length ≤ A.c3
  l4 : L.shs.length ≤ A.c4
  n1 : A.a1 = none → A.c1 = 0
  n2 : A.a2 = none → A.c2 = 0
  n3 : A.a3 = none → A.c3 = 0
  n4 : A.a4 = none → A.c4 = 0
theorem compAt_get {m : ImageV} {k : Nat} (h : k < m.comps.length) : jd m k = m.comps[k] := by unfold jd; rw [List.getElem?_eq_getElem h]; rfl
theorem pgs_snoc (h : Int) (c : CompV) : ∀ (l : List CompV) (p : Int), pgs h p (l ++ [c]) = pgs h p l + cpg c + c.data + h
  | [], p => rfl
  | x :: l, p => by rw [List.cons_append]; exact pgs_snoc h c l _
theorem pgAt_succ {m : ImageV} {k : Nat} (h : k < m.comps.length) : pgAt m (k + 1) = pgAt m k + cpg m.comps[k] + m.comps[k].data + m.heap := by
  unfold pgAt
  rw [List.take_succ_eq_append_getElem h, pgs_snoc]
theorem range_flat {α : Type} (enc : α → List Value) (g : Nat → α) (k : Nat) : ((List.range k).map g).flatMap enc ++ enc (g k) = ((List.range (k + 1)).map g).flatMap enc := by
  rw [List.range_succ, List.map_append, List.flatMap_append]; simp
theorem code_snoc {m : ImageV} {k : Nat} (h : k < m.comps.length) : (ks m k).flatMap encR ++ [.int .i64 (pgAt m k * 256), .int .i64 (pgAt m k * 256 + (((m.comps[k]).code.length : Nat) : Int))] = (ks m (k + 1)).flatMap encR := by
  have := range_flat encR (qr m) k
  unfold qr at this; rw [compAt_get h] at this; exact this
theorem data_snoc {m : ImageV} {k : Nat} (h : k < m.comps.length) : (ku m k).flatMap encR ++ [.int .i64 ((pgAt m k + cpg m.comps[k]) * 256), .int .i64 ((pgAt m k + cpg m.comps[k] + (m.comps[k]).data) * 256)] = (ku m (k + 1)).flatMap encR := by
  have := range_flat encR (qv m) k
  unfold qv at this; rw [compAt_get h] at this; exact this
theorem heap_snoc {m : ImageV} {k : Nat} (h : k < m.comps.length) : (kv m k).flatMap encR ++ [.int .i64 ((pgAt m k + cpg m.comps[k] + (m.comps[k]).data) * 256), .int .i64 ((pgAt m k + cpg m.comps[k] + (m.comps[k]).data + m.heap) * 256)] = (kv m (k + 1)).flatMap encR := by
  have := range_flat encR (heapAt m) k
  unfold heapAt at this; rw [compAt_get h] at this; exact this
theorem sh_snoc (m : ImageV) (k : Nat) : (j3 m k).flatMap encI ++ [.int .i64 ((z5 m + ((k : Nat) : Int)) * 256)] = (j3 m (k + 1)).flatMap encI := range_flat encI (shAt m) k
theorem codesTo_len (m : ImageV) (k : Nat) : (ks m k).length = k := by simp [ks]
theorem datasTo_len (m : ImageV) (k : Nat) : (ku m k).length = k := by simp [ku]
theorem heapsTo_len (m : ImageV) (k : Nat) : (kv m k).length = k := by simp [kv]
theorem shsTo_len (m : ImageV) (k : Nat) : (j3 m k).length = k := by simp [j3]
structure CompOk (c : CompV) : Prop where
  l4 : 4 ≤ c.code.length
  lm : c.code.length ≤ 4096
  l0 : c.code.length % 4 = 0
  d1 : 1 ≤ c.data
  d8 : c.data ≤ 8
  g1 : 1 ≤ cpg c
  g16 : cpg c ≤ 16
theorem compS_ok {c : CompV} (h : kf c = true) : CompOk c := by
  simp only [kf, Bool.and_eq_true, decide_eq_true_eq, jx] at h
  obtain ⟨h1, h2, h3⟩ := h
  exact ⟨by omega, by omega, by omega, h3.1, h3.2, by unfold cpg; omega, by unfold cpg; omega⟩
structure RightOk (m : ImageV) : Prop where
  h1 : 1 ≤ m.heap
  h64 : m.heap ≤ 64
  f1 : 1 ≤ m.full
  f2 : m.full ≤ 4096
  n1 : 1 ≤ m.comps.length
  n4 : m.comps.length ≤ 4
  l16 : m.links.length ≤ 16
  s4 : m.shares.length ≤ 4
  comp : ∀ c ∈ m.comps, CompOk c
  link : ∀ k ∈ m.links, km m k = true
  share : ∀ s ∈ m.shares, jm m s = true
theorem formS_ok {m : ImageV} (h : jo m = true) : RightOk m := by
  simp only [jo, form0S, Bool.and_eq_true, decide_eq_true_eq, jx, List.all_eq_true] at h
  obtain ⟨⟨⟨⟨h0, hc⟩, hl⟩, hm⟩, hs⟩ := h
  exact ⟨by omega, by omega, by omega, by omega, by omega, by omega, by omega, by omega, fun c hc' => compS_ok (hc c hc'), hl, hs⟩
theorem jy {m : ImageV} (h : z2 m = true) : RightOk m := formS_ok (by simp only [z2, Bool.and_eq_true] at h; exact h.1)
theorem pgAt_b {m : ImageV} (h : RightOk m) : ∀ k, k ≤ m.comps.length → 1 ≤ pgAt m k ∧ pgAt m k ≤ 1 + 88 * ((k : Nat) : Int)
  | 0, _ => by simp [pgAt, pgs]
  | k + 1, hk => by
    have := pgAt_b h k (by omega)
    have hc := h.comp _ (List.getElem_mem (by omega : k < m.comps.length))
    rw [pgAt_succ (by omega)]
    have := hc.g1; have := hc.g16; have := hc.d1; have := hc.d8; have := h.h1; have := h.h64
    omega
theorem pgEnd_b {m : ImageV} (h : RightOk m) : 1 ≤ z5 m ∧ z5 m ≤ 353 := by
  have := pgAt_b h m.comps.length (Nat.le_refl _); have := h.n4; unfold z5; omega
theorem linkS_ok {m : ImageV} {k : LinkV} (h : km m k = true) : 0 ≤ k.fr ∧ k.fr < m.comps.length ∧ 0 ≤ k.to ∧ k.to < m.comps.length ∧ k.fr ≠ k.to ∧ 0 ≤ k.ad ∧ k.ad ≤ codeLen m k.to / 4 - 1 := by
  simp only [km, Bool.and_eq_true, jx, Bool.not_eq_true', decide_eq_false_iff_not] at h
  omega
/-! ### Bits -/
def bitS (x : Int) (k : Int) : Int := x / 2 ^ k.toNat % 2
theorem and_one (x : Int) : jf .and .i64 x 1 = x % 2 := by
  have h2 : (BitVec.ofInt 64 x &&& BitVec.ofInt 64 1).toNat = (x % 2).toNat := by
    rw [BitVec.toNat_and]
    have e1 : (BitVec.ofInt 64 1).toNat = 1 := by decide
    rw [e1, Nat.and_one_is_mod]
    have e2 : (BitVec.ofInt 64 x).toNat = (x % 18446744073709551616).toNat := by
      rw [BitVec.toNat_ofInt]; rfl
    rw [e2]; omega
  have h3 : IntKind.i64.wrap (((BitVec.ofInt 64 x &&& BitVec.ofInt 64 1).toNat : Nat) : Int) = x % 2 := by
    rw [h2, wrap_i64 (by omega)]; omega
  exact h3
theorem shr_bit {x k : Int} (h : 0 ≤ k ∧ k ≤ 60) : x.fdiv (2 ^ (min k.toNat IntKind.i64.bits)) = x / 2 ^ k.toNat := by
  have e : min k.toNat IntKind.i64.bits = k.toNat := by
    have : IntKind.i64.bits = 64 := rfl
    rw [this]; omega
  rw [e, Int.fdiv_eq_ediv_of_nonneg _ (Int.le_of_lt (Int.pow_pos (by decide)))]
/-! ### Grants -/
def xk (r : Int × Int) (p : Int) : CapV := ⟨true, r.1, r.2, r.1, p, 0⟩
def shareAt (m : ImageV) (i : Nat) : ShareV := (m.shares[i]?).getD ⟨0, 0⟩
def j4 (s : ShareV) (k : Int) : Int := if bitS s.wr k = 1 then 3 else 1
def grSh (m : ImageV) (k : Int) (i : Nat) : List CapV := if bitS (shareAt m i).rd k = 1 then [xk (shAt m i, shAt m i + 256) (j4 (shareAt m i) k)] else []
def grTo (m : ImageV) (k : Int) (n : Nat) : List CapV := [xk (qr m k.toNat) 5, xk (qv m k.toNat) 27, xk (16 + k, 16 + k + 1) 96] ++ (List.range n).flatMap (grSh m k)
def zr (m : ImageV) (k : Int) : List CapV := if z2 m = true ∧ 0 ≤ k ∧ k < m.comps.length then grTo m k m.shares.length else []
theorem shareAt_get {m : ImageV} {k : Nat} (h : k < m.shares.length) : shareAt m k = m.shares[k] := by unfold shareAt; rw [List.getElem?_eq_getElem h]; rfl
theorem grTo_yes {m : ImageV} {k : Int} {i : Nat} (h : i < m.shares.length) (hb : bitS (m.shares[i]).rd k = 1) : grTo m k (i + 1) = grTo m k i ++ [xk (shAt m i, shAt m i + 256) (j4 (m.shares[i]) k)] := by
  have e : grSh m k i = [xk (shAt m i, shAt m i + 256) (j4 (m.shares[i]) k)] := by unfold grSh; rw [shareAt_get h, if_pos hb]
  unfold grTo
  rw [List.range_succ, List.flatMap_append, List.append_assoc]
  simp [e]
theorem grTo_no {m : ImageV} {k : Int} {i : Nat} (h : i < m.shares.length) (hb : ¬ bitS (m.shares[i]).rd k = 1) : grTo m k (i + 1) = grTo m k i := by
  have e : grSh m k i = [] := by unfold grSh; rw [shareAt_get h, if_neg hb]
  unfold grTo
  rw [List.range_succ, List.flatMap_append]
  simp [e]
theorem grTo_len (m : ImageV) (k : Int) : ∀ n, 3 ≤ (grTo m k n).length ∧ (grTo m k n).length ≤ 3 + n
  | 0 => by simp [grTo]
  | n + 1 => by
    have := grTo_len m k n
    have e : (grTo m k (n + 1)).length = (grTo m k n).length + (grSh m k n).length := by
      unfold grTo; rw [List.range_succ, List.flatMap_append]; simp; omega
    have : (grSh m k n).length ≤ 1 := by unfold grSh; split <;> simp
    omega
/-! ### Pairs -/
def pairOf (m : ImageV) (l : LinkV) : CapV × CapV :=
  ({ xk (qr m l.to.toNat) 5 with pos := (qr m l.to.toNat).1 + 4 * l.ad, ty := 2 + l.to }, { xk (qv m l.to.toNat) 27 with ty := 2 + l.to })
def prL (m : ImageV) (k : Int) (l : LinkV) : List (CapV × CapV) := if l.fr = k then [pairOf m l] else []
def prTo (m : ImageV) (k : Int) (n : Nat) : List (CapV × CapV) := (m.links.take n).flatMap (prL m k)
def zc (m : ImageV) (k : Int) : List (CapV × CapV) := if z2 m = true then prTo m k m.links.length else []
theorem prTo_yes {m : ImageV} {k : Int} {i : Nat} (h : i < m.links.length) (hb : (m.links[i]).fr = k) : prTo m k (i + 1) = prTo m k i ++ [pairOf m m.links[i]] := by
  unfold prTo
  rw [List.take_succ_eq_append_getElem h, List.flatMap_append]
  simp [prL, hb]
theorem prTo_no {m : ImageV} {k : Int} {i : Nat} (h : i < m.links.length) (hb : ¬ (m.links[i]).fr = k) : prTo m k (i + 1) = prTo m k i := by
  unfold prTo
  rw [List.take_succ_eq_append_getElem h, List.flatMap_append]
  simp [prL, hb]
theorem prTo_len (m : ImageV) (k : Int) (n : Nat) : (prTo m k n).length ≤ m.links.length := by
  have key : ∀ l : List LinkV, (l.flatMap (prL m k)).length ≤ l.length := by
    intro l
    induction l with
    | nil => simp
    | cons x l ih =>
      rw [List.flatMap_cons, List.length_append, List.length_cons]
      have : (prL m k x).length ≤ 1 := by unfold prL; split <;> simp
      omega
  exact Nat.le_trans (key _) (by rw [List.length_take]; omega)
end Go.Img
