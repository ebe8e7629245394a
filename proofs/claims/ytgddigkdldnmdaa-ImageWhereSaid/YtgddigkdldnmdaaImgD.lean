/-
  Plain: an image's bytes.
-/
import Derived.Test.YtgddigkdldnmdaaImgC
namespace Go.Img
open Go Go.Vg
def zh (n : Int) : UInt8 := UInt8.ofNat (n % 256).toNat
theorem byteV_toNat (n : Int) : ((zh n).toNat : Int) = n % 256 := by
  unfold zh
  simp only [UInt8.toNat_ofNat']
  omega
theorem xm (n : Int) : IntKind.u8.wrap n = ((zh n).toNat : Int) := by
  rw [byteV_toNat]
  simp [IntKind.wrap, IntKind.bits, IntKind.signed]
def twoB (n : Int) : List UInt8 := [zh (n / 256), zh n]
structure SlV where
  a : Option Addr
  cap : Nat
  l : List UInt8
def encSl (s : SlV) : List Value := [.slice s.a s.l.length s.cap]
def catB (ls : List SlV) : List UInt8 := ls.flatMap (·.l)
theorem xr {ls : List SlV} {k : Nat} (h : k < ls.length) : catB (ls.take (k + 1)) = catB (ls.take k) ++ ls[k].l := by
  unfold catB
  rw [List.take_succ_eq_append_getElem h, List.flatMap_append]; simp
theorem catB_len_le (ls : List SlV) (k : Nat) : (catB (ls.take k)).length ≤ (catB ls).length := by
  have : catB ls = catB (ls.take k) ++ catB (ls.drop k) := by unfold catB; rw [← List.flatMap_append, List.take_append_drop]
  rw [this, List.length_append]; omega
/-- What slices of bytes hold. -/
def slI (ls : List SlV) : Vg.Item :=
  ⟨fun b => ∃ s ∈ ls, (arrI encB 1 s.a s.l).fp b, fun w => ∀ s ∈ ls, (arrI encB 1 s.a s.l).φ w, fun w b h ⟨c, hc, hb⟩ => (arrI encB 1 c.a c.l).valid w b (h c hc) hb,
    fun w w' hb h c hc => (arrI encB 1 c.a c.l).stable w w' (fun b hfb => hb b ⟨c, hc, hfb⟩) (h c hc)⟩
def strictN (m : ImageV) : Int := if m.strict then 1 else 0
def jn (m : ImageV) : UInt8 := if m.strict then 1 else 0
def je (m : ImageV) : List UInt8 := [83, 90] ++ ([jn m, zh m.heap] ++ (twoB m.full ++ [zh m.comps.length, zh m.links.length, zh m.shares.length]))
def putComp (c : CompV) : List UInt8 := twoB c.code.length ++ [zh c.data]
def yq (l : LinkV) : List UInt8 := [zh l.fr, zh l.to] ++ twoB l.ad
def xu (s : ShareV) : List UInt8 := [zh s.rd, zh s.wr]
def put1 (m : ImageV) (k : Nat) : List UInt8 := je m ++ (m.comps.take k).flatMap putComp
def put2 (m : ImageV) (k : Nat) : List UInt8 := put1 m m.comps.length ++ (m.links.take k).flatMap yq
def put3 (m : ImageV) (k : Nat) : List UInt8 := put2 m m.links.length ++ (m.shares.take k).flatMap xu
def put4 (m : ImageV) (k : Nat) : List UInt8 := put3 m m.shares.length ++ (m.comps.take k).flatMap (·.code)
def putS (m : ImageV) : List UInt8 := if z2 m then put4 m m.comps.length else []
theorem yf {α β : Type} (f : α → List β) (X : List β) {l : List α} {k : Nat} (h : k < l.length) : X ++ (l.take (k + 1)).flatMap f = (X ++ (l.take k).flatMap f) ++ f l[k] := by
  rw [List.take_succ_eq_append_getElem h, List.flatMap_append, ← List.append_assoc]; simp
theorem flat_app (X Y : List UInt8) : X.flatMap encB ++ Y.flatMap encB = (X ++ Y).flatMap encB := List.flatMap_append.symm
theorem xw {α β : Type} {f : α → List β} {c : Nat} (h : ∀ x, (f x).length = c) (l : List α) : (l.flatMap f).length = l.length * c := by
  induction l with
  | nil => simp
  | cons x l ih => rw [List.flatMap_cons, List.length_append, ih, h, List.length_cons, Nat.succ_mul, Nat.add_comm]
theorem put1_len (m : ImageV) (k : Nat) : (put1 m k).length ≤ 9 + m.comps.length * 3 := by
  unfold put1
  rw [List.length_append, xw (c := 3) (fun x => rfl), List.length_take]
  have : (je m).length = 9 := rfl
  rw [this]
  have := Nat.mul_le_mul_right 3 (Nat.min_le_right k m.comps.length)
  omega
theorem put2_len (m : ImageV) (k : Nat) : (put2 m k).length ≤ 9 + m.comps.length * 3 + m.links.length * 4 := by
  unfold put2
  rw [List.length_append, xw (c := 4) (fun x => rfl), List.length_take]
  have := put1_len m m.comps.length
  have := Nat.mul_le_mul_right 4 (Nat.min_le_right k m.links.length)
  omega
theorem put3_len (m : ImageV) (k : Nat) : (put3 m k).length ≤ 9 + m.comps.length * 3 + m.links.length * 4 + m.shares.length * 2 := by
  unfold put3
  rw [List.length_append, xw (c := 2) (fun x => rfl), List.length_take]
  have := put2_len m m.links.length
  have := Nat.mul_le_mul_right 2 (Nat.min_le_right k m.shares.length)
  omega
theorem codes_len {l : List CompV} {c : Nat} (h : ∀ x ∈ l, x.code.length ≤ c) : (l.flatMap (·.code)).length ≤ l.length * c := by
  induction l with
  | nil => simp
  | cons x l ih =>
    rw [List.flatMap_cons, List.length_append, List.length_cons, Nat.succ_mul]
    have := h x (by simp)
    have := ih fun y hy => h y (by simp [hy])
    omega
theorem put4_len {m : ImageV} {c : Nat} (h : ∀ x ∈ m.comps, x.code.length ≤ c) (k : Nat) : (put4 m k).length ≤ 9 + m.comps.length * 3 + m.links.length * 4 + m.shares.length * 2 + m.comps.length * c := by
  unfold put4
  rw [List.length_append]
  have := codes_len (l := m.comps.take k) (c := c) fun x hx => h x (List.mem_of_mem_take hx)
  rw [List.length_take] at this
  have := put3_len m m.shares.length
  have := Nat.mul_le_mul_right c (Nat.min_le_right k m.comps.length)
  omega
theorem strictB_nat (m : ImageV) : ((jn m).toNat : Int) = strictN m := by unfold jn strictN; split <;> rfl
theorem rightS_small {m : ImageV} (h : z2 m = true) : 1 ≤ m.comps.length ∧ m.comps.length ≤ 4 ∧ m.links.length ≤ 16 ∧ m.shares.length ≤ 4 := by
  simp only [z2, jo, form0S, Bool.and_eq_true, decide_eq_true_eq] at h
  have := (jx _ _ _).1 h.1.1.1.1.1.2.2.1
  omega
end Go.Img
