/-
  Plain: what a right image is.
-/
import Derived.Test.YtgddigkdldnmdaaImgB
namespace Go.Img
open Go Go.Vg
structure ImgB (m : ImageV) : Prop where
  cl : m.comps.length ≤ 20000
  ll : m.links.length ≤ 20000
  sl : m.shares.length ≤ 20000
  cc : m.comps.length ≤ m.ccap
  lc : m.links.length ≤ m.lcap
  sc : m.shares.length ≤ m.scap
  cn : m.ca = none → m.ccap = 0
  ln : m.la = none → m.lcap = 0
  sn : m.sa = none → m.scap = 0
  co : ∀ c ∈ m.comps, c.code.length ≤ 20000 ∧ c.code.length ≤ c.cap ∧ (c.a = none → c.cap = 0)
/-- The codes of compartments. -/
def ko (l : List CompV) : Vg.Item :=
  ⟨fun b => ∃ c ∈ l, (arrI encB 1 c.a c.code).fp b, fun w => ∀ c ∈ l, (arrI encB 1 c.a c.code).φ w, fun w b h ⟨c, hc, hb⟩ => (arrI encB 1 c.a c.code).valid w b (h c hc) hb,
    fun w w' hb h c hc => (arrI encB 1 c.a c.code).stable w w' (fun b hfb => hb b ⟨c, hc, hfb⟩) (h c hc)⟩
def kh (m : ImageV) : List Vg.Item := [arrI zu 2 m.ca m.comps, arrI z1 3 m.la m.links, arrI zw 2 m.sa m.shares, ko m.comps]
def qn (m : ImageV) : List Value := [.bool m.strict, .int .i64 m.heap, .int .i64 m.full, .slice m.ca m.comps.length m.ccap, .slice m.la m.links.length m.lcap, .slice m.sa m.shares.length m.scap]

def xl (c : CompV) (strict : Bool) : Bool := decide ((allS c.code).2.2 = 0) && (!strict || !((allS c.code).1.any fun x => decide (x.op = 28)))
def codeLen (m : ImageV) (t : Int) : Int := match m.comps[t.toNat]? with | some c => ((c.code.length : Nat) : Int) | none => 0
def km (m : ImageV) (k : LinkV) : Bool :=
  (qd k.fr 0 (m.comps.length - 1) && (qd k.to 0 (m.comps.length - 1) && !decide (k.fr = k.to))) && qd k.ad 0 (codeLen m k.to / 4 - 1)
def jm (m : ImageV) (s : ShareV) : Bool := qd s.rd 0 (2 ^ m.comps.length - 1) && (decide (0 ≤ s.wr) && decide (jf .andNot .i64 s.wr s.rd = 0))
def cntL (ls : List LinkV) (i : Nat) : Nat := (ls.filter fun k => decide (k.fr = (i : Int))).length
def jr (ls : List LinkV) : Bool := (List.range 4).all fun i => decide (cntL ls i ≤ 8)
def form0S (m : ImageV) : Bool := qd m.heap 1 64 && (qd m.full 1 4096 && (qd m.comps.length 1 4 && (decide ((m.links.length : Int) ≤ 16) && decide ((m.shares.length : Int) ≤ 4))))
def jo (m : ImageV) : Bool := (((form0S m && m.comps.all kf) && m.links.all (km m)) && jr m.links) && m.shares.all (jm m)
def z2 (m : ImageV) : Bool := jo m && m.comps.all fun c => xl c m.strict

theorem codeLen_at {m : ImageV} {t : Int} (h0 : 0 ≤ t) (h : t < m.comps.length) : codeLen m t = (((m.comps[t.toNat]'(by omega)).code.length : Nat) : Int) := by
  unfold codeLen
  rw [List.getElem?_eq_getElem (by omega)]
theorem jx (n a b : Int) : qd n a b = true ↔ a ≤ n ∧ n ≤ b := by simp [qd]
theorem shl_small {n : Nat} (h : n ≤ 4) : IntKind.i64.wrap (1 * 2 ^ (min ((n : Nat) : Int).toNat 64)) = 2 ^ n := by
  have : n = 0 ∨ n = 1 ∨ n = 2 ∨ n = 3 ∨ n = 4 := by omega
  rcases this with rfl | rfl | rfl | rfl | rfl <;> rfl
theorem pow_small {n : Nat} (h : n ≤ 4) : (1 : Int) ≤ 2 ^ n ∧ (2 : Int) ^ n ≤ 16 := by
  have : n = 0 ∨ n = 1 ∨ n = 2 ∨ n = 3 ∨ n = 4 := by omega
  rcases this with rfl | rfl | rfl | rfl | rfl <;> decide
/-! ### How many links -/
def cntV (ls : List LinkV) : List Value := (List.range 4).map fun i => .int .i64 ((cntL ls i : Nat) : Int)
theorem cntV_get {ls : List LinkV} {t : Int} (h0 : 0 ≤ t) (h : t < 4) : (cntV ls)[0 + t.toNat * 1]? = some (.int .i64 ((cntL ls t.toNat : Nat) : Int)) := by
  have : t = 0 ∨ t = 1 ∨ t = 2 ∨ t = 3 := by omega
  rcases this with rfl | rfl | rfl | rfl <;> rfl
theorem cntL_le (ls : List LinkV) (i : Nat) : cntL ls i ≤ ls.length := List.length_filter_le _ _
theorem cntL_snoc (ls : List LinkV) (k : LinkV) (i : Nat) : cntL (ls ++ [k]) i = cntL ls i + (if k.fr = (i : Int) then 1 else 0) := by
  unfold cntL
  rw [List.filter_append, List.length_append]
  congr 1
  by_cases h : k.fr = (i : Int) <;> simp [h]
theorem cntV_set {ls : List LinkV} {k : LinkV} (h0 : 0 ≤ k.fr) (h : k.fr < 4) : (cntV ls).set (0 + k.fr.toNat * 1) (.int .i64 ((cntL ls k.fr.toNat : Nat) + 1 : Int)) = cntV (ls ++ [k]) := by
  have : k.fr = 0 ∨ k.fr = 1 ∨ k.fr = 2 ∨ k.fr = 3 := by omega
  unfold cntV
  simp only [cntL_snoc]
  rcases this with e | e | e | e <;> rw [e] <;> rfl
end Go.Img
