/-
  Plain: a code's instructions.
-/
import Derived.Test.YtgddigkdldnmdaaImg
import Derived.Test.YtgddigkdldnmdaaV7
namespace Go.Img
open Go Go.Vg
def kz (len k : Nat) : Nat := if len - 4 * k < 4 then len - 4 * k else 4
def kg (l : List UInt8) (k : Nat) : List UInt8 := (l.drop (4 * k)).take (kz l.length k)
theorem chunkN_le (len k : Nat) : kz len k ≤ len - 4 * k ∧ kz len k ≤ 4 ∧ (4 * k < len → 0 < kz len k) := by unfold kz; split <;> omega
theorem yj (l : List UInt8) (k : Nat) : (kg l k).length = kz l.length k := by
  have := chunkN_le l.length k
  simp only [kg, List.length_take, List.length_drop]
  omega
theorem chunk_min {len k : Nat} (h : 4 * k < len) : (if (((len - 4 * k : Nat) : Int)) < 4 then (((len - 4 * k : Nat) : Int)) else 4) = ((kz len k : Nat) : Int) := by
  unfold kz
  split <;> split <;> omega
def k9 (l : List UInt8) (k : Nat) : InsV := (getS (kg l k)).1
def j7 (l : List UInt8) (k : Nat) : Int := (getS (kg l k)).2
def nch (n : Nat) : Nat := (n + 3) / 4
/-- code.All -/
def allS (l : List UInt8) : List InsV × Int × Int :=
  match (List.range (nch l.length)).find? (fun i => decide (j7 l i ≠ 0)) with
  | some i => ([], ((4 * i : Nat) : Int), j7 l i)
  | none => ((List.range (nch l.length)).map (k9 l), ((4 * nch l.length : Nat) : Int), 0)
theorem find_range {p : Nat → Bool} {n k : Nat} (hk : k < n) (h : ∀ i, i < k → p i = false) (hp : p k = true) : (List.range n).find? p = some k := by
  rw [List.find?_eq_some_iff_append]
  refine ⟨hp, List.range k, (List.range (n - k - 1)).map (· + (k + 1)), ?_, fun a ha => by simp [h a (by simpa using ha)]⟩
  apply List.ext_getElem
  · simp; omega
  · intro i h1 h2
    simp only [List.getElem_range, List.getElem_append, List.length_range, List.getElem_cons, List.getElem_map]
    split
    · rfl
    · split <;> omega
theorem allS_bad {l : List UInt8} {k : Nat} (h : ∀ i, i < k → j7 l i = 0) (hk : 4 * k < l.length) (hb : j7 l k ≠ 0) : allS l = ([], ((4 * k : Nat) : Int), j7 l k) := by
  unfold allS
  rw [find_range (k := k) (by unfold nch; omega) (fun i hi => by simp [h i hi]) (by simpa using hb)]
theorem allS_good {l : List UInt8} {k : Nat} (h : ∀ i, i < k → j7 l i = 0) (hk : l.length ≤ 4 * k) (hk' : 4 * k < l.length + 4) : allS l = ((List.range k).map (k9 l), ((4 * k : Nat) : Int), 0) := by
  have e : nch l.length = k := by unfold nch; omega
  unfold allS
  rw [e, List.find?_eq_none.2 (fun i hi => by simp [h i (by simpa using hi)])]
theorem bad_succ {l : List UInt8} {k : Nat} (h : ∀ i, i < k → j7 l i = 0) (hk : ¬ j7 l k ≠ 0) : ∀ i, i < k + 1 → j7 l i = 0 := by
  intro i hi
  rcases Nat.lt_succ_iff_lt_or_eq.1 hi with h' | rfl
  · exact h i h'
  · exact Decidable.not_not.1 hk
theorem ins_flat (l : List UInt8) (k : Nat) : ((List.range k).map (k9 l)).flatMap xi ++ xi (k9 l k) = ((List.range (k + 1)).map (k9 l)).flatMap xi := by
  rw [List.range_succ, List.map_append, List.flatMap_append]; simp
end Go.Img
