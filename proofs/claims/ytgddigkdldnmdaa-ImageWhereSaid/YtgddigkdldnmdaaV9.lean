/-
  Vg 9: slices written out, in a lighter form.
-/
import Derived.Test.YtgddigkdldnmdaaV8
namespace Go.Vg
open Go
section
variable {r : Option Nat} {N : List Deferred} {P : Program} {n : Nat} {f : Fr} {w w0 : World}  {S : Nat → Prop} {M R : List Item} {K : Fr → World → Prop} {Q : Post} {d : Nat} {ty : TypeId} {pos : String} {af : Array Edge} {g : Option (Nat × Bool)}
theorem repl_get (zl : List Value) {m : Nat} (hm : zl.length = m) : ∀ (len i : Nat), i < len * m → (List.replicate len zl).flatten[i]? = zl[i % m]?
  | 0, i, h => by simp at h
  | len + 1, i, h => by
    rw [List.replicate_succ, List.flatten_cons, List.getElem?_append]
    by_cases hi : i < m
    · rw [if_pos (by omega), Nat.mod_eq_of_lt hi]
    · rw [if_neg (by omega), hm, repl_get zl hm len (i - m) (by rw [Nat.succ_mul] at h; omega), ← Nat.mod_eq_sub_mod (by omega)]
theorem zs_repl (zl : List Value) (len : Nat) {m : Nat} (hm : zl.length = m) :
    (List.range (len * m)).map (fun i => (if len * m = 0 then #[] else zl.toArray)[i % (if len * m = 0 then #[] else zl.toArray).size]!) = (List.replicate len zl).flatten := by
  apply List.ext_getElem?
  intro i
  by_cases h : i < len * m
  · have h0 : len * m ≠ 0 := by omega
    have hm0 : 0 < m := by
      rcases Nat.eq_zero_or_pos m with e | e
      · subst e; simp at h
      · exact e
    have hmod : i % m < zl.length := by rw [hm]; exact Nat.mod_lt _ hm0
    rw [repl_get zl hm len i h, List.getElem?_map, List.getElem?_range h]
    simp only [if_neg h0, Option.map_some, List.size_toArray, hm]
    rw [List.getElem?_eq_getElem hmod]
    congr 1
    rw [getElem!_pos zl.toArray (i % m) (by simpa using hmod)]
    simp
  · rw [List.getElem?_eq_none (by simp; omega), List.getElem?_eq_none]
    rw [List.length_flatten]
    simp [hm]; omega
theorem O_buildSliceR {T e : TypeId} {m len : Nat} {parts : Array (Nat × Operand)} {z : Value} {zl zs cs : List Value} {ps : List (Nat × List Value)} (qk : St w0 S w M R) (hT : Un P T (.slice e)) (hS : Sz P e m) (hz : Zv P e z) (hm : Nat.ble (len * m) 16777216 = true)
    (hzl : z.cells = zl.toArray) (hll : zl.length = m) (hzs : (List.replicate len zl).flatten = zs)
    (hp : parts.toList.map (fun p => (p.1, (ev f p.2).cells.toList)) = ps) (hf : fillL (fun i => some (i * m, m)) zs ps = some cs) (hd : Nat.blt d n = true)
    (h : ∀ b w', w.heap.size ≤ b → St w0 S w' (blk b cs e :: M) R → K (upd f d (.slice (some ⟨b, 0, none⟩) len len)) w') : O r N P ⟨some d, .buildSlice T len parts, ty, pos, af, g⟩ n f w K Q :=
  zz qk hT hS hz hm (by rw [hzl, zs_repl zl len hll, hzs]) hp hf hd h
end
end Go.Vg
