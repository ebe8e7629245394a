/-
  Vg 11: operations whose guard is known.
-/
import Derived.Test.YtgddigkdldnmdaaV10
namespace Go.Vg
open Go
section
variable {r : Option Nat} {N : List Deferred} {P : Program} {n : Nat} {f : Fr} {w : World} {K : Fr → World → Prop} {Q : Post} {ops : Array Oper}
theorem og_yes {o : Oper} {j : Nat} {b : Bool} (hg : o.guard = some (j, b)) (hy : yl ops f j = .bool b) (h : O r N P o n f w K Q) : OG r N P ops o n f w K Q :=
  ze hg hy (fun _ => h) (fun e => by cases b <;> cases e)
theorem C.vt {g : FuncId} {args : List Value} {w : World} {p : Prop} (h : C P g args w fun v w' => (∃ b, v = .bool b ∧ (b = true ↔ p)) ∧ Grow w w') (hp : p) : C P g args w fun v w' => v = .bool true ∧ Grow w w' :=
  C.mono h fun v w' ⟨⟨b, e, hb⟩, hk⟩ => ⟨by rw [e, hb.2 hp], hk⟩
end
end Go.Vg
