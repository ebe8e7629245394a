/-
  Vg 10: equality of structs and arrays.
-/
import Derived.Test.YtgddigkdldnmdaaV9
import Derived.Laws.StructEq
namespace Go.Vg
open Go
section
variable {P : Program} {d : Nat} {T : TypeId}
def EqV (P : Program) (d : Nat) (T : TypeId) (x y : Value) (b : Bool) : Prop := ∀ k w, (Op.equalIn (k + d) T x y).run P w = .ok b w
def EF (P : Program) (d : Nat) (xs ys : Array Value) (fs : List Field) (b : Bool) : Prop := ∀ k w, (Op.eqFields (k + d) xs ys fs).run P w = .ok b w
theorem EqV.int {k k' : IntKind} {a b : Int} (h : Un P T (.int k')) : EqV P (d + 1) T (.int k a) (.int k b) (decide (a = b)) := by
  intro j w
  rw [← Nat.add_assoc, run_equalIn_int w (j + d) T k k' a b h]
  refine congrArg (fun z => Result.ok z w) ?_
  rw [Bool.eq_iff_iff]; simp
theorem EqV.bool {a b : Bool} (h : Un P T .bool) : EqV P (d + 1) T (.bool a) (.bool b) (decide (a = b)) := by
  intro j w
  rw [← Nat.add_assoc, run_equalIn_bool' w (j + d) T a b h]
  cases a <;> cases b <;> rfl
theorem EqV.str {a b : ByteArray} (h : Un P T .string) : EqV P (d + 1) T (.string a) (.string b) (decide (a.toList = b.toList)) := by
  intro j w
  rw [← Nat.add_assoc, run_equalIn_string w (j + d) T a b h]
  refine congrArg (fun z => Result.ok z w) ?_
  rw [Bool.eq_iff_iff]; simp
theorem EqV.up {x y : Value} {b : Bool} (h : EqV P d T x y b) (n : Nat) : EqV P (d + n) T x y b := fun k w => by
  have e : k + (d + n) = (k + n) + d := by omega
  rw [e]; exact h (k + n) w
theorem EqV.to {x y : Value} {b b' : Bool} (h : EqV P d T x y b) (e : b = b') : EqV P d T x y b' := e ▸ h
theorem EF.nil {xs ys : Array Value} : EF P d xs ys [] true := fun k w => by simp [Op.eqFields]
theorem EF.cons {xs ys : Array Value} {f : Field} {fs : List Field} {a b : Value} {r rest : Bool} (hn : (f.name == "_") = false) (hA : Ag P f.type false) (ha : xs[f.offset]? = some a) (hb : ys[f.offset]? = some b) (he : EqV P d f.type a b r) (hr : EF P d xs ys fs rest) : EF P d xs ys (f :: fs) (r && rest) := by
  intro k w
  have hn' : f.name ≠ "_" := by simpa using hn
  simp only [Op.eqFields, if_pos hn', Sem.run_bind, run_part hA ha, run_part hA hb, Result.andThen_ok, he k w]
  cases r
  · simp
  · simp [hr k w]
theorem EF.consA {xs ys va vb' : Array Value} {f : Field} {fs : List Field} {m : Nat} {r rest : Bool} (hn : (f.name == "_") = false) (hA : Ag P f.type true) (hS : Sz P f.type m) (ha : xs.extract f.offset (f.offset + m) = va) (hb : ys.extract f.offset (f.offset + m) = vb') (he : EqV P d f.type (.agg va) (.agg vb') r) (hr : EF P d xs ys fs rest) : EF P d xs ys (f :: fs) (r && rest) := by
  intro k w
  have hn' : f.name ≠ "_" := by simpa using hn
  simp only [Op.eqFields, if_pos hn', Sem.run_bind, run_part_agg hA hS ha, run_part_agg hA hS hb, Result.andThen_ok, he k w]
  cases r
  · simp
  · simp [hr k w]
theorem EqV.struct {xs ys : Array Value} {fs : Array Field} {b : Bool} (ht : P.underlying T = some (.struct fs)) (hp : P.stoodInHeld T = false) (h : EF P d xs ys fs.toList b) : EqV P (d + 1) T (.agg xs) (.agg ys) b := by
  intro k w
  have e : P.fieldsOf T = fs := by unfold Program.fieldsOf; rw [ht]
  rw [← Nat.add_assoc, run_equalIn_struct w (k + d) T xs ys (by rw [e]; exact ht) hp, e]
  exact h k w
def eqElems (d : Nat) (e : TypeId) (n : Nat) (xs ys : Array Value) : List Nat → Sem Bool
  | [] => pure true
  | i :: is => do
    let a ← part e xs (i * n)
    let b ← part e ys (i * n)
    let r ← Op.equalIn d e a b
    if (!r) = true then pure false else eqElems d e n xs ys is
def EE (P : Program) (d : Nat) (e : TypeId) (n : Nat) (xs ys : Array Value) (is : List Nat) (b : Bool) : Prop := ∀ k w, (eqElems (k + d) e n xs ys is).run P w = .ok b w
theorem EE.nil {e : TypeId} {n : Nat} {xs ys : Array Value} : EE P d e n xs ys [] true := fun k w => by simp [eqElems]
theorem EE.cons {e : TypeId} {n i : Nat} {is : List Nat} {xs ys : Array Value} {a b : Value} {r rest : Bool} (hA : Ag P e false) (ha : xs[i * n]? = some a) (hb : ys[i * n]? = some b) (he : EqV P d e a b r) (hr : EE P d e n xs ys is rest) : EE P d e n xs ys (i :: is) (r && rest) := by
  intro k w
  simp only [eqElems, Sem.run_bind, run_part hA ha, run_part hA hb, Result.andThen_ok, he k w]
  cases r
  · simp
  · simp [hr k w]
theorem EE.consA {e : TypeId} {n i : Nat} {is : List Nat} {xs ys va vb' : Array Value} {r rest : Bool} (hA : Ag P e true) (hS : Sz P e n) (ha : xs.extract (i * n) (i * n + n) = va) (hb : ys.extract (i * n) (i * n + n) = vb') (he : EqV P d e (.agg va) (.agg vb') r) (hr : EE P d e n xs ys is rest) : EE P d e n xs ys (i :: is) (r && rest) := by
  intro k w
  simp only [eqElems, Sem.run_bind, run_part_agg hA hS ha, run_part_agg hA hS hb, Result.andThen_ok, he k w]
  cases r
  · simp
  · simp [hr k w]
theorem EqV.arr {xs ys : Array Value} {len n : Nat} {e : TypeId} {b : Bool} (ht : P.underlying T = some (.array len e)) (hS : Sz P e n) (h : EE P d e n xs ys (List.range len) b) : EqV P (d + 1) T (.agg xs) (.agg ys) b := by
  intro k w
  have key : ∀ (is : List Nat) (w : World), (do
      let r ← forIn is ((none, ()) : Option Bool × Unit) fun i _ => do
        let a ← part e xs (i * n)
        let b ← part e ys (i * n)
        let r ← Op.equalIn (k + d) e a b
        if (!r) = true then pure (ForInStep.done ((some false, ()) : Option Bool × Unit)) else pure (ForInStep.yield ((none, ()) : Option Bool × Unit))
      match r.fst with
      | some v => pure v
      | none => pure true : Sem Bool).run P w = (eqElems (k + d) e n xs ys is).run P w := by
    intro is
    induction is with
    | nil => intro w; simp [eqElems]
    | cons i is ih =>
      intro w
      simp only [List.forIn_cons, eqElems, Sem.run_bind]
      generalize (part e xs (i * n)).run P w = r1
      cases r1 with
      | halt x w1 => simp [Result.andThen]
      | ok a w1 =>
        simp only [Result.andThen_ok]
        generalize (part e ys (i * n)).run P w1 = r2
        cases r2 with
        | halt x w2 => simp [Result.andThen]
        | ok b w2 =>
          simp only [Result.andThen_ok]
          generalize (Op.equalIn (k + d) e a b).run P w2 = r3
          cases r3 with
          | halt x w3 => simp [Result.andThen]
          | ok r w3 =>
            cases r
            · simp
            · simp only [Result.andThen_ok, Bool.not_true, Bool.false_eq_true, if_false, Sem.run_pure]
              have := ih w3
              rw [Sem.run_bind] at this
              exact this
  rw [← Nat.add_assoc]
  simp only [Op.equalIn, Sem.run_bind, run_underlying ht, Result.andThen_ok, hS w]
  have h2 := key (List.range len) w
  rw [h k w] at h2
  rw [← h2]
  rw [Sem.run_bind]
  simp only [Std.Legacy.Range.forIn_eq_forIn_range', Std.Legacy.Range.size, Nat.sub_zero, Nat.add_sub_cancel, Nat.div_one, List.range_eq_range']
  congr 1
  funext a w'
  cases a.fst <;> rfl
theorem eg_agg {op : BinOp} {x y : Operand} {xs ys : Array Value} (h : P.eqGuardType P.depth T = false) {w : World} : (eqGuard op T x y (.agg xs) (.agg ys)).run P w = .ok () w := run_eqGuard_agg w op T x y xs ys h
theorem b_eql_agg {xs ys : Array Value} {b : Bool} {w : World} (h : EqV P d T (.agg xs) (.agg ys) b) (hd : Nat.ble d 10000 = true) : (binOp .eql T (.agg xs) (.agg ys)).run P w = .ok (.bool b) w := by
  have h1 := h (10000 - d) w
  rw [Nat.sub_add_cancel (by simpa using hd)] at h1
  rw [run_eql_struct, h1]; rfl
theorem b_neq_agg {xs ys : Array Value} {b : Bool} {w : World} (h : EqV P d T (.agg xs) (.agg ys) b) (hd : Nat.ble d 10000 = true) : (binOp .neq T (.agg xs) (.agg ys)).run P w = .ok (.bool (!b)) w := by
  have h1 := h (10000 - d) w
  rw [Nat.sub_add_cancel (by simpa using hd)] at h1
  rw [run_neq_struct, h1]; rfl
end
end Go.Vg
