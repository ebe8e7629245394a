/-
  Vg 2: operations.
-/
import Derived.Test.YtgddigkdldnmdaaV1
import Derived.IntWalk
import Derived.WalkKit
import Derived.KernelRfl
namespace Go.Vg
open Go Go.RowKit

/-! ### Types -/
def Un (P : Program) (T : TypeId) (d : TypeDesc) : Prop := P.underlying T = some d
def Sz (P : Program) (T : TypeId) (n : Nat) : Prop := ∀ w, (sizeOf T).run P w = .ok n w
def Ag (P : Program) (T : TypeId) (b : Bool) : Prop := ∀ w, (isAgg T).run P w = .ok b w
def Zv (P : Program) (T : TypeId) (z : Value) : Prop := ∀ w, (zeroValue T).run P w = .ok z w
theorem Un.run {P : Program} {T : TypeId} {d : TypeDesc} (h : Un P T d) (w : World) : (underlying T).run P w = .ok d w := by
  have h' : P.underlying T = some d := h
  simp [underlying, h']
/-- The i-th field: where its cells begin, how many they are, whether it is an aggregate. -/
structure FdAt (P : Program) (T : TypeId) (i off size : Nat) (agg : Bool) : Prop where
  run : ∃ fs f, Un P T (.struct fs) ∧ fs[i]? = some f ∧ f.offset = off ∧ Sz P f.type size ∧ Ag P f.type agg
theorem FdAt.mk' {P : Program} {T : TypeId} {i off size : Nat} {agg : Bool} (fs : Array Field) (f : Field) (h1 : Un P T (.struct fs)) (h2 : fs[i]? = some f) (h3 : f.offset = off) (h4 : Sz P f.type size) (h5 : Ag P f.type agg) : FdAt P T i off size agg := ⟨fs, f, h1, h2, h3, h4, h5⟩

theorem wrap_i64 {n : Int} (h : -9223372036854775808 ≤ n ∧ n ≤ 9223372036854775807) : IntKind.i64.wrap n = n := IntWalk.i64_in n h
theorem qz {n c : Int} (h : n = c) (hb : -9223372036854775808 ≤ n ∧ n ≤ 9223372036854775807) : IntKind.i64.wrap n = c := by rw [IntWalk.i64_in n hb, h]
theorem wrap_u8 {n : Int} (h : 0 ≤ n ∧ n ≤ 255) : IntKind.u8.wrap n = n := by simp [IntKind.wrap, IntKind.bits, IntKind.signed]; omega
theorem wrap_u16 {n : Int} (h : 0 ≤ n ∧ n ≤ 65535) : IntKind.u16.wrap n = n := by simp [IntKind.wrap, IntKind.bits, IntKind.signed]; omega
theorem wrap_u32 {n : Int} (h : 0 ≤ n ∧ n ≤ 4294967295) : IntKind.u32.wrap n = n := by simp [IntKind.wrap, IntKind.bits, IntKind.signed]; omega
theorem wrap_u64 {n : Int} (h : 0 ≤ n ∧ n ≤ 18446744073709551615) : IntKind.u64.wrap n = n := by simp [IntKind.wrap, IntKind.bits, IntKind.signed]; omega

theorem add_addr (b o n : Nat) : Addr.add ⟨b, o, none⟩ n = ⟨b, o + n, none⟩ := by
  unfold Addr.add
  split
  · rename_i h; subst h; rfl
  · rfl

section
variable {r : Option Nat} {N : List Deferred} {P : Program} {n : Nat} {f : Fr} {w w' : World} {K : Fr → World → Prop} {Q : Post}
variable {d : Nat} {ty : TypeId} {pos : String} {af : Array Edge} {g : Option (Nat × Bool)}

theorem qj {x : Operand} {v : Value} (hx : ev f x = v) (hd : Nat.blt d n = true) (h : K (upd f d v) w) : O r N P ⟨some d, .move x, ty, pos, af, g⟩ n f w K Q :=
  ju rfl hd (fun _ h => by cases h) (by simp [execOp, hx]) h
theorem qf {x : Operand} {v : Value} (hx : ev f x = v) (hd : Nat.blt d n = true) (h : K (upd f d v) w) : O r N P ⟨some d, .assign x, ty, pos, af, g⟩ n f w K Q :=
  ju rfl hd (fun _ h => by cases h) (by simp [execOp, hx]) h

/-- An operator on two integers, by its run. -/
theorem qt {op : BinOp} {T T' : TypeId} {x y : Operand} {k k' : IntKind} {a b : Int} {v : Value} (hx : ev f x = .int k a) (hy : ev f y = .int k' b) (hd : Nat.blt d n = true)
    (hv : ∀ w, (binOp op T (.int k a) (.int k' b)).run P w = .ok v w) (h : K (upd f d v) w) : O r N P ⟨some d, .binOp op T x y T', ty, pos, af, g⟩ n f w K Q := by
  refine ju rfl hd (fun _ h => by cases h) ?_ h
  simp only [execOp, hx, hy]
  have he : (eqGuard op T x y (.int k a) (.int k' b)).run P w = .ok () w := by
    unfold eqGuard; cases op <;> simp
  rw [Sem.run_bind, Sem.run_bind, he]
  simp [hv]
theorem ki {T : TypeId} {k : IntKind} {a b c : Int} (h : k.wrap (a + b) = c) (w : World) : (binOp .add T (.int k a) (.int k b)).run P w = .ok (.int k c) w := by simp [binOp, Op.intArith, h]
theorem b_sub {T : TypeId} {k : IntKind} {a b c : Int} (h : k.wrap (a - b) = c) (w : World) : (binOp .sub T (.int k a) (.int k b)).run P w = .ok (.int k c) w := by simp [binOp, Op.intArith, h]
theorem b_mul {T : TypeId} {k : IntKind} {a b c : Int} (h : k.wrap (a * b) = c) (w : World) : (binOp .mul T (.int k a) (.int k b)).run P w = .ok (.int k c) w := by simp [binOp, Op.intArith, h]
theorem b_quo {T : TypeId} {k : IntKind} {a b c : Int} (h0 : b ≠ 0) (h : k.wrap (a.tdiv b) = c) (w : World) : (binOp .quo T (.int k a) (.int k b)).run P w = .ok (.int k c) w := by simp [binOp, Op.intDiv, h, h0]
theorem b_rem {T : TypeId} {k : IntKind} {a b c : Int} (h0 : b ≠ 0) (h : a.tmod b = c) (w : World) : (binOp .rem T (.int k a) (.int k b)).run P w = .ok (.int k c) w := by simp [binOp, Op.intDiv, h, h0]
def jf (op : BinOp) (k : IntKind) (a b : Int) : Int :=
  let x := BitVec.ofInt k.bits a
  let y := BitVec.ofInt k.bits b
  k.wrap (match op with | .and => x &&& y | .or => x ||| y | .xor => x ^^^ y | _ => x &&& ~~~y).toNat
theorem b_and {T : TypeId} {k : IntKind} {a b c : Int} (h : jf .and k a b = c) (w : World) : (binOp .and T (.int k a) (.int k b)).run P w = .ok (.int k c) w := by subst h; simp [binOp, Op.intBits, jf]
theorem b_or {T : TypeId} {k : IntKind} {a b c : Int} (h : jf .or k a b = c) (w : World) : (binOp .or T (.int k a) (.int k b)).run P w = .ok (.int k c) w := by subst h; simp [binOp, Op.intBits, jf]
theorem b_xor {T : TypeId} {k : IntKind} {a b c : Int} (h : jf .xor k a b = c) (w : World) : (binOp .xor T (.int k a) (.int k b)).run P w = .ok (.int k c) w := by subst h; simp [binOp, Op.intBits, jf]
theorem b_andNot {T : TypeId} {k : IntKind} {a b c : Int} (h : jf .andNot k a b = c) (w : World) : (binOp .andNot T (.int k a) (.int k b)).run P w = .ok (.int k c) w := by subst h; simp [binOp, Op.intBits, jf]
theorem b_shl {T : TypeId} {k k' : IntKind} {a b c : Int} (h0 : 0 ≤ b) (h : k.wrap (a * 2 ^ (min b.toNat k.bits)) = c) (w : World) : (binOp .shl T (.int k a) (.int k' b)).run P w = .ok (.int k c) w := by
  have : ¬ b < 0 := by omega
  simp [binOp, Op.shift, h, this]
theorem b_shr {T : TypeId} {k k' : IntKind} {a b c : Int} (h0 : 0 ≤ b) (h : a.fdiv (2 ^ (min b.toNat k.bits)) = c) (w : World) : (binOp .shr T (.int k a) (.int k' b)).run P w = .ok (.int k c) w := by
  have : ¬ b < 0 := by omega
  simp [binOp, Op.shift, h, this]
theorem k8 {T : TypeId} {k : IntKind} {a b : Int} (w : World) : (binOp .eql T (.int k a) (.int k b)).run P w = .ok (.bool (decide (a = b))) w := by
  simp [binOp, Op.intCmp]; rw [Bool.eq_iff_iff]; simp
theorem yd {T : TypeId} {k : IntKind} {a b : Int} (w : World) : (binOp .neq T (.int k a) (.int k b)).run P w = .ok (.bool (decide (a ≠ b))) w := by
  simp [binOp, Op.intCmp]; rw [Bool.eq_iff_iff]; simp
theorem jg {T : TypeId} {k : IntKind} {a b : Int} (w : World) : (binOp .lss T (.int k a) (.int k b)).run P w = .ok (.bool (decide (a < b))) w := by simp [binOp, Op.intCmp]
theorem b_leq {T : TypeId} {k : IntKind} {a b : Int} (w : World) : (binOp .leq T (.int k a) (.int k b)).run P w = .ok (.bool (decide (a ≤ b))) w := by simp [binOp, Op.intCmp]
theorem b_gtr {T : TypeId} {k : IntKind} {a b : Int} (w : World) : (binOp .gtr T (.int k a) (.int k b)).run P w = .ok (.bool (decide (b < a))) w := by simp [binOp, Op.intCmp]
theorem b_geq {T : TypeId} {k : IntKind} {a b : Int} (w : World) : (binOp .geq T (.int k a) (.int k b)).run P w = .ok (.bool (decide (b ≤ a))) w := by simp [binOp, Op.intCmp]

/-- An operator on other values that eqGuard lets by. -/
theorem O_binv {op : BinOp} {T T' : TypeId} {x y : Operand} {a b v : Value} (hx : ev f x = a) (hy : ev f y = b) (hd : Nat.blt d n = true)
    (he : (eqGuard op T x y a b).run P w = .ok () w) (hv : (binOp op T a b).run P w = .ok v w) (h : K (upd f d v) w) : O r N P ⟨some d, .binOp op T x y T', ty, pos, af, g⟩ n f w K Q := by
  refine ju rfl hd (fun _ h => by cases h) ?_ h
  simp only [execOp, hx, hy]
  rw [Sem.run_bind, Sem.run_bind, he]
  simp [hv]
theorem eg_bool {op : BinOp} {T : TypeId} {x y : Operand} {a b : Bool} : (eqGuard op T x y (.bool a) (.bool b)).run P w = .ok () w := by unfold eqGuard; cases op <;> simp
theorem eg_string {op : BinOp} {T : TypeId} {x y : Operand} {a b : ByteArray} : (eqGuard op T x y (.string a) (.string b)).run P w = .ok () w := by unfold eqGuard; cases op <;> simp
theorem eg_pointer {op : BinOp} {T : TypeId} {x y : Operand} {a b : Option Addr} : (eqGuard op T x y (.pointer a) (.pointer b)).run P w = .ok () w := by unfold eqGuard; cases op <;> simp
theorem b_eql_bool {T : TypeId} {a b : Bool} (hT : Un P T .bool) : (binOp .eql T (.bool a) (.bool b)).run P w = .ok (.bool (decide (a = b))) w := by
  rw [run_eql_bool w T a b hT]; congr 2
theorem b_neq_bool {T : TypeId} {a b : Bool} (hT : Un P T .bool) : (binOp .neq T (.bool a) (.bool b)).run P w = .ok (.bool (!decide (a = b))) w := by
  have := run_equal_bool w T a b hT
  simp [binOp, this]; cases a <;> cases b <;> rfl
theorem b_eql_string {T : TypeId} {a b : ByteArray} : (binOp .eql T (.string a) (.string b)).run P w = .ok (.bool (decide (a.toList = b.toList))) w := by
  simp [binOp, Op.stringOp]; rw [Bool.eq_iff_iff]; simp
theorem b_neq_string {T : TypeId} {a b : ByteArray} : (binOp .neq T (.string a) (.string b)).run P w = .ok (.bool (!decide (a.toList = b.toList))) w := by
  simp [binOp, Op.stringOp]; rw [Bool.eq_iff_iff]; simp

theorem j0 {x : Operand} {t : TypeId} {b : Bool} (hx : ev f x = .bool b) (hd : Nat.blt d n = true) (h : K (upd f d (.bool (!b))) w) : O r N P ⟨some d, .unOp .not t x, ty, pos, af, g⟩ n f w K Q :=
  ju rfl hd (fun _ h => by cases h) (by simp [execOp, hx, Op.unary]) h
theorem O_neg {x : Operand} {t : TypeId} {k : IntKind} {a c : Int} (hx : ev f x = .int k a) (hd : Nat.blt d n = true) (hv : k.wrap (0 - a) = c) (h : K (upd f d (.int k c)) w) : O r N P ⟨some d, .unOp .neg t x, ty, pos, af, g⟩ n f w K Q :=
  ju rfl hd (fun _ h => by cases h) (by simp [execOp, hx, Op.unary, Op.intArith]; simpa using hv) h
/-- An integer as an integer. -/
theorem ky {x : Operand} {S T : TypeId} {k k' : IntKind} {a c : Int} {dS : TypeDesc} (hx : ev f x = .int k a) (hS : Un P S dS) (hT : Un P T (.int k')) (hd : Nat.blt d n = true) (hv : k'.wrap a = c)
    (h : K (upd f d (.int k' c)) w) : O r N P ⟨some d, .convert S T x, ty, pos, af, g⟩ n f w K Q :=
  ju rfl hd (fun _ h => by cases h) (by simp [execOp, hx, convert, hS.run, hT.run, Conv.intToInt, hv]) h
theorem O_nilCheck {x : Operand} {a : Addr} (hx : ev f x = .pointer (some a)) (hd : Nat.blt d n = true) (h : K (upd f d (.pointer (some a))) w) : O r N P ⟨some d, .nilCheck x, ty, pos, af, g⟩ n f w K Q :=
  ju rfl hd (fun _ h => by cases h) (by simp [execOp, hx]) h
theorem jh {x : Operand} {i : Nat} {vs : Array Value} {v : Value} (hx : ev f x = .tuple vs) (hv : vs[i]? = some v) (hd : Nat.blt d n = true) (h : K (upd f d v) w) : O r N P ⟨some d, .extract x i, ty, pos, af, g⟩ n f w K Q :=
  ju rfl hd (fun _ h => by cases h) (by simp [execOp, hx, Instr.extract, hv]) h
theorem yh {fn : Fn} {a b : Array Operand} {fi cap : List Value} (ha : a.toList.map (ev f) = fi) (hb : b.toList.map (ev f) = cap) (hd : Nat.blt d n = true) (h : K (upd f d (.func fn fi.toArray cap.toArray)) w) : O r N P ⟨some d, .makeFunc fn a b, ty, pos, af, g⟩ n f w K Q := by
  have h1 : a.map (ev f) = fi.toArray := by rw [← ha]; apply Array.toList_inj.1; simp
  have h2 : b.map (ev f) = cap.toArray := by rw [← hb]; apply Array.toList_inj.1; simp
  exact ju rfl hd (fun _ h => by cases h) (by simp [execOp, h1, h2, Instr.makeFunc]) h

/-! #### Structs -/
theorem run_part {T : TypeId} {cs : Array Value} {off : Nat} {v : Value} (hA : Ag P T false) (hv : cs[off]? = some v) : (part T cs off).run P w = .ok v w := by
  simp [part, hA w, hv]
theorem run_part_agg {T : TypeId} {cs vs : Array Value} {off m : Nat} (hA : Ag P T true) (hS : Sz P T m) (hv : cs.extract off (off + m) = vs) : (part T cs off).run P w = .ok (.agg vs) w := by
  simp [part, hA w, hS w, hv]
theorem O_field {x : Operand} {T : TypeId} {i off m : Nat} {cs : Array Value} {v : Value} (hx : ev f x = .agg cs) (hF : FdAt P T i off m false) (hv : cs[off]? = some v) (hd : Nat.blt d n = true) (h : K (upd f d v) w) :
    O r N P ⟨some d, .field T x i, ty, pos, af, g⟩ n f w K Q := by
  obtain ⟨fs, fl, h1, h2, h3, h4, h5⟩ := hF.run
  subst h3
  exact ju rfl hd (fun _ h => by cases h) (by simp [execOp, hx, Instr.field, h1.run, h2, asAgg, run_part h5 hv]) h
theorem O_field_agg {x : Operand} {T : TypeId} {i off m : Nat} {cs vs : Array Value} (hx : ev f x = .agg cs) (hF : FdAt P T i off m true) (hv : cs.extract off (off + m) = vs) (hd : Nat.blt d n = true) (h : K (upd f d (.agg vs)) w) :
    O r N P ⟨some d, .field T x i, ty, pos, af, g⟩ n f w K Q := by
  obtain ⟨fs, fl, h1, h2, h3, h4, h5⟩ := hF.run
  subst h3
  exact ju rfl hd (fun _ h => by cases h) (by simp [execOp, hx, Instr.field, h1.run, h2, asAgg, run_part_agg h5 h4 hv]) h
theorem qg {x : Operand} {T : TypeId} {i off m b o o' : Nat} {ag : Bool} (hx : ev f x = .pointer (some ⟨b, o, none⟩)) (hF : FdAt P T i off m ag) (hm : Nat.blt 0 m = true) (ho : o + off = o') (hd : Nat.blt d n = true)
    (h : K (upd f d (.pointer (some ⟨b, o', none⟩))) w) : O r N P ⟨some d, .fieldAddr T x i, ty, pos, af, g⟩ n f w K Q := by
  obtain ⟨fs, fl, h1, h2, h3, h4, _⟩ := hF.run
  subst h3; subst ho
  have hm' : m ≠ 0 := by have : 0 < m := by simpa using hm
                         omega
  exact ju rfl hd (fun _ h => by cases h) (by simp [execOp, hx, Instr.fieldAt, h1.run, h2, Instr.sureAddr, fieldPlace, h4 w, hm', add_addr]) h
def fillL (place : Nat → Option (Nat × Nat)) (cells : List Value) : List (Nat × List Value) → Option (List Value)
  | [] => some cells
  | (i, vs) :: rest =>
    match place i with
    | none => none
    | some (off, size) => if Nat.beq vs.length size && Nat.ble (off + vs.length) cells.length then fillL place (j9 cells off vs) rest else none
theorem splice_foldl : ∀ (vs : List Value) (off j : Nat) (cs : List Value), (vs.zipIdx j).foldl (fun (a : Array Value) p => a.setIfInBounds (off + p.2) p.1) cs.toArray = (j9 cs (off + j) vs).toArray
  | [], _, _, _ => rfl
  | v :: vs, off, j, cs => by
    simp only [List.zipIdx_cons, List.foldl_cons, j9, List.setIfInBounds_toArray]
    rw [splice_foldl vs off (j + 1)]
    rfl
theorem fill_eq {place : Nat → Option (Nat × Nat)} : ∀ (parts : List (Nat × Value)) (cs : List Value), Instr.fill place cs.toArray parts = (fillL place cs (parts.map fun p => (p.1, p.2.cells.toList))).map List.toArray
  | [], _ => rfl
  | (i, v) :: rest, cs => by
    simp only [Instr.fill, fillL, List.map_cons]
    cases place i with
    | none => rfl
    | some q =>
      obtain ⟨off, size⟩ := q
      simp only [Array.length_toList, List.size_toArray]
      by_cases h : v.cells.size = size ∧ off + v.cells.size ≤ cs.length
      · have hb : (Nat.beq v.cells.size size && Nat.ble (off + v.cells.size) cs.length) = true := by simp [h.1]; rw [← h.1]; exact h.2
        rw [if_pos hb, if_neg (by simp; exact ⟨h.1, by omega⟩)]
        have e : v.cells.zipIdx.foldl (fun cs x => cs.setIfInBounds (off + x.2) x.1) cs.toArray = (j9 cs off v.cells.toList).toArray := by
          have e0 := splice_foldl v.cells.toList off 0 cs
          rw [Nat.add_zero] at e0
          rw [← e0, ← Array.foldl_toList]
          simp
        have e' : (v.cells.zipIdx.foldl (fun cs (x : Value × Nat) => match x with | (c, j) => cs.setIfInBounds (off + j) c) cs.toArray) = (j9 cs off v.cells.toList).toArray := e
        rw [e', fill_eq rest]
      · have hb : ¬ (Nat.beq v.cells.size size && Nat.ble (off + v.cells.size) cs.length) = true := by simpa using h
        rw [if_neg hb, if_pos (by simp; omega)]
        rfl
/-- A struct type: where its parts lie, what it is at first. -/
structure Bt (P : Program) (T : TypeId) (places : List (Nat × Nat)) (zero : List Value) : Prop where
  run : ∃ z fs, Zv P T z ∧ z.cells = zero.toArray ∧ Un P T (.struct fs) ∧ ∀ w, (fs.mapM fun f => (do pure (f.offset, ← sizeOf f.type) : Sem (Nat × Nat))).run P w = .ok places.toArray w
theorem Bt.mk' {P : Program} {T : TypeId} {places : List (Nat × Nat)} {zero : List Value} (z : Value) (fs : Array Field) (h1 : Zv P T z) (h2 : z.cells = zero.toArray) (h3 : Un P T (.struct fs))
    (h4 : ∀ w, (fs.mapM fun f => (do pure (f.offset, ← sizeOf f.type) : Sem (Nat × Nat))).run P w = .ok places.toArray w) : Bt P T places zero := ⟨z, fs, h1, h2, h3, h4⟩
/-- A struct of parts. -/
theorem jl {T : TypeId} {parts : Array (Nat × Operand)} {places : List (Nat × Nat)} {zero cells : List Value} {ps : List (Nat × List Value)} (hB : Bt P T places zero) (hp : parts.toList.map (fun p => (p.1, (ev f p.2).cells.toList)) = ps) (hf : fillL (places[·]?) zero ps = some cells)
    (hd : Nat.blt d n = true) (h : K (upd f d (.agg cells.toArray)) w) : O r N P ⟨some d, .build T parts, ty, pos, af, g⟩ n f w K Q := by
  obtain ⟨z, fs, h1, h2, h3, h4⟩ := hB.run
  refine ju rfl hd (fun _ h => by cases h) ?_ h
  have hfill : Instr.fill (places.toArray[·]?) zero.toArray (parts.map fun (i, x) => (i, ev f x)).toList = some cells.toArray := by
    rw [fill_eq]
    have e1 : ((parts.map fun (i, x) => (i, ev f x)).toList.map fun p => (p.1, p.2.cells.toList)) = ps := by rw [← hp]; simp
    rw [e1]
    have e2 : (places.toArray[·]?) = (fun i : Nat => places[i]?) := by funext i; simp
    rw [e2, hf]; rfl
  simp only [execOp, Instr.build, Sem.run_bind, h1 w, Result.andThen_ok, h3.run, h4 w, h2, hfill]
  simp
/-- An array of parts. -/
theorem xe {T e : TypeId} {len m : Nat} {parts : Array (Nat × Operand)} {z : Value} {zero cells : List Value} {ps : List (Nat × List Value)} (hT : Un P T (.array len e)) (hS : Sz P e m) (hz : Zv P T z) (hz2 : z.cells = zero.toArray)
    (hp : parts.toList.map (fun p => (p.1, (ev f p.2).cells.toList)) = ps) (hf : fillL (fun i => some (i * m, m)) zero ps = some cells)
    (hd : Nat.blt d n = true) (h : K (upd f d (.agg cells.toArray)) w) : O r N P ⟨some d, .build T parts, ty, pos, af, g⟩ n f w K Q := by
  refine ju rfl hd (fun _ h => by cases h) ?_ h
  have hfill : Instr.fill (fun i => some (i * m, m)) zero.toArray (parts.map fun (i, x) => (i, ev f x)).toList = some cells.toArray := by
    rw [fill_eq]
    have e1 : ((parts.map fun (i, x) => (i, ev f x)).toList.map fun p => (p.1, p.2.cells.toList)) = ps := by rw [← hp]; simp
    rw [e1, hf]; rfl
  simp only [execOp, Instr.build, Sem.run_bind, hz w, Result.andThen_ok, hT.run, hS w, hz2, hfill]
  simp

/-! #### Loads -/
theorem qq {x : Operand} {T : TypeId} {b o : Nat} {v : Value} (hx : ev f x = .pointer (some ⟨b, o, none⟩)) (hA : Ag P T false) (hc : w.cell? ⟨b, o, none⟩ = some v) (hd : Nat.blt d n = true) (h : K (upd f d v) w) :
    O r N P ⟨some d, .load T x, ty, pos, af, g⟩ n f w K Q :=
  ju rfl hd (fun _ h => by cases h) (by simp [execOp, hx, Instr.loadAt, Instr.sureAddr, loadVar, hA w, run_load, hc]) h
theorem run_loadCellsFrom {b o : Nat} : ∀ (vs : List Value) (i : Nat) (acc : Array Value), (∀ j v, vs[j]? = some v → w.cell? ⟨b, o + (i + j), none⟩ = some v) →
    (loadCellsFrom ⟨b, o, none⟩ i vs.length acc).run P w = .ok (acc ++ vs.toArray) w := by
  intro vs
  induction vs with
  | nil => intro i acc _; simp [loadCellsFrom]
  | cons v vs ih =>
    intro i acc h
    have h0 := h 0 v (by simp)
    simp only [List.length_cons, loadCellsFrom, Sem.run_bind, add_addr]
    rw [Nat.add_zero] at h0
    simp only [run_load, h0, Result.andThen_ok]
    rw [ih (i + 1) (acc.push v) (fun j u hu => by have := h (j + 1) u (by simpa using hu); rw [show i + 1 + j = i + (j + 1) from by omega]; exact this)]
    simp
theorem run_loadCells {b o : Nat} {vs : List Value} (h : Rd w b o vs) : (loadCells ⟨b, o, none⟩ vs.length).run P w = .ok vs.toArray w := by
  unfold loadCells
  rw [run_loadCellsFrom vs 0 #[] (fun j v hv => by rw [Nat.zero_add]; exact h j v hv)]
  simp
theorem qw {x : Operand} {T : TypeId} {b o m : Nat} {vs : List Value} (hx : ev f x = .pointer (some ⟨b, o, none⟩)) (hA : Ag P T true) (hS : Sz P T m) (hc : Rd w b o vs) (hl : vs.length = m) (hd : Nat.blt d n = true) (h : K (upd f d (.agg vs.toArray)) w) :
    O r N P ⟨some d, .load T x, ty, pos, af, g⟩ n f w K Q := by
  subst hl
  exact ju rfl hd (fun _ h => by cases h) (by simp [execOp, hx, Instr.loadAt, Instr.sureAddr, loadVar, hA w, hS w, run_loadCells hc]) h

/-! #### Elements -/
theorem O_indexAddr {x i : Operand} {T e : TypeId} {m b o len cap o' : Nat} {k : IntKind} {iv : Int} (hx : ev f x = .slice (some ⟨b, o, none⟩) len cap) (hi : ev f i = .int k iv) (hT : Un P T (.slice e)) (hS : Sz P e m) (h0 : 0 ≤ iv) (h1 : iv < len)
    (ho : o + iv.toNat * m = o') (hd : Nat.blt d n = true) (h : K (upd f d (.pointer (some ⟨b, o', none⟩))) w) : O r N P ⟨some d, .indexAddr T x i, ty, pos, af, g⟩ n f w K Q := by
  subst ho
  exact ju rfl hd (fun _ h => by cases h) (by simp [execOp, hx, hi, Instr.indexAt, asIntOf, hT.run, h0, h1, hS w, add_addr]) h
theorem qs {x i : Operand} {T e : TypeId} {m b o len cap o' : Nat} {k : IntKind} {iv : Int} {a : Option Addr} (hx : ev f x = .slice a len cap) (ha : a = some ⟨b, o, none⟩) (hi : ev f i = .int k iv) (hT : Un P T (.slice e)) (hS : Sz P e m) (h0 : 0 ≤ iv) (h1 : iv < len)
    (ho : o + iv.toNat * m = o') (hd : Nat.blt d n = true) (h : K (upd f d (.pointer (some ⟨b, o', none⟩))) w) : O r N P ⟨some d, .indexAddr T x i, ty, pos, af, g⟩ n f w K Q :=
  O_indexAddr (hx.trans (by rw [ha])) hi hT hS h0 h1 ho hd h
theorem k6 {x i : Operand} {T e : TypeId} {m b o len o' : Nat} {k : IntKind} {iv : Int} (hx : ev f x = .pointer (some ⟨b, o, none⟩)) (hi : ev f i = .int k iv) (hT : Un P T (.array len e)) (hS : Sz P e m) (h0 : 0 ≤ iv) (h1 : iv < len)
    (ho : o + iv.toNat * m = o') (hd : Nat.blt d n = true) (h : K (upd f d (.pointer (some ⟨b, o', none⟩))) w) : O r N P ⟨some d, .indexAddr T x i, ty, pos, af, g⟩ n f w K Q := by
  subst ho
  exact ju rfl hd (fun _ h => by cases h) (by simp [execOp, hx, hi, Instr.indexAt, asIntOf, hT.run, Instr.sureAddr, h0, h1, hS w, add_addr]) h
theorem O_index_str {x i : Operand} {T : TypeId} {k : IntKind} {iv : Int} {s : ByteArray} {c : UInt8} (hx : ev f x = .string s) (hi : ev f i = .int k iv) (hT : Un P T .string) (h0 : 0 ≤ iv) (hc : s[iv.toNat]? = some c) (hd : Nat.blt d n = true)
    (h : K (upd f d (.int .u8 c.toNat)) w) : O r N P ⟨some d, .index T x i, ty, pos, af, g⟩ n f w K Q :=
  ju rfl hd (fun _ h => by cases h) (by simp [execOp, hx, hi, Instr.index, asIntOf, hT.run, h0, hc]) h
theorem O_index_arr {x i : Operand} {T e : TypeId} {m len : Nat} {k : IntKind} {iv : Int} {cs : Array Value} {v : Value} (hx : ev f x = .agg cs) (hi : ev f i = .int k iv) (hT : Un P T (.array len e)) (hA : Ag P e false) (hS : Sz P e m) (h0 : 0 ≤ iv) (h1 : iv < len)
    (hv : cs[iv.toNat * m]? = some v) (hd : Nat.blt d n = true) (h : K (upd f d v) w) : O r N P ⟨some d, .index T x i, ty, pos, af, g⟩ n f w K Q :=
  ju rfl hd (fun _ h => by cases h) (by simp [execOp, hx, hi, Instr.index, asIntOf, hT.run, h0, h1, hS w, run_part hA hv]) h
theorem qx {x : Operand} {T : TypeId} {e : TypeId} {a : Option Addr} {len cap : Nat} (hx : ev f x = .slice a len cap) (hT : Un P T (.slice e)) (hd : Nat.blt d n = true) (h : K (upd f d (.int .i64 len)) w) :
    O r N P ⟨some d, .call { callee := .builtin .len, args := #[x], argTypes := #[T] }, ty, pos, af, g⟩ n f w K Q :=
  ju rfl hd (fun _ h => by cases h) (by simp [execOp, resolve, invoke, builtin, Builtin.len_, hx, hT.run, goInt]) h
theorem O_len_string {x : Operand} {T : TypeId} {s : ByteArray} (hx : ev f x = .string s) (hT : Un P T .string) (hd : Nat.blt d n = true) (h : K (upd f d (.int .i64 s.size)) w) :
    O r N P ⟨some d, .call { callee := .builtin .len, args := #[x], argTypes := #[T] }, ty, pos, af, g⟩ n f w K Q :=
  ju rfl hd (fun _ h => by cases h) (by simp [execOp, resolve, invoke, builtin, Builtin.len_, hx, hT.run, goInt]) h
theorem O_len_array {x : Operand} {T : TypeId} {e : TypeId} {m : Nat} (hT : Un P T (.array m e)) (hd : Nat.blt d n = true) (h : K (upd f d (.int .i64 m)) w) :
    O r N P ⟨some d, .call { callee := .builtin .len, args := #[x], argTypes := #[T] }, ty, pos, af, g⟩ n f w K Q :=
  ju rfl hd (fun _ h => by cases h) (by simp [execOp, resolve, invoke, builtin, Builtin.len_, hT.run, goInt]) h
theorem O_min {x y : Operand} {T T' : TypeId} {k : IntKind} {a b : Int} (hx : ev f x = .int k a) (hy : ev f y = .int k b) (hd : Nat.blt d n = true) (h : K (upd f d (.int k (if b < a then b else a))) w) :
    O r N P ⟨some d, .call { callee := .builtin .min, args := #[x, y], argTypes := #[T, T'] }, ty, pos, af, g⟩ n f w K Q :=
  ju rfl hd (fun _ h => by cases h) (by simp [execOp, resolve, invoke, builtin, Builtin.min_, Builtin.min2, hx, hy]) h
theorem O_max {x y : Operand} {T T' : TypeId} {k : IntKind} {a b : Int} (hx : ev f x = .int k a) (hy : ev f y = .int k b) (hd : Nat.blt d n = true) (h : K (upd f d (.int k (if a < b then b else a))) w) :
    O r N P ⟨some d, .call { callee := .builtin .max, args := #[x, y], argTypes := #[T, T'] }, ty, pos, af, g⟩ n f w K Q :=
  ju rfl hd (fun _ h => by cases h) (by simp [execOp, resolve, invoke, builtin, Builtin.max_, Builtin.max2, hx, hy]) h

/-! #### Calls -/
theorem zi {c : Operand} {xs : Array Operand} {ts : Array TypeId} {gf : FuncId} {fi cap : Array Value} {args : List Value} {Post : Value → World → Prop} (hc : ev f c = .func (.func gf) fi cap) (ha : fi.toList ++ (xs.toList.map (ev f) ++ cap.toList) = args) (hd : Nat.blt d n = true)
    (he : ∀ args w, (callFunc gf args).run P w = .ok (.enter gf args) w) (hC : C P gf args w Post) (h : ∀ v w', Post v w' → K (upd f d v) w') : O r N P ⟨some d, .call { callee := .value c, args := xs, argTypes := ts }, ty, pos, af, g⟩ n f w K Q := by
  have h1 : fi ++ xs.map (ev f) ++ cap = args.toArray := by rw [← ha]; apply Array.toList_inj.1; simp
  exact O_call_any (fun k hk => by cases hk; simpa using hd) (fun _ h => by cases h) (by simp only [execOp, resolve, hc, Deferred.ofValue]; simp only [Sem.run_bind, Sem.run_pure, Result.andThen_ok, invoke, h1, he]) hC h
theorem O_calln {c : Operand} {xs : Array Operand} {ts : Array TypeId} {gf : FuncId} {fi cap : Array Value} {args : List Value} {Post : Value → World → Prop} (hc : ev f c = .func (.func gf) fi cap) (ha : fi.toList ++ (xs.toList.map (ev f) ++ cap.toList) = args)
    (he : ∀ args w, (callFunc gf args).run P w = .ok (.enter gf args) w) (hC : C P gf args w Post) (h : ∀ v w', Post v w' → K f w') : O r N P ⟨none, .call { callee := .value c, args := xs, argTypes := ts }, ty, pos, af, g⟩ n f w K Q := by
  have h1 : fi ++ xs.map (ev f) ++ cap = args.toArray := by rw [← ha]; apply Array.toList_inj.1; simp
  exact O_call_any (fun k hk => by cases hk) (fun _ h => by cases h) (by simp only [execOp, resolve, hc, Deferred.ofValue]; simp only [Sem.run_bind, Sem.run_pure, Result.andThen_ok, invoke, h1, he]) hC h

/-! #### Memory that is made -/
variable {w0 : World} {S : Nat → Prop} {M R : List Item}
theorem kk {T : TypeId} {z : Value} {cs : List Value} (qk : St w0 S w M R) (hz : Zv P T z) (hc : z.cells = cs.toArray) (hd : Nat.blt d n = true)
    (h : ∀ b w', w.heap.size ≤ b → St w0 S w' (blk b cs T :: M) R → K (upd f d (.pointer (some ⟨b, 0, none⟩))) w') : O r N P ⟨some d, .alloc T, ty, pos, af, g⟩ n f w K Q :=
  ju rfl hd (fun _ h => by cases h) (by simp [execOp, Instr.alloc, hz w, newVar, newRow, hc]) (h _ _ (Nat.le_refl _) (qk.alloc cs T))
theorem jw {T : TypeId} {x : Operand} {v : Value} {cs : List Value} (qk : St w0 S w M R) (hx : ev f x = v) (hc : v.cells = cs.toArray) (hd : Nat.blt d n = true)
    (h : ∀ b w', w.heap.size ≤ b → St w0 S w' (blk b cs T :: M) R → K (upd f d (.pointer (some ⟨b, 0, none⟩))) w') : O r N P ⟨some d, .box T x, ty, pos, af, g⟩ n f w K Q :=
  ju rfl hd (fun _ h => by cases h) (by simp [execOp, Instr.box, hx, newVar, newRow, hc]) (h _ _ (Nat.le_refl _) (qk.alloc cs T))
theorem run_buildSlice {T e : TypeId} {m len : Nat} {parts : Array (Nat × Operand)} {z : Value} {zs cs : List Value} {ps : List (Nat × List Value)} (hT : Un P T (.slice e)) (hS : Sz P e m) (hz : Zv P e z) (hm : Nat.ble (len * m) 16777216 = true)
    (hzs : (List.range (len * m)).map (fun i => (if len * m = 0 then #[] else z.cells)[i % (if len * m = 0 then #[] else z.cells).size]!) = zs)
    (hp : parts.toList.map (fun p => (p.1, (ev f p.2).cells.toList)) = ps) (hf : fillL (fun i => some (i * m, m)) zs ps = some cs) :
    (Instr.buildSlice T len (parts.map fun (i, x) => (i, ev f x))).run P w = .ok (.slice (some ⟨w.heap.size, 0, none⟩) len len) (w.alloc (.cells cs.toArray e)) := by
  have hm' : ¬ len * m > 2 ^ 24 := by have : len * m ≤ 16777216 := by simpa using hm
                                      omega
  have hfill : Instr.fill (fun i => some (i * m, m)) ((Array.range (len * m)).map ((if len * m = 0 then #[] else z.cells)[· % (if len * m = 0 then #[] else z.cells).size]!)) (parts.map fun (i, x) => (i, ev f x)).toList = some cs.toArray := by
    have e0 : (Array.range (len * m)).map ((if len * m = 0 then #[] else z.cells)[· % (if len * m = 0 then #[] else z.cells).size]!) = zs.toArray := by rw [← hzs]; apply Array.toList_inj.1; simp
    rw [e0, fill_eq]
    have e1 : ((parts.map fun (i, x) => (i, ev f x)).toList.map fun p => (p.1, p.2.cells.toList)) = ps := by rw [← hp]; simp
    rw [e1, hf]; rfl
  simp only [Instr.buildSlice, Sem.run_bind, hT.run, hS w, Result.andThen_ok, hm', if_false]
  by_cases h0 : len * m = 0
  · simp only [h0, if_true] at hfill ⊢
    simp only [Sem.run_pure, Result.andThen_ok, hfill, newRow, Sem.run_bind, run_newObj]
    rfl
  · simp only [h0, if_false] at hfill ⊢
    simp only [Sem.run_bind, hz w, Sem.run_pure, Result.andThen_ok, hfill, newRow, run_newObj]
    rfl
theorem zz {T e : TypeId} {m len : Nat} {parts : Array (Nat × Operand)} {z : Value} {zs cs : List Value} {ps : List (Nat × List Value)} (qk : St w0 S w M R) (hT : Un P T (.slice e)) (hS : Sz P e m) (hz : Zv P e z) (hm : Nat.ble (len * m) 16777216 = true)
    (hzs : (List.range (len * m)).map (fun i => (if len * m = 0 then #[] else z.cells)[i % (if len * m = 0 then #[] else z.cells).size]!) = zs)
    (hp : parts.toList.map (fun p => (p.1, (ev f p.2).cells.toList)) = ps) (hf : fillL (fun i => some (i * m, m)) zs ps = some cs) (hd : Nat.blt d n = true)
    (h : ∀ b w', w.heap.size ≤ b → St w0 S w' (blk b cs e :: M) R → K (upd f d (.slice (some ⟨b, 0, none⟩) len len)) w') : O r N P ⟨some d, .buildSlice T len parts, ty, pos, af, g⟩ n f w K Q :=
  ju rfl hd (fun _ h => by cases h) (by simp only [execOp, Sem.run_bind, run_buildSlice (w := w) hT hS hz hm hzs hp hf]; rfl) (h _ _ (Nat.le_refl _) (qk.alloc cs e))
/-- A store into memory of one's own. -/
theorem zx {T : TypeId} {a x : Operand} {b o m : Nat} {v : Value} {vs cs cs' : List Value} {E : TypeId} (qk : St w0 S w M R) (k : Nat) (hk : M[k]? = some (blk b cs E)) (ha : ev f a = .pointer (some ⟨b, o, none⟩)) (hx : ev f x = v) (hS : Sz P T m) (hv : v.cells = vs.toArray) (hl : vs.length = m)
    (h1 : vs.all (·.oneCell') = true) (hle : Nat.ble (o + m) cs.length = true) (hcs : j9 cs o vs = cs') (h : ∀ w', St w0 S w' (M.set k (blk b cs' E)) R → K f w') : O r N P ⟨none, .store T a x, ty, pos, af, g⟩ n f w K Q := by
  have hb := qk.get k hk
  have hle : o + m ≤ cs.length := by simpa using hle
  obtain ⟨w', hr, hb', hkp⟩ := store_blk (P := P) vs (off := o) (i := 0) hb (by omega) h1
  subst hcs
  refine O_do rfl (fun _ h => by cases h) ?_ (h w' (qk.mut k hk hkp _ hb' fun b hb => .inl hb))
  simp only [execOp, ha, hx, Instr.storeAt, Instr.sureAddr, Sem.run_bind, Sem.run_pure, Result.andThen_ok, storeVar, hv, List.size_toArray, hl, hS w]
  simp [hr]

/-! #### Guards -/
theorem ka {c a b : Operand} {cb : Bool} {v : Value} (hc : ev f c = .bool cb) (hv : (if cb = true then ev f a else ev f b) = v) (hd : Nat.blt d n = true) (h : K (upd f d v) w) : O r N P ⟨some d, .pick c a b, ty, pos, af, g⟩ n f w K Q :=
  ju rfl hd (fun _ h => by cases h) (by subst hv; cases cb <;> simp [execOp, hc, asBool]) h
theorem j1 (c b : Bool) : (if c = true then (if c = true then Value.bool b else undef) else Value.bool false) = .bool (c && b) := by cases c <;> rfl
theorem jk (c b : Bool) : (if c = true then Value.bool true else (if c = false then Value.bool b else undef)) = .bool (c || b) := by cases c <;> rfl
/-- A guarded operation: its value stands where the guard holds. -/
theorem L_guard_t {ops : Array Oper} {o : Oper} {rest : List Oper} {j : Nat} {c : Bool} {v : Value} (hg : o.guard = some (j, true)) (hy : yl ops f j = .bool c) (hod : o.dst = some d) (hd : Nat.blt d n = true) (qk : St w0 S w M R)
    (h : c = true → O r N P o n f w (fun f' w' => f' = upd f d v ∧ St w0 S w' M R) Q) (k : ∀ w', St w0 S w' M R → L r N P ops Q rest n (upd f d (if c = true then v else undef)) w') : L r N P ops Q (o :: rest) n f w := by
  cases c with
  | true => exact zq hg hy (O.mono (fun f' w' ⟨e, hs⟩ => by subst e; exact k w' hs) (h rfl))
  | false => exact j8 hg hy hod hd (k w qk)
theorem kn {ops : Array Oper} {o : Oper} {rest : List Oper} {j : Nat} {c : Bool} {v : Value} (hg : o.guard = some (j, true)) (hy : yl ops f j = .bool c) (hod : o.dst = some d) (hd : Nat.blt d n = true)
    (h : c = true → O r N P o n f w (fun f' w' => f' = upd f d v ∧ w' = w) Q) (k : L r N P ops Q rest n (upd f d (if c = true then v else undef)) w) : L r N P ops Q (o :: rest) n f w := by
  cases c with
  | true => exact zq hg hy (O.mono (fun f' w' ⟨e, hs⟩ => by subst e; subst hs; exact k) (h rfl))
  | false => exact j8 hg hy hod hd k
theorem q4 {ops : Array Oper} {o : Oper} {rest : List Oper} {j : Nat} {c : Bool} {v : Value} (hg : o.guard = some (j, false)) (hy : yl ops f j = .bool c) (hod : o.dst = some d) (hd : Nat.blt d n = true)
    (h : c = false → O r N P o n f w (fun f' w' => f' = upd f d v ∧ w' = w) Q) (k : L r N P ops Q rest n (upd f d (if c = false then v else undef)) w) : L r N P ops Q (o :: rest) n f w := by
  cases c with
  | false => exact zq hg hy (O.mono (fun f' w' ⟨e, hs⟩ => by subst e; subst hs; exact k) (h rfl))
  | true => exact j8 hg hy hod hd k
theorem L_guard_f {ops : Array Oper} {o : Oper} {rest : List Oper} {j : Nat} {c : Bool} {v : Value} (hg : o.guard = some (j, false)) (hy : yl ops f j = .bool c) (hod : o.dst = some d) (hd : Nat.blt d n = true) (qk : St w0 S w M R)
    (h : c = false → O r N P o n f w (fun f' w' => f' = upd f d v ∧ St w0 S w' M R) Q) (k : ∀ w', St w0 S w' M R → L r N P ops Q rest n (upd f d (if c = false then v else undef)) w') : L r N P ops Q (o :: rest) n f w := by
  cases c with
  | false => exact zq hg hy (O.mono (fun f' w' ⟨e, hs⟩ => by subst e; exact k w' hs) (h rfl))
  | true => exact j8 hg hy hod hd (k w qk)

theorem O_conv_str {x : Operand} {S T : TypeId} {s : ByteArray} {dS : TypeDesc} (hx : ev f x = .string s) (hS : Un P S dS) (hT : Un P T .string) (hd : Nat.blt d n = true) (h : K (upd f d (.string s)) w) : O r N P ⟨some d, .convert S T x, ty, pos, af, g⟩ n f w K Q :=
  ju rfl hd (fun _ h => by cases h) (by simp [execOp, hx, convert, hS.run, hT.run]) h
end

/-! ### Results in memory -/
section
variable {P : Program} {f : Fr} {w : World}
def RV (P : Program) (f : Fr) (w : World) : ResultVar → Value → Prop
  | .tmp t, v => f t = v
  | .cell t T, v => ∃ a, f t = .pointer (some a) ∧ (loadVar T a).run P w = .ok v w
def AllRV (P : Program) (f : Fr) (w : World) : List ResultVar → List Value → Prop
  | [], [] => True
  | r :: rs, v :: vs => RV P f w r v ∧ AllRV P f w rs vs
  | _, _ => False
def tupV : List Value → Value
  | [v] => v
  | vs => .tuple vs.toArray
theorem rv_tmp {t : Nat} {v : Value} (h : f t = v) : RV P f w (.tmp t) v := h
theorem rv_cell {t b o : Nat} {T : TypeId} {v : Value} (h : f t = .pointer (some ⟨b, o, none⟩)) (hA : Ag P T false) (hc : w.cell? ⟨b, o, none⟩ = some v) : RV P f w (.cell t T) v :=
  ⟨_, h, by simp [loadVar, hA w, run_load, hc]⟩
theorem xc {t b o m : Nat} {T : TypeId} {vs : List Value} (h : f t = .pointer (some ⟨b, o, none⟩)) (hA : Ag P T true) (hS : Sz P T m) (hc : Rd w b o vs) (hl : vs.length = m) : RV P f w (.cell t T) (.agg vs.toArray) := by
  subst hl
  exact ⟨_, h, by simp [loadVar, hA w, hS w, run_loadCells hc]⟩
def rvG (tmps : Array Value) (r : ResultVar) : Sem Value :=
  match r with
  | .tmp t => pure (tmps.getD t undef)
  | .cell a t => do loadVar t (← asAddr (tmps.getD a undef))
theorem mapM_rv {tmps : Array Value} (ht : ∀ t, tmps.getD t undef = f t) : ∀ (rs : List ResultVar) (vs : List Value), AllRV P f w rs vs →
    (rs.mapM (rvG tmps)).run P w = .ok vs w
  | [], [], _ => rfl
  | r :: rs, v :: vs, h => by
    have ih := mapM_rv ht rs vs h.2
    have h0 : (rvG tmps r).run P w = .ok v w := by
      cases r with
      | tmp t =>
        have h1 : f t = v := h.1
        show (Sem.pure (tmps.getD t undef)).run P w = _
        rw [ht, h1]; rfl
      | cell a T =>
        obtain ⟨ad, h1, h2⟩ := h.1
        unfold rvG
        simp only [Sem.run_bind, ht, h1, asAddr, Sem.run_pure, Result.andThen_ok, h2]
    rw [List.mapM_cons]
    simp only [Sem.run_bind, h0, Result.andThen_ok, ih]
    rfl
  | [], _ :: _, h => h.elim
  | _ :: _, [], h => h.elim
theorem resn {rs : List ResultVar} (vs : List Value) {v : Value} (h : AllRV P f w rs vs) (hv : tupV vs = v) : ResV P rs f w v := by
  intro tmps ht fn hr
  have hm := mapM_rv ht rs vs h
  subst hv
  have e : results fn tmps = (do let vs ← fn.results.mapM (rvG tmps); pure (if h : vs.size = 1 then vs[0] else .tuple vs)) := rfl
  rw [e, hr, Sem.run_bind]
  rw [show (rs.toArray.mapM (rvG tmps)) = (List.toArray <$> rs.mapM (rvG tmps)) from by simp]
  rw [Sem.run_map, hm]
  simp only [Result.andThen_ok, Sem.run_pure]
  congr 1
  match vs with
  | [] => rfl
  | [v] => rfl
  | v :: u :: vs => simp [tupV]

end

/-! ### Numbers -/
theorem j6 (c : UInt8) : IntKind.i64.wrap (c.toNat : Int) = (c.toNat : Int) := wrap_i64 (by have := c.toNat_lt; omega)
theorem conv_u8_u16 (c : UInt8) : IntKind.u16.wrap (c.toNat : Int) = (c.toNat : Int) := wrap_u16 (by have := c.toNat_lt; omega)
theorem conv_u8_u32 (c : UInt8) : IntKind.u32.wrap (c.toNat : Int) = (c.toNat : Int) := wrap_u32 (by have := c.toNat_lt; omega)
theorem wrap_u8e {n c : Int} (h : n = c) (hb : 0 ≤ n ∧ n ≤ 255) : IntKind.u8.wrap n = c := by rw [wrap_u8 hb, h]
theorem wrap_u64e {n c : Int} (h : n = c) (hb : 0 ≤ n ∧ n ≤ 18446744073709551615) : IntKind.u64.wrap n = c := by rw [wrap_u64 hb, h]
theorem quo_i64 {a b : Int} (h0 : 0 ≤ a) (h1 : 0 < b) (h2 : a ≤ 9223372036854775807) : IntKind.i64.wrap (a.tdiv b) = a / b := by
  rw [Int.tdiv_eq_ediv_of_nonneg h0]
  have h3 : a / b ≤ a := Int.ediv_le_self _ h0
  have h4 : 0 ≤ a / b := Int.ediv_nonneg h0 (by omega)
  exact wrap_i64 (by omega)
theorem rem_nn {a b : Int} (h0 : 0 ≤ a) (_h1 : 0 < b) : a.tmod b = a % b := Int.tmod_eq_emod_of_nonneg h0
theorem shr_lit {a c : Int} (h : a.fdiv c = a / c := by rfl) : a.fdiv c = a / c := h
end Go.Vg
