/-
  Vg 0: frames as functions of slots, code and operations over them, memory as a list of items; regions that draw their order by tokens.
  Over any program. Nothing here is trusted.
-/
import Derived.OrdersIn
import Derived.TacticsIn
import Derived.RangeFuncCalls
import Derived.Below
import Derived.Laws.AppendOwn
import Derived.Laws.OwnMore
import Derived.Deep.Draws
import Derived.Shelf.Abstract
import Derived.OwnWalkIn
import Derived.Deep.LoopGhost
namespace Go.Vg
open Go Go.RowKit
abbrev vI (n : Int) : Value := .int .i64 n

/-! ### Frames -/
def upd (f : Nat → Value) (d : Nat) (v : Value) : Nat → Value := fun s => match Nat.beq s d with | true => v | false => f s
def updo (f : Nat → Value) (d : Option Nat) (v : Value) : Nat → Value := match d with | some d => upd f d v | none => f
def ev (f : Nat → Value) : Operand → Value
  | .tmp t => f t
  | .const v => v
  | .global g => .pointer (some ⟨g, 0, none⟩)
  | .func g => .func (.func g) #[] #[]
theorem upd_same (f : Nat → Value) (d : Nat) (v : Value) : upd f d v d = v := by simp [upd]
theorem upd_ne (f : Nat → Value) {d s : Nat} (v : Value) (h : s ≠ d) : upd f d v s = f s := by
  unfold upd
  have : Nat.beq s d = false := by
    cases hb : Nat.beq s d with
    | true => exact absurd (Nat.eq_of_beq_eq_true hb) h
    | false => rfl
  rw [this]
theorem qm {f : Nat → Value} {d : Nat} {v : Value} (h : f d = v) : f = upd f d v := by
  funext s
  by_cases e : s = d
  · subst e; rw [upd_same, h]
  · rw [upd_ne _ _ e]

structure Rep (N : List Deferred) (n : Nat) (f : Nat → Value) (a : Act) : Prop where
  size : a.tmps.size = n
  val : ∀ t, a.tmps.getD t undef = f t
  defers : a.defers = N
theorem Rep.eval {N : List Deferred} {n : Nat} {f : Nat → Value} {a : Act} (h : Rep N n f a) : a.eval = ev f := by
  funext x
  cases x <;> first | rfl | exact h.val _
theorem Rep.put {N : List Deferred} {n : Nat} {f : Nat → Value} {a : Act} (h : Rep N n f a) {d : Nat} (hd : d < n) (v : Value) : Rep N n (upd f d v) (a.put (some d) v) := by
  refine ⟨by simp [Act.put, h.size], fun t => ?_, by simp [Act.put, h.defers]⟩
  have hv := h.val t
  simp only [Act.put, Array.getD_eq_getD_getElem?] at hv ⊢
  by_cases e : t = d
  · subst e
    rw [upd_same, Array.getElem?_setIfInBounds_self_of_lt (by rw [h.size]; exact hd)]
    rfl
  · rw [upd_ne _ _ e, Array.getElem?_setIfInBounds_ne (fun h => e h.symm), hv]
theorem Rep.putn {N : List Deferred} {n : Nat} {f : Nat → Value} {a : Act} (h : Rep N n f a) (v : Value) : Rep N n f (a.put none v) := h
theorem Rep.puto {N : List Deferred} {n : Nat} {f : Nat → Value} {a : Act} (h : Rep N n f a) {d : Option Nat} (hd : ∀ k, d = some k → k < n) (v : Value) : Rep N n (updo f d v) (a.put d v) := by
  cases d with
  | none => exact h
  | some k => exact h.put (hd k rfl) v

abbrev Fr := Nat → Value
abbrev Post := Exit → Fr → World → Prop
/-- The fence that lets everything by, in an activation or in a round. -/
abbrev Fw (r : Option Nat) : Fence := { Fence.wide with round := r }
def liftQ (N : List Deferred) (n : Nat) (Q : Post) : Exit → Act → World → Prop := fun e a w => ∃ f, Rep N n f a ∧ Q e f w

section
variable {r : Option Nat} {N : List Deferred} {P : Program} {n : Nat}

/-- An operation, over frames. -/
def O (r : Option Nat) (N : List Deferred) (P : Program) (o : Oper) (n : Nat) (f : Fr) (w : World) (K : Fr → World → Prop) (Q : Post) : Prop :=
  ∀ a, Rep N n f a → o.wpIn (Fw r) 0 P a w (fun a' w' => ∃ f', Rep N n f' a' ∧ K f' w') (liftQ N n Q)
def L (r : Option Nat) (N : List Deferred) (P : Program) (ops : Array Oper) (Q : Post) (rest : List Oper) (n : Nat) (f : Fr) (w : World) : Prop :=
  ∀ a, Rep N n f a → wpListIn (Fw r) 0 P ops (liftQ N n Q) rest a w
def W (r : Option Nat) (N : List Deferred) (P : Program) (c : Code) (n : Nat) (Q : Post) (f : Fr) (w : World) : Prop :=
  ∀ a, Rep N n f a → c.wpIn (Fw r) 0 P (liftQ N n Q) a w

theorem O.mono {o : Oper} {f : Fr} {w : World} {K K' : Fr → World → Prop} {Q : Post} (h : ∀ f w, K f w → K' f w) (hh : O r N P o n f w K Q) : O r N P o n f w K' Q :=
  fun a ha => Oper.wpIn_mono (fun _ _ ⟨f', hf', hk⟩ => ⟨f', hf', h _ _ hk⟩) (hh a ha)

theorem ql {ops : Array Oper} {Q : Post} {f : Fr} {w : World} (h : Q .normal f w) : L r N P ops Q [] n f w := fun _ ha => ⟨f, ha, h⟩
theorem qa {ops : Array Oper} {Q : Post} {o : Oper} {rest : List Oper} {f : Fr} {w : World} (hg : o.guard = none)
    (h : O r N P o n f w (fun f' w' => L r N P ops Q rest n f' w') Q) : L r N P ops Q (o :: rest) n f w := by
  intro a ha
  unfold wpListIn
  rw [if_pos (by simp [Region.wanted, hg])]
  exact Oper.wpIn_mono (fun a' w' ⟨f', hf', hl⟩ => hl a' hf') (h a ha)
def yl (ops : Array Oper) (f : Fr) (j : Nat) : Value := match (ops[j]?).bind (·.dst) with | some d => f d | none => undef
theorem yielded_rep {ops : Array Oper} {f : Fr} {a : Act} (ha : Rep N n f a) {j : Nat} {b : Bool} (h : yl ops f j = .bool b) : yielded ops a.tmps j = some b := by
  unfold yl at h
  unfold yielded
  cases hd : (ops[j]?).bind (·.dst) with
  | none => rw [hd] at h; simp [undef] at h
  | some d =>
    rw [hd] at h
    have hv := ha.val d
    simp only [Option.bind_some]
    simp only [Array.getD_eq_getD_getElem?] at hv
    cases hx : a.tmps[d]? with
    | none => rw [hx] at hv; simp [undef] at hv; have h : f d = .bool b := h; rw [← hv] at h; simp at h
    | some x => rw [hx] at hv; simp at hv; have h : f d = .bool b := h; rw [hv, h]
theorem zq {ops : Array Oper} {Q : Post} {o : Oper} {rest : List Oper} {f : Fr} {w : World} {j : Nat} {b : Bool} (hg : o.guard = some (j, b)) (hy : yl ops f j = .bool b)
    (h : O r N P o n f w (fun f' w' => L r N P ops Q rest n f' w') Q) : L r N P ops Q (o :: rest) n f w := by
  intro a ha
  unfold wpListIn
  rw [if_pos (by simp [Region.wanted, hg, yielded_rep ha hy])]
  exact Oper.wpIn_mono (fun a' w' ⟨f', hf', hl⟩ => hl a' hf') (h a ha)
theorem j8 {ops : Array Oper} {Q : Post} {o : Oper} {rest : List Oper} {f : Fr} {w : World} {j : Nat} {b : Bool} (hg : o.guard = some (j, b)) (hy : yl ops f j = .bool (!b))
    {d : Nat} (hd : o.dst = some d) (hdn : Nat.blt d n = true) (h : L r N P ops Q rest n (upd f d undef) w) : L r N P ops Q (o :: rest) n f w := by
  intro a ha
  unfold wpListIn
  rw [if_neg (by simp [Region.wanted, hg, yielded_rep ha hy])]
  refine ⟨fun _ _ => trivial, ?_⟩
  rw [hd]
  exact h _ (ha.put (by simpa using hdn) _)

/-- An operation that comes to a value. -/
theorem ju {o : Oper} {f : Fr} {w w' : World} {K : Fr → World → Prop} {Q : Post} {d : Nat} {v : Value} (hd : o.dst = some d) (hdn : Nat.blt d n = true) (hnd : ∀ c, o.op ≠ .defer c)
    (hrun : (execOp (ev f) o).run P w = .ok (.value v) w') (h : K (upd f d v) w') : O r N P o n f w K Q := by
  intro a ha
  refine ⟨fun _ _ => trivial, ?_⟩
  rw [Oper.semAt_eq _ _ _ hnd, ha.eval, hrun]
  simp only [Oper.uponIn]
  rw [hd]
  exact ⟨_, ha.put (by simpa using hdn) _, h⟩
/-- An operation that does, and gives no value. -/
theorem O_do {o : Oper} {f : Fr} {w w' : World} {K : Fr → World → Prop} {Q : Post} (hd : o.dst = none) (hnd : ∀ c, o.op ≠ .defer c)
    (hrun : (execOp (ev f) o).run P w = .ok .skip w') (h : K f w') : O r N P o n f w K Q := by
  intro a ha
  refine ⟨fun _ _ => trivial, ?_⟩
  rw [Oper.semAt_eq _ _ _ hnd, ha.eval, hrun]
  simp only [Oper.uponIn]
  rw [hd]
  exact ⟨_, ha, h⟩
/-- A builtin that does, its value unused. -/
theorem O_runn {o : Oper} {f : Fr} {w w' : World} {K : Fr → World → Prop} {Q : Post} {v : Value} (hd : o.dst = none) (hnd : ∀ c, o.op ≠ .defer c)
    (hrun : (execOp (ev f) o).run P w = .ok (.value v) w') (h : K f w') : O r N P o n f w K Q := by
  intro a ha
  refine ⟨fun _ _ => trivial, ?_⟩
  rw [Oper.semAt_eq _ _ _ hnd, ha.eval, hrun]
  simp only [Oper.uponIn]
  rw [hd]
  exact ⟨_, ha, h⟩

/-- What a call comes to: it returns. -/
def Ret (Post : Value → World → Prop) : Ending → World → Prop := fun e w => ∃ v, e = .returned v ∧ Post v w
abbrev C (P : Program) (g : FuncId) (args : List Value) (w : World) (Post : Value → World → Prop) : Prop := Calls P g args.toArray w (Ret Post)
theorem C.mono {g : FuncId} {args : List Value} {w : World} {A B : Value → World → Prop} (h : C P g args w A) (k : ∀ v w', A v w' → B v w') : C P g args w B :=
  Calls.mono h fun _ _ ⟨v, e, q⟩ => ⟨v, e, k _ _ q⟩
theorem calls_any {g : FuncId} {args : Array Value} {w : World} {R : Ending → World → Prop} {k : Nat} (h : Calls P g args w R) : CallsIn (Fw r) k P g args w R := by
  have h1 : CallsIn Fence.wide k P g args w R := callsIn_wide.2 h
  cases r with
  | none => exact h1
  | some l => exact h1.inRound l
theorem O_call_any {o : Oper} {f : Fr} {w : World} {K : Fr → World → Prop} {Q : Post} {g : FuncId} {args : List Value} {Post : Value → World → Prop} (hdn : ∀ k, o.dst = some k → k < n) (hnd : ∀ c, o.op ≠ .defer c)
    (hrun : (execOp (ev f) o).run P w = .ok (.enter g args.toArray) w) (hc : C P g args w Post) (h : ∀ v w', Post v w' → K (updo f o.dst v) w') : O r N P o n f w K Q := by
  intro a ha
  refine ⟨fun _ _ => trivial, ?_⟩
  rw [Oper.semAt_eq _ _ _ hnd, ha.eval, hrun]
  simp only [Oper.uponIn]
  refine ⟨fun h => by simp [Fence.wide] at h, ?_⟩
  refine CallsIn.mono (calls_any hc) ?_
  rintro e w' ⟨v, rfl, hp⟩
  exact ⟨_, ha.puto hdn v, h v w' hp⟩
theorem qy {g : FuncId} {fn : Func} {c : Code} (hf : P.funcs[g]? = some fn) (hname : (fn.name == "runtime.NumGoroutine") = false) (hb : fn.body = some c) (args : Array Value) (w : World) :
    (callFunc g args).run P w = .ok (.enter g args) w := _root_.Go.Proofs.enters_of hf hname hb args w
end

/-! ### Code -/
section
variable {r : Option Nat} {N : List Deferred} {P : Program} {n : Nat} {f : Fr} {w : World} {Q : Post}
def thenQ (K : Fr → World → Prop) (Q : Post) : Post := fun e => match e with | .normal => K | e => Q e
def blockQ (id : Nat) (Q : Post) : Post := fun e => match e with | .exit i => (match Nat.beq i id with | true => Q .normal | false => Q (.exit i)) | e => Q e
theorem W_mono {c : Code} {Q' : Post} (h : ∀ e f w, Q e f w → Q' e f w) (hh : W r N P c n Q f w) : W r N P c n Q' f w :=
  fun a ha => wpIn_mono (hh a ha) fun _ _ _ ⟨f', hf', hq⟩ => ⟨f', hf', h _ _ _ hq⟩
theorem qi {x y : Code} (h : W r N P x n (thenQ (fun f w => W r N P y n Q f w) Q) f w) : W r N P (.seq x y) n Q f w := by
  intro a ha
  refine wpIn_seq (wpIn_mono (h a ha) ?_)
  rintro e a' w' ⟨f', hf', hq⟩
  cases e with
  | normal => exact hq a' hf'
  | _ => exact ⟨f', hf', hq⟩
theorem W_cut {x y : Code} (J : Fr → World → Prop) (h : W r N P x n (thenQ J Q) f w) (hy : ∀ f w, J f w → W r N P y n Q f w) : W r N P (.seq x y) n Q f w :=
  qi (W_mono (fun e f w h => by cases e <;> first | exact hy _ _ h | exact h) h)
theorem zy {id : Nat} {c : Code} (h : W r N P c n (blockQ id Q) f w) : W r N P (.block id c) n Q f w := by
  intro a ha
  refine wpIn_block (wpIn_mono (h a ha) ?_)
  rintro e a' w' ⟨f', hf', hq⟩
  cases e with
  | exit i =>
    simp only [Exit.inBlock]
    simp only [blockQ] at hq
    by_cases hi : i = id
    · subst hi
      rw [if_pos rfl]
      rw [Nat.beq_refl] at hq
      exact ⟨f', hf', hq⟩
    · rw [if_neg hi]
      have hb : Nat.beq i id = false := by
        cases hb : Nat.beq i id with
        | true => exact absurd (Nat.eq_of_beq_eq_true hb) hi
        | false => rfl
      rw [hb] at hq
      exact ⟨f', hf', hq⟩
  | _ => exact ⟨f', hf', hq⟩
theorem W_loop {c : Code} (I : Fr → World → Prop) (μ : Fr → World → Nat) (h0 : I f w)
    (round : ∀ f w, I f w → W r N P c n (thenQ (fun f' w' => I f' w' ∧ μ f' w' < μ f w) Q) f w) : W r N P (.loop c) n Q f w := by
  intro a ha
  refine wpIn_loop (fun a w => ∃ f, Rep N n f a ∧ I f w) (fun a w => μ (fun t => a.tmps.getD t undef) w) ⟨f, ha, h0⟩ ?_
  rintro a' w' ⟨f', hf', hi⟩
  have e1 : (fun t => a'.tmps.getD t undef) = f' := funext hf'.val
  refine wpIn_mono (round f' w' hi a' hf') ?_
  rintro e a2 w2 ⟨f2, hf2, hq⟩
  have e2 : (fun t => a2.tmps.getD t undef) = f2 := funext hf2.val
  cases e with
  | normal => exact ⟨⟨f2, hf2, hq.1⟩, by rw [e1, e2]; exact hq.2⟩
  | _ => exact ⟨f2, hf2, hq⟩
theorem kw {c : Code} (I : Nat → Fr → World → Prop) (h0 : ∃ m0, I m0 f w)
    (round : ∀ m f w, I m f w → W r N P c n (thenQ (fun f' w' => ∃ m', m' < m ∧ I m' f' w') Q) f w) : W r N P (.loop c) n Q f w := by
  refine W_loop (fun f w => ∃ m, I m f w) (fun f w => leastOf (fun m => I m f w)) h0 ?_
  intro f w hI
  refine W_mono ?_ (round _ f w (leastOf_spec hI).1)
  intro e f' w' hq
  cases e with
  | normal =>
    obtain ⟨m', hlt, hI'⟩ := hq
    exact ⟨⟨m', hI'⟩, Nat.lt_of_le_of_lt ((leastOf_spec ⟨m', hI'⟩).2 m' hI') hlt⟩
  | _ => exact hq
theorem zn (h : Q .normal f w) : W r N P .skip n Q f w := fun _ ha => wpIn_skip ⟨f, ha, h⟩
theorem W_label {l : Nat} (h : Q .normal f w) : W r N P (.label l) n Q f w := fun _ ha => wpIn_label ⟨f, ha, h⟩
theorem ja {id : Nat} (h : Q (.exit id) f w) : W r N P (.exit id) n Q f w := fun _ ha => wpIn_exit ⟨f, ha, h⟩
theorem zo (h : Q .ret f w) : W r N P .ret n Q f w := fun _ ha => wpIn_ret ⟨f, ha, h⟩
theorem k5 {c : Operand} {x y : Code} {t : Bool} (hc : ev f c = .bool t) (ht : t = true → W r N P x n Q f w) (hf : t = false → W r N P y n Q f w) : W r N P (.cond c x y) n Q f w := by
  intro a ha
  refine wpIn_cond_split (t := t) (by rw [ha.eval]; exact hc) (fun h => ht h a ha) (fun h => hf h a ha)
theorem jj {c : Operand} {x y : Code} (hc : ev f c = .bool true) (ht : W r N P x n Q f w) : W r N P (.cond c x y) n Q f w := k5 hc (fun _ => ht) (fun h => by simp at h)
theorem W_cond_f {c : Operand} {x y : Code} (hc : ev f c = .bool false) (hf : W r N P y n Q f w) : W r N P (.cond c x y) n Q f w := k5 hc (fun h => by simp at h) (fun _ => hf)
theorem zd {c : Operand} {x y : Code} {p : Prop} [Decidable p] (hc : ev f c = .bool (decide p)) (ht : p → W r N P x n Q f w) (hf : ¬ p → W r N P y n Q f w) : W r N P (.cond c x y) n Q f w :=
  k5 hc (fun h => ht (of_decide_eq_true h)) (fun h => hf (of_decide_eq_false h))
theorem qb {K : Fr → World → Prop} (h : K f w) : thenQ K Q .normal f w := h
theorem z0 {K : Fr → World → Prop} {i : Nat} (h : Q (.exit i) f w) : thenQ K Q (.exit i) f w := h
theorem q9 {K : Fr → World → Prop} (h : Q .ret f w) : thenQ K Q .ret f w := h
theorem z7 {i : Nat} (h : Q .normal f w) : blockQ i Q .normal f w := h
theorem zk {i : Nat} (h : Q .ret f w) : blockQ i Q .ret f w := h
theorem blockQ_e {i j : Nat} (hij : Nat.beq i j = false) (h : Q (.exit i) f w) : blockQ j Q (.exit i) f w := by simp only [blockQ, hij]; exact h
theorem ke {i : Nat} (h : Q .normal f w) : blockQ i Q (.exit i) f w := by simp only [blockQ, Nat.beq_refl]; exact h
theorem norm1 (p : Fr → Prop) {s : Nat} {v : Value} (h : f s = v) (k : p (upd f s v)) : p f := by rw [qm h]; exact k
theorem kr {c : Code} (s : Nat) (v : Value) (h : f s = v) (k : W r N P c n Q (upd f s v) w) : W r N P c n Q f w := by rw [qm h]; exact k
theorem qc {id : Nat} {l : List Oper} (h : L r N P l.toArray Q l n f w) : W r N P (.region id l.toArray false) n Q f w :=
  fun a ha => wpIn_region_lit (h a ha)
end

/-! ### Functions -/
section
variable {P : Program}
/-- The value that the results of a function come to. -/
def ResV (P : Program) (rs : List ResultVar) (f : Fr) (w : World) (v : Value) : Prop :=
  ∀ tmps : Array Value, (∀ t, tmps.getD t undef = f t) → ∀ fn : Func, fn.results = rs.toArray → (results fn tmps).run P w = .ok v w
def argF (args : List Value) : Fr := fun s => args.getD s undef
def retQ (P : Program) (rs : List ResultVar) (Post : Value → World → Prop) : Go.Vg.Post := fun e f w =>
  match e with
  | .normal | .ret => ∃ v, ResV P rs f w v ∧ Post v w
  | _ => False
theorem z8 {g : FuncId} {fn : Func} {c : Code} {args : List Value} {w : World} {Post : Value → World → Prop} (rs : List ResultVar) (n : Nat) (hf : P.funcs[g]? = some fn) (hb : fn.body = some c)
    (hn : fn.ntmps = n) (hr : fn.results = rs.toArray) (hl : Nat.ble args.length n = true) (h : W none [] P c n (retQ P rs Post) (argF args) w) : C P g args w Post := by
  refine callsIn_wide.1 (callsIn_of_wp (F := Fence.wide) (n := 0) hf hb trivial ?_ rfl)
  have hl' : args.length ≤ n := by simpa using hl
  have hrep : Rep [] n (argF args) { tmps := args.toArray ++ Array.replicate (fn.ntmps - args.toArray.size) undef, defers := [] } := by
    refine ⟨by simp [hn]; omega, fun t => ?_, rfl⟩
    simp only [argF, Array.getD_eq_getD_getElem?, Array.getElem?_append, List.getD_eq_getElem?_getD, hn]
    by_cases ht : t < args.length
    · simp [ht]
    · simp only [List.size_toArray, ht, if_false]
      rw [List.getElem?_eq_none (by omega : args.length ≤ t), Array.getElem?_replicate]
      split <;> rfl
  refine wpIn_mono (h _ hrep) ?_
  rintro e a w' ⟨f', hf', hq⟩
  cases e with
  | normal => obtain ⟨v, hv, hp⟩ := hq; exact ⟨hf'.defers, v, hv _ hf'.val fn hr, v, rfl, hp⟩
  | ret => obtain ⟨v, hv, hp⟩ := hq; exact ⟨hf'.defers, v, hv _ hf'.val fn hr, v, rfl, hp⟩
  | _ => exact hq.elim
theorem res0 (f : Fr) (w : World) : ResV P [] f w (.tuple #[]) := fun tmps _ fn h => results_none (by simpa using h) tmps P w
theorem res1 {f : Fr} {w : World} {t : Nat} {v : Value} (h : f t = v) : ResV P [.tmp t] f w v := fun tmps ht fn hr => by
  rw [results_tmp (t := t) (by simpa using hr), ht, h]
theorem res2 {f : Fr} {w : World} {t u : Nat} {v x : Value} (h : f t = v) (k : f u = x) : ResV P [.tmp t, .tmp u] f w (.tuple #[v, x]) := fun tmps ht fn hr => by
  rw [results_tmp2 (t := t) (u := u) (by simpa using hr), ht, ht, h, k]
theorem res3 {f : Fr} {w : World} {t u s : Nat} {v x y : Value} (h : f t = v) (k : f u = x) (m : f s = y) : ResV P [.tmp t, .tmp u, .tmp s] f w (.tuple #[v, x, y]) := fun tmps ht fn hr => by
  have h1 : fn.results = #[.tmp t, .tmp u, .tmp s] := by simpa using hr
  simp [results, h1]
  rw [← h, ← k, ← m, ← ht t, ← ht u, ← ht s]
  simp
end
end Go.Vg
