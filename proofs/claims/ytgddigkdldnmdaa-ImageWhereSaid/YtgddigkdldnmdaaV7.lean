/-
  Vg 7: around a range over a function; items picked; small things.
-/
import Derived.Test.YtgddigkdldnmdaaV6
namespace Go.Vg
open Go Go.RowKit
section
variable {w0 w w' : World} {S : Nat → Prop} {M R : List Item}
/-- Some of the items, in any order. -/
theorem St.sel (h : St w0 S w M R) (is : List Nat) (M' : List Item) (hM : is.map (M[·]?) = M'.map some) (hn : is.Nodup) : St w0 S w M' R := by
  have hlen : is.length = M'.length := by
    have := congrArg List.length hM
    simpa using this
  have hget : ∀ i (hi : i < M'.length), M[is[i]'(by omega)]? = some (M'[i]) := by
    intro i hi
    have := congrArg (·[i]?) hM
    simp only [List.getElem?_map] at this
    rw [List.getElem?_eq_getElem (by omega), List.getElem?_eq_getElem hi] at this
    simpa using this
  have hmem : ∀ i ∈ M', i ∈ M := by
    intro i hi
    obtain ⟨k, hk, rfl⟩ := List.getElem_of_mem hi
    exact List.mem_of_getElem? (hget k hk)
  refine ⟨h.base, fun i hi => h.m i (hmem i hi), ?_, fun i hi => h.new i (hmem i hi), h.r, fun i hi j hj => h.rsep i hi j (hmem j hj)⟩
  rw [List.pairwise_iff_getElem]
  intro i j hi hj hij b hb hb'
  have hi' := hget i hi
  have hj' := hget j hj
  have hne : is[i]'(by omega) ≠ is[j]'(by omega) := by
    intro e
    have hnn := List.nodup_iff_pairwise_ne.1 hn
    rw [List.pairwise_iff_getElem] at hnn
    exact hnn i j (by omega) (by omega) hij e
  obtain ⟨p, hp⟩ : ∃ p, p = is[i]'(by omega) := ⟨_, rfl⟩
  obtain ⟨q, hq⟩ : ∃ q, q = is[j]'(by omega) := ⟨_, rfl⟩
  rw [← hp] at hi' hne
  rw [← hq] at hj' hne
  obtain ⟨hp', ep⟩ := List.getElem?_eq_some_iff.1 hi'
  obtain ⟨hq', eq⟩ := List.getElem?_eq_some_iff.1 hj'
  have hs := List.pairwise_iff_getElem.1 h.sep
  rcases Nat.lt_or_gt_of_ne hne with hlt | hlt
  · exact hs p q hp' hq' hlt b (by rw [ep]; exact hb) (by rw [eq]; exact hb')
  · exact hs q p hq' hp' hlt b (by rw [eq]; exact hb') (by rw [ep]; exact hb)
theorem St.newB (h : St w0 (fun _ => False) w M R) (k : Nat) {i : Item} (hk : M[k]? = some i) : ∀ b, i.fp b → w0.heap.size ≤ b :=
  fun b hb => (h.new i (List.mem_of_getElem? hk) b hb).resolve_right id
/-- A state with one item that may be written. -/
theorem St.start1 (w : World) (it : Item) (R : List Item) (h : it.φ w) (hR : ∀ i ∈ R, i.φ w) (hs : ∀ i ∈ R, ∀ b, i.fp b → ¬ it.fp b) : St w it.fp w [it] R :=
  ⟨Keeps.refl _ _, by simpa using h, by simp, by simpa using fun b hb => .inr hb, hR, by simpa using hs⟩
end
def allI (l : List Item) : Item :=
  ⟨fun b => ∃ i ∈ l, i.fp b, fun w => ∀ i ∈ l, i.φ w, fun w b h ⟨i, hi, hb⟩ => i.valid w b (h i hi) hb, fun w w' hb h i hi => i.stable w w' (fun b hf => hb b ⟨i, hi, hf⟩) (h i hi)⟩
def z3 : Value → Nat → Value
  | .agg cs, i => cs.getD i undef
  | v, _ => v
def zf : Value → Option Addr
  | .slice a _ _ => a
  | _ => none
def vcap : Value → Nat
  | .slice _ _ c => c
  | _ => 0
section
variable {r : Option Nat} {N : List Deferred} {P : Program} {n : Nat} {f : Fr} {w w' : World} {K : Fr → World → Prop} {Q : APost}
variable {ty : TypeId} {pos : String} {af : Array Edge} {g : Option (Nat × Bool)} {w0 : World} {S : Nat → Prop} {M R : List Item}
theorem L_guard_x {ops : Array Oper} {Q : Post} {o : Oper} {rest : List Oper} {j : Nat} {b : Bool} (hg : o.guard = some (j, b)) (hy : yl ops f j = undef)
    {d : Nat} (hd : o.dst = some d) (hdn : Nat.blt d n = true) (h : L r N P ops Q rest n (upd f d undef) w) : L r N P ops Q (o :: rest) n f w := by
  intro a ha
  have hne : yielded ops a.tmps j ≠ some b := by
    unfold yl at hy
    unfold yielded
    cases hd : (ops[j]?).bind (·.dst) with
    | none => simp
    | some d =>
      rw [hd] at hy
      have hv := ha.val d
      simp only [Option.bind_some]
      simp only [Array.getD_eq_getD_getElem?] at hv
      have hy : f d = undef := hy
      rw [hy] at hv
      cases hx : a.tmps[d]? with
      | none => simp
      | some x => rw [hx] at hv; simp at hv; subst hv; simp [undef]
  unfold wpListIn
  rw [if_neg (by simp [Region.wanted, hg]; exact hne)]
  refine ⟨fun _ _ => trivial, ?_⟩
  rw [hd]
  exact h _ (ha.put (by simpa using hdn) _)
theorem Item.grow {i : Item} (h : i.φ w) (hk : Grow w w') : i.φ w' := i.stable w w' (fun b hb => hk.block b (i.valid w b h hb) fun x => x) h
theorem shr_k {a p c : Int} (h : p = c) (h0 : 0 ≤ c) : a.fdiv p = a / c := by rw [h, Int.fdiv_eq_ediv_of_nonneg _ h0]
theorem cons2 {a b : Value} {l m : List Value} (h : a = b) (t : l = m) : a :: l = b :: m := by rw [h, t]
theorem C.vb {g : FuncId} {args : List Value} {b b' : Bool} (h : C P g args w fun v w' => v = .bool b ∧ Grow w w') (e : b = b') : C P g args w fun v w' => v = .bool b' ∧ Grow w w' := e ▸ h
theorem O_minE {d : Nat} {x y : Operand} {T T' : TypeId} {k : IntKind} {a b c : Int} {Q : Post} (hx : ev f x = .int k a) (hy : ev f y = .int k b) (hc : (if b < a then b else a) = c) (hd : Nat.blt d n = true) (h : K (upd f d (.int k c)) w) :
    O r N P ⟨some d, .call { callee := .builtin .min, args := #[x, y], argTypes := #[T, T'] }, ty, pos, af, g⟩ n f w K Q :=
  O_min hx hy hd (by rw [hc]; exact h)
theorem O_maxE {d : Nat} {x y : Operand} {T T' : TypeId} {k : IntKind} {a b c : Int} {Q : Post} (hx : ev f x = .int k a) (hy : ev f y = .int k b) (hc : (if a < b then b else a) = c) (hd : Nat.blt d n = true) (h : K (upd f d (.int k c)) w) :
    O r N P ⟨some d, .call { callee := .builtin .max, args := #[x, y], argTypes := #[T, T'] }, ty, pos, af, g⟩ n f w K Q :=
  O_max hx hy hd (by rw [hc]; exact h)
theorem onlyN_n (h : K f w) : onlyN K .normal f w := h
theorem WA_seqA {x y : Code} (h : WA r N P x n (Exit.then (y.wpIn (Fw r) 0 P Q) Q) f w) : WA r N P (.seq x y) n Q f w := fun a ha => wpIn_seq (h a ha)
theorem WA_blockA {id : Nat} {c : Code} (h : WA r N P c n (Exit.inBlock id Q) f w) : WA r N P (.block id c) n Q f w := fun a ha => wpIn_block (h a ha)
theorem WA_ret (h : ∀ a, Rep N n f a → Q .ret a w) : WA r N P .ret n Q f w := fun a ha => wpIn_ret (h a ha)
theorem WA_exit {id : Nat} (h : ∀ a, Rep N n f a → Q (.exit id) a w) : WA r N P (.exit id) n Q f w := fun a ha => wpIn_exit (h a ha)
/-- An ending, handed on. -/
def End (N : List Deferred) (n : Nat) (f : Fr) (Q : APost) (e : Exit) (w : World) : Prop := ∀ a, Rep N n f a → Q e a w
theorem End.of {e : Exit} (h : End N n f Q e w) : ∀ a, Rep N n f a → Q e a w := h
theorem End.then_n {y : Code} {K : APost} (h : WA r N P y n Q f w) : End N n f (Exit.then (y.wpIn (Fw r) 0 P Q) K) .normal w := h
theorem End.then_r {X : Act → World → Prop} (h : End N n f Q .ret w) : End N n f (Exit.then X Q) .ret w := h
theorem End.then_e {X : Act → World → Prop} {id : Nat} (h : End N n f Q (.exit id) w) : End N n f (Exit.then X Q) (.exit id) w := h
theorem End.block_n {id : Nat} (h : End N n f Q .normal w) : End N n f (Exit.inBlock id Q) .normal w := h
theorem End.block_r {id : Nat} (h : End N n f Q .ret w) : End N n f (Exit.inBlock id Q) .ret w := h
theorem End.block_x {id : Nat} (h : End N n f Q .normal w) : End N n f (Exit.inBlock id Q) (.exit id) w := fun a ha => by
  show (if id = id then _ else _); rw [if_pos rfl]; exact h a ha
theorem End.block_e {id id' : Nat} (hne : Nat.beq id' id = false) (h : End N n f Q (.exit id') w) : End N n f (Exit.inBlock id Q) (.exit id') w := fun a ha => by
  have : id' ≠ id := fun e => by subst e; simp at hne
  show (if id' = id then _ else _); rw [if_neg this]; exact h a ha
section
variable {α : Type} {l D : Nat} {o : Obj} {I : List α → List Item → Prop} {Ix : Code → List Item → Prop} {xs : List α}
theorem roundQ_n (h : ∃ M, St w0 S w (objI l o :: objI D (.deferred (some [])) :: M) R ∧ I xs M) : roundQ w0 S R l D o I Ix xs .normal f w := h
theorem roundQ_r (h : ∃ M, St w0 S w (objI l o :: objI D (.deferred (some [])) :: M) R ∧ Ix .ret M) : roundQ w0 S R l D o I Ix xs .ret f w := h
theorem roundQ_x {id : Nat} (h : ∃ M, St w0 S w (objI l o :: objI D (.deferred (some [])) :: M) R ∧ Ix (.exit id) M) : roundQ w0 S R l D o I Ix xs (.exit id) f w := h
end
/-- At a function's end, behind a range over a function. -/
theorem End.fin {fn : Func} {Post : Value → World → Prop} {rs : List ResultVar} (hr : fn.results = rs.toArray) (qk : St w0 S w M R) (k : Nat) {D : Nat} (hk : M[k]? = some (objI D (.deferred (some []))))
    (h : ∀ w', St w0 S w' (M.set k (objI D (.deferred none))) R → ∃ v, ResV P rs f w' v ∧ Post v w') : End [markD D] n f (finQ P fn Post) .ret w := fun _ ha => finQ_ret hr qk k hk ha h
theorem WA_finE {fn : Func} {Post : Value → World → Prop} {c : Code} (h : W none N P c n (fun e f w => e = .ret ∧ End N n f (finQ P fn Post) .ret w) f w) : WA none N P c n (finQ P fn Post) f w := WA_fin h
end
end Go.Vg
