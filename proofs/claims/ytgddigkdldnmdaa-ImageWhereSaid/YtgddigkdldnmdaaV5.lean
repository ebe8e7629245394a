/-
  Vg 5: a range over a function: the caller's side and the iterator's.
-/
import Derived.Test.YtgddigkdldnmdaaV4
import Derived.RangeFuncLeaves
namespace Go.Vg
open Go Go.RowKit

/-! ### Items as one -/
def packI (M : List Item) : Item :=
  ⟨fun b => ∃ i ∈ M, i.fp b, fun w => (∀ i ∈ M, i.φ w) ∧ M.Pairwise fun i j => ∀ b, i.fp b → ¬ j.fp b,
    fun w b h ⟨i, hi, hb⟩ => i.valid w b (h.1 i hi) hb,
    fun w w' hb h => ⟨fun i hi => i.stable w w' (fun b hfb => hb b ⟨i, hi, hfb⟩) (h.1 i hi), h.2⟩⟩
section
variable {w0 w w' : World} {S : Nat → Prop} {M M' R : List Item}
theorem St.pack (h : St w0 S w M R) : (packI M).φ w := ⟨h.m, h.sep⟩
theorem St.unpack (h : St w0 S w M R) (hk : Keeps (packI M).fp w w') (hφ : (packI M').φ w') (hn : ∀ b, (packI M').fp b → (packI M).fp b ∨ w.heap.size ≤ b) : St w0 S w' M' R := by
  refine ⟨h.base.trans_new hk fun b ⟨i, hi, hb⟩ => (h.new i hi b hb).symm, hφ.1, hφ.2, fun i hi b hb => ?_, fun i hi => ?_, fun i hi j hj b hb hb' => ?_⟩
  · rcases hn b ⟨i, hi, hb⟩ with ⟨j, hj, hb'⟩ | hle
    · exact h.new j hj b hb'
    · exact .inl (Nat.le_trans h.base.size hle)
  · exact i.stable w w' (fun b hb => hk.block b (i.valid w b (h.r i hi) hb) fun ⟨j, hj, hb'⟩ => h.rsep i hi j hj b hb hb') (h.r i hi)
  · rcases hn b ⟨j, hj, hb'⟩ with ⟨k, hk', hb2⟩ | hle
    · exact h.rsep i hi k hk' b hb hb2
    · have := i.valid w b (h.r i hi) hb; omega
end

section
variable {w0 w w' : World} {S : Nat → Prop} {M M' R : List Item}
/-- The same state, over itself. -/
theorem St.rebase (h : St w0 S w M R) : St w (packI M).fp w M R := ⟨Keeps.refl _ _, h.m, h.sep, fun i hi b hb => .inr ⟨i, hi, hb⟩, h.r, h.rsep⟩
theorem St.fresh (h : St w0 S w M R) (b : Nat) (hb : (packI M).fp b) : S b ∨ w0.heap.size ≤ b := by
  obtain ⟨i, hi, hb⟩ := hb
  exact (h.new i hi b hb).symm
end

/-! ### The iterator's side -/
/-- One call of yield: what it does to the item, and whether it is to go on. -/
def Yields (P : Program) (l : Nat) (args : List Value) (W : World) (it : Item) (post : Bool → Item → Prop) : Prop :=
  YieldAt Fence.wide 0 P l args.toArray W fun e W' => ∃ b it', e = .returned (.bool b) ∧ Keeps it.fp W W' ∧ it'.φ W' ∧ (∀ x, it'.fp x → it.fp x ∨ W.heap.size ≤ x) ∧ post b it'
/-- What an iterator may ask of its rounds: A: what may be between rounds, behind so many; Ax: behind one that said no. -/
def YSpec {α : Type} (P : Program) (l : Nat) (enc : α → List Value) (W1 : World) (F0 : Nat → Prop) (ok : List α → α → Prop) (A : List α → Item → Prop) (Ax : Item → Prop) : Prop :=
  ∀ pre x W it, Keeps F0 W1 W → (∀ b, it.fp b → F0 b ∨ W1.heap.size ≤ b) → ok pre x → A pre it → it.φ W → Yields P l (enc x) W it fun b it' => (b = true ∧ A (pre ++ [x]) it') ∨ (b = false ∧ Ax it')
/-- What an iterator comes to. -/
def IterPost {α : Type} (W1 : World) (it : Item) (A : List α → Item → Prop) (Ax : Item → Prop) (fin : List α → Prop) : Value → World → Prop :=
  fun _ W' => ∃ it', Keeps it.fp W1 W' ∧ it'.φ W' ∧ (∀ x, it'.fp x → it.fp x ∨ W1.heap.size ≤ x) ∧ ((∃ xs, fin xs ∧ A xs it') ∨ Ax it')
section
variable {N : List Deferred} {P : Program} {n : Nat} {f : Fr} {w : World} {K : Fr → World → Prop} {Q : Post}
variable {ty : TypeId} {pos : String} {af : Array Edge} {g : Option (Nat × Bool)} {w0 : World} {S : Nat → Prop} {M R : List Item}
theorem O_yield {d : Nat} {c : Operand} {xs : Array Operand} {ts : Array TypeId} {l : Nat} {args : List Value} {it : Item} {post : Bool → Item → Prop} (qk : St w0 S w M R) (k : Nat) (hk : M[k]? = some it) (hc : ev f c = .func (.yield l) #[] #[])
    (ha : xs.toList.map (ev f) = args) (hd : Nat.blt d n = true) (hY : Yields P l args w it post) (h : ∀ b it' w', post b it' → St w0 S w' (M.set k it') R → K (upd f d (.bool b)) w') :
    O none N P ⟨some d, .call { callee := .value c, args := xs, argTypes := ts }, ty, pos, af, g⟩ n f w K Q := by
  intro a hra
  obtain ⟨fn, tmps, assign, body, hy, hR⟩ := hY
  refine ⟨fun _ _ => trivial, ?_⟩
  have h1 : #[] ++ xs.map (ev f) ++ #[] = args.toArray := by rw [← ha]; apply Array.toList_inj.1; simp
  rw [Oper.semAt_eq _ _ _ (fun _ h => by cases h), hra.eval]
  have hrun : (execOp (ev f) ⟨some d, .call { callee := .value c, args := xs, argTypes := ts }, ty, pos, af, g⟩).run P w = .ok (.round l fn tmps assign body) w := by
    have h2 : #[] ++ xs.map (ev f) = args.toArray := by rw [← h1]; simp
    simp only [execOp, resolve, hc, Deferred.ofValue]
    simp only [Sem.run_bind, Sem.run_pure, Result.andThen_ok, invoke, h2, hy]
  rw [hrun]
  refine ⟨fun h => by simp [Fence.wide] at h, ?_⟩
  refine RoundIn.mono hR ?_
  rintro e w' ⟨b, it', rfl, hkp, hφ, hn, hp⟩
  exact ⟨_, hra.put (by simpa using hd) _, h b it' w' hp (qk.mut k hk hkp it' hφ hn)⟩
/-- The rounds' promise, at a state of the iterator's. -/
theorem YSpec.at {α : Type} {l : Nat} {enc : α → List Value} {ok : List α → α → Prop} {A : List α → Item → Prop} {Ax : Item → Prop} (hy : YSpec P l enc w0 S ok A Ax) (qk : St w0 S w M R) (k : Nat) {it : Item} (hk : M[k]? = some it) {pre : List α} {x : α} (hok : ok pre x) (hA : A pre it) :
    Yields P l (enc x) w it fun b it' => (b = true ∧ A (pre ++ [x]) it') ∨ (b = false ∧ Ax it') :=
  hy pre x w it qk.base (fun b hb => (qk.new it (List.mem_of_getElem? hk) b hb).symm) hok hA (qk.get k hk)
/-- At the iterator's end. -/
theorem IterPost.of {α : Type} {A : List α → Item → Prop} {Ax : Item → Prop} {fin : List α → Prop} {it it' : Item} (qk : St w0 it.fp w M R) (k : Nat) (hk : M[k]? = some it') (h : (∃ xs, fin xs ∧ A xs it') ∨ Ax it') (v : Value) : IterPost w0 it A Ax fin v w :=
  ⟨it', qk.base, qk.get k hk, fun b hb => (qk.new it' (List.mem_of_getElem? hk) b hb).symm, h⟩

/-! ### The caller's side -/
abbrev APost := Exit → Act → World → Prop
def WA (r : Option Nat) (N : List Deferred) (P : Program) (c : Code) (n : Nat) (Q : APost) (f : Fr) (w : World) : Prop :=
  ∀ a, Rep N n f a → c.wpIn (Fw r) 0 P Q a w
def onlyN (K : Fr → World → Prop) : Post := fun e f w => match e with | .normal => K f w | _ => False
theorem WA_seq {r : Option Nat} {x y : Code} {Q : APost} (h : W r N P x n (onlyN fun f w => WA r N P y n Q f w) f w) : WA r N P (.seq x y) n Q f w := by
  intro a ha
  refine wpIn_seq (wpIn_mono (h a ha) ?_)
  rintro e a' w' ⟨f', hf', hq⟩
  cases e with
  | normal => exact hq a' hf'
  | _ => exact hq.elim
def markD (D : Nat) : Deferred := { target := .collected D, args := #[] }
/-- How a function with a range over a function is left. -/
def finQ (P : Program) (fn : Func) (Post : Value → World → Prop) : APost := bodyPostM (Fw none) 0 P fn (Ret Post)
theorem C_of_WA {gf : FuncId} {fn : Func} {c : Code} {args : List Value} {Post : Value → World → Prop} (n : Nat) (hf : P.funcs[gf]? = some fn) (hb : fn.body = some c) (hn : fn.ntmps = n) (hl : Nat.ble args.length n = true)
    (h : WA none [] P c n (finQ P fn Post) (argF args) w) : C P gf args w Post := by
  refine callsIn_wide.1 (callsIn_of_wp_marks (F := Fence.wide) (n := 0) hf hb trivial ?_ rfl)
  have hl' : args.length ≤ n := by simpa using hl
  refine h _ ⟨by simp [hn]; omega, fun t => ?_, rfl⟩
  simp only [argF, Array.getD_eq_getD_getElem?, Array.getElem?_append, List.getD_eq_getElem?_getD, hn]
  by_cases ht : t < args.length
  · simp [ht]
  · simp only [List.size_toArray, ht, if_false]
    rw [List.getElem?_eq_none (by omega : args.length ≤ t), Array.getElem?_replicate]
    split <;> rfl
theorem finQ_ret {fn : Func} {Post : Value → World → Prop} {rs : List ResultVar} (hr : fn.results = rs.toArray) (qk : St w0 S w M R) (k : Nat) {D : Nat} (hk : M[k]? = some (objI D (.deferred (some [])))) {a : Act} (ha : Rep [markD D] n f a)
    (h : ∀ w', St w0 S w' (M.set k (objI D (.deferred none))) R → ∃ v, ResV P rs f w' v ∧ Post v w') : finQ P fn Post .ret a w := by
  have hb : w.heap[D]? = some (.deferred (some [])) := qk.get k hk
  obtain ⟨v, hv, hp⟩ := h _ (qk.setObj k hk _)
  show LeavesInM _ _ _ _ _ _ a.defers _ _
  rw [ha.defers]
  refine ⟨by simp, .inl ⟨D, _, rfl, run_takeDeferred hb, v, hv _ ha.val fn hr, v, rfl, hp⟩⟩
theorem WA_fin {fn : Func} {Post : Value → World → Prop} {c : Code} (h : W none N P c n (fun e f w => e = .ret ∧ ∀ a, Rep N n f a → finQ P fn Post .ret a w) f w) : WA none N P c n (finQ P fn Post) f w := by
  intro a ha
  refine wpIn_mono (h a ha) ?_
  rintro e a' w' ⟨f', hf', rfl, hq⟩
  exact hq a' hf'
def updL (f : Fr) : List Nat → List Value → Fr
  | p :: ps, v :: vs => updL (upd f p v) ps vs
  | _, _ => f
theorem rep_updL : ∀ (ps : List Nat) (vs : List Value) (f : Fr) (t : Array Value), (∀ p ∈ ps, p < n) → Rep N n f { tmps := t, defers := N } → Rep N n (updL f ps vs) { tmps := (ps.zip vs).foldl (fun t (q : Nat × Value) => t.setIfInBounds q.1 q.2) t, defers := N }
  | [], _, f, t, _, h => by simpa [updL] using h
  | p :: ps, [], f, t, _, h => by simpa [updL] using h
  | p :: ps, v :: vs, f, t, hp, h => by
    have h1 := h.put (hp p (by simp)) v
    exact rep_updL ps vs (upd f p v) _ (fun q hq => hp q (by simp [hq])) h1
/-- What a round's body must achieve. -/
def roundQ {α : Type} (w0 : World) (S : Nat → Prop) (R : List Item) (l D : Nat) (o : Obj) (I : List α → List Item → Prop) (Ix : Code → List Item → Prop) (xs : List α) : Post := fun e _ W =>
  match e with
  | .normal => ∃ M, St w0 S W (objI l o :: objI D (.deferred (some [])) :: M) R ∧ I xs M
  | .ret => ∃ M, St w0 S W (objI l o :: objI D (.deferred (some [])) :: M) R ∧ Ix .ret M
  | .exit id => ∃ M, St w0 S W (objI l o :: objI D (.deferred (some [])) :: M) R ∧ Ix (.exit id) M
  | .goto t => ∃ M, St w0 S W (objI l o :: objI D (.deferred (some [])) :: M) R ∧ Ix (.goto t) M
  | _ => False
theorem WA_range {α : Type} {g : Operand} {ps : List Nat} {assign body : Code} {Q : APost} {gf : FuncId} {lb : List Value} (qk : St w0 S w M R) (hg : ev f g = .func (.func gf) #[] lb.toArray) (he : ∀ args w, (callFunc gf args).run P w = .ok (.enter gf args) w)
    (enc : α → List Value) (henc : ∀ x, (enc x).length = ps.length) (hps : ps.all (fun p => Nat.blt p n) = true) (ok : List α → α → Prop) (fin : List α → Prop)
    (I : List α → List Item → Prop) (Ix : Code → List Item → Prop) (h0 : I [] M)
    (hiter : ∀ l W1 it A Ax, it.φ W1 → (∀ i ∈ R, i.φ W1) → (∀ i ∈ R, ∀ b, i.fp b → ¬ it.fp b) → A [] it → YSpec P l enc W1 it.fp ok A Ax → C P gf (.func (.yield l) #[] #[] :: lb) W1 (IterPost (α := α) W1 it A Ax fin))
    (hround : ∀ wb Sb l D o V M' pre x, I pre M' → ok pre x → St wb Sb V (objI l o :: objI D (.deferred (some [])) :: M') R →
      W (some l) [] P assign n (onlyN fun f1 V1 => ∃ Mx, St wb Sb V1 (objI l o :: objI D (.deferred (some [])) :: Mx) R ∧ ∀ o' V2, St wb Sb V2 (objI l o' :: objI D (.deferred (some [])) :: Mx) R →
        W (some l) [] P body n (roundQ wb Sb R l D o' I Ix (pre ++ [x])) f1 V2) (updL f ps (enc x)) V)
    (hdone : ∀ D V xs M', fin xs → I xs M' → St w0 S V (objI D (.deferred (some [])) :: M') R → ∀ a, Rep [markD D] n f a → Q .normal a V)
    (hstop : ∀ D V c M', Ix c M' → St w0 S V (objI D (.deferred (some [])) :: M') R → WA none [markD D] P c n Q f V) :
    WA none [] P (.rangeFunc g ps.toArray assign body) n Q f w := by
  intro a ha
  refine wpIn_rangeFunc ?_
  intro fn _
  obtain ⟨rec, hrec⟩ : ∃ rec : LoopState → Option Code → Loop, rec = fun st pe => { state := st, pending := pe, fn, tmps := a.tmps, params := ps.toArray, assign, body, defers := w.heap.size } := ⟨_, rfl⟩
  have hst1 := (qk.newObj (.deferred (some []))).newObj (.loop (rec .ready none))
  rw [World.size_alloc] at hst1
  obtain ⟨D, hD⟩ : ∃ D, D = w.heap.size := ⟨_, rfl⟩
  obtain ⟨l, hl⟩ : ∃ l, l = w.heap.size + 1 := ⟨_, rfl⟩
  rw [← hl, ← hD] at hst1
  refine ⟨l, [markD D], (w.alloc (.deferred (some []))).alloc (.loop (rec .ready none)), { target := .fn (.func gf) lb.toArray, args := #[.func (.yield l) #[] #[]] }, (w.alloc (.deferred (some []))).alloc (.loop (rec .ready none)), gf, (.func (.yield l) #[] #[] :: lb).toArray, (w.alloc (.deferred (some []))).alloc (.loop (rec .ready none)), ?_, ?_, fun _ _ => trivial, ?_, fun h => by simp [Fence.wide] at h, ?_⟩
  · rw [hrec, hD, hl]; exact run_enterLoop_outer _ _ _ _ _
  · rw [ha.eval]
    have hr : ∀ V, (resolve (ev f) (rangeCall g l) 0).run P V = .ok { target := .fn (.func gf) lb.toArray, args := #[.func (.yield l) #[] #[]] } V := by
      intro V
      simp only [resolve, hg, Deferred.ofValue]
      rw [Sem.run_pure, show #[] ++ Array.map (ev f) #[Operand.const (Value.func (Fn.yield l) #[] #[])] = #[Value.func (Fn.yield l) #[] #[]] from by simp [ev]]
    exact hr _
  · simp only [invoke]
    rw [show #[Value.func (.yield l) #[] #[]] ++ lb.toArray = (.func (.yield l) #[] #[] :: lb).toArray from by simp]
    exact he _ _
  · obtain ⟨W1, hW1⟩ : ∃ W1, (w.alloc (.deferred (some []))).alloc (.loop (rec .ready none)) = W1 := ⟨_, rfl⟩
    rw [hW1] at hst1 ⊢
    let A : List α → Item → Prop := fun pre it => ∃ M', I pre M' ∧ it = packI (objI l (.loop (rec .ready none)) :: objI D (.deferred (some [])) :: M')
    let Ax : Item → Prop := fun it => ∃ c M', Ix c M' ∧ it = packI (objI l (.loop (rec .done (some c))) :: objI D (.deferred (some [])) :: M')
    have hcall := hiter l W1 (packI (objI l (.loop (rec .ready none)) :: objI D (.deferred (some [])) :: M)) A Ax hst1.pack hst1.r (fun i hi b hb ⟨j, hj, hb'⟩ => hst1.rsep i hi j hj b hb hb') ⟨M, h0, rfl⟩ ?_
    · refine CallsIn.mono (calls_any (r := none) hcall) ?_
      rintro e W' ⟨v, rfl, it', hk, hφ, hn, hA⟩
      have hds : ∀ a0 : Act, Rep [] n f a0 → Rep [markD D] n f { a0 with defers := [markD D] ++ a0.defers } := fun a0 h => ⟨h.size, h.val, by rw [h.defers]; rfl⟩
      rcases hA with ⟨xs, hfin, M', hI, rfl⟩ | ⟨c, M', hI, rfl⟩
      · have hs := hst1.unpack hk hφ hn
        have hb : W'.heap[l]? = some (.loop (rec .ready none)) := hs.get 0 rfl
        refine ⟨none, _, ?_, hdone D _ xs M' hfin hI ((hs.setObj 0 rfl (.loop (rec .exhausted none))).popM) _ (hds a ha)⟩
        have := run_endLoop (P := P) hb (by rw [hrec]; simp)
        rw [hrec] at this ⊢
        exact this
      · have hs := hst1.unpack hk hφ hn
        have hb : W'.heap[l]? = some (.loop (rec .done (some c))) := hs.get 0 rfl
        refine ⟨some c, _, ?_, hstop D _ c M' hI ((hs.setObj 0 rfl (.loop (rec .exhausted (some c)))).popM) _ (hds a ha)⟩
        have := run_endLoop (P := P) hb (by rw [hrec]; simp)
        rw [hrec] at this ⊢
        exact this
    · -- one round
      rintro pre x V it hk hfp hok ⟨M', hI, rfl⟩ hφ
      have hs := (hst1.unpack hk hφ hfp).rebase
      have hb : V.heap[l]? = some (.loop (rec .ready none)) := hs.get 0 rfl
      have hy := run_yield (P := P) (args := (enc x).toArray) hb (by rw [hrec]; simp [henc])
      refine ⟨_, _, _, _, hy, roundIn_of_wpIn trivial ?_⟩
      have hrep : Rep [] n (updL f ps (enc x)) { tmps := (((rec .ready none).params.zip (enc x).toArray).foldl (fun tmps (t, a) => tmps.setIfInBounds t a) (rec .ready none).tmps), defers := [] } := by
        have h0 : Rep [] n f { tmps := a.tmps, defers := [] } := ⟨ha.size, ha.val, rfl⟩
        have h1 := rep_updL ps (enc x) f a.tmps (fun p hp => by simp only [List.all_eq_true] at hps; simpa using hps p hp) h0
        have e : ((rec .ready none).params.zip (enc x).toArray).foldl (fun tmps (q : Nat × Value) => tmps.setIfInBounds q.1 q.2) (rec .ready none).tmps = (ps.zip (enc x)).foldl (fun t (q : Nat × Value) => t.setIfInBounds q.1 q.2) a.tmps := by
          rw [hrec]
          rw [← Array.foldl_toList]
          simp
        have e' : ((rec .ready none).params.zip (enc x).toArray).foldl (fun tmps (t, a) => tmps.setIfInBounds t a) (rec .ready none).tmps = (ps.zip (enc x)).foldl (fun t (q : Nat × Value) => t.setIfInBounds q.1 q.2) a.tmps := e
        rw [e']; exact h1
      have hr := hround _ _ l D (.loop (rec .ready none)) V M' pre x hI hok hs _ hrep
      have hr' : (rec LoopState.ready none).assign = assign := by rw [hrec]
      have hb' : (rec LoopState.ready none).body = body := by rw [hrec]
      rw [hr', hb']
      refine wpIn_mono hr ?_
      rintro e a1 W2 ⟨f1, hf1, hq⟩
      cases e with
      | normal =>
        obtain ⟨Mx, hsx, hbody⟩ := hq
        have hbx : W2.heap[l]? = some (.loop (rec .ready none)) := hsx.get 0 rfl
        refine ⟨_, run_beginRound hbx (by rw [hrec]), ?_⟩
        have hs2 := hsx.setObj 0 rfl (.loop { rec .ready none with state := .busy })
        refine wpIn_mono (hbody _ _ hs2 a1 hf1) ?_
        -- the round's end
        have fin : ∀ (jump : Option Code) (W3 : World) (M3 : List Item), St V (packI (objI l (.loop (rec .ready none)) :: objI D (.deferred (some [])) :: M')).fp W3 (objI l (.loop { rec .ready none with state := .busy }) :: objI D (.deferred (some [])) :: M3) R →
            ∃ W4, (Instr.endRound l jump).run P W3 = .ok (.bool jump.isNone) W4 ∧ St V (packI (objI l (.loop (rec .ready none)) :: objI D (.deferred (some [])) :: M')).fp W4 (objI l (.loop (rec (if jump.isNone then .ready else .done) jump)) :: objI D (.deferred (some [])) :: M3) R := by
          intro jump W3 M3 h3
          have hb3 : W3.heap[l]? = some (.loop { rec .ready none with state := .busy }) := h3.get 0 rfl
          have hrun := run_endRound (P := P) jump hb3
          have hs4 := h3.setObj 0 rfl (.loop (rec (if jump.isNone then .ready else .done) jump))
          refine ⟨_, ?_, hs4⟩
          rw [hrec] at hrun ⊢
          exact hrun
        rintro e a3 W3 ⟨f3, hf3, hq3⟩
        cases e with
        | normal =>
          obtain ⟨M3, hs3, hI3⟩ := hq3
          obtain ⟨W4, hr4, hs4⟩ := fin none W3 M3 hs3
          exact ⟨_, W4, hr4, true, _, rfl, hs4.base, hs4.pack, hs4.fresh, .inl ⟨rfl, M3, hI3, rfl⟩⟩
        | ret =>
          obtain ⟨M3, hs3, hI3⟩ := hq3
          obtain ⟨W4, hr4, hs4⟩ := fin (some .ret) W3 M3 hs3
          exact ⟨_, W4, hr4, false, _, rfl, hs4.base, hs4.pack, hs4.fresh, .inr ⟨rfl, _, M3, hI3, rfl⟩⟩
        | exit id =>
          obtain ⟨M3, hs3, hI3⟩ := hq3
          obtain ⟨W4, hr4, hs4⟩ := fin (some (.exit id)) W3 M3 hs3
          exact ⟨_, W4, hr4, false, _, rfl, hs4.base, hs4.pack, hs4.fresh, .inr ⟨rfl, _, M3, hI3, rfl⟩⟩
        | goto t =>
          obtain ⟨M3, hs3, hI3⟩ := hq3
          obtain ⟨W4, hr4, hs4⟩ := fin (some (.goto t)) W3 M3 hs3
          exact ⟨_, W4, hr4, false, _, rfl, hs4.base, hs4.pack, hs4.fresh, .inr ⟨rfl, _, M3, hI3, rfl⟩⟩
        | _ => exact hq3.elim
      | _ => exact hq.elim
end
end Go.Vg
