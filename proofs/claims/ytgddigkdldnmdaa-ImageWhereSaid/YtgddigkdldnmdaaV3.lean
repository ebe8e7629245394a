/-
  Vg 3: a region that draws its order: one walk in the order of the text serves every order.
  Each operation eats tokens (items that it changes), reads tokens, and makes at most one; what it comes to is told by Φ.
-/
import Derived.Test.YtgddigkdldnmdaaV2
namespace Go.Vg
open Go Go.RowKit

def preds (o : Oper) : List Nat := (o.after.toList.filter (Region.binds .any)).map (·.on)
def ye (ops : Array Oper) (j : Nat) : Option Nat := (ops[j]?).bind (·.dst)
def xn (ops : Array Oper) (j : Nat) : List Nat := match ops[j]? with | some o => preds o | none => []
def ji (ops : Array Oper) : Nat → Nat → List Nat
  | 0, _ => []
  | k + 1, i => xn ops i ++ (xn ops i).flatMap (ji ops k)
abbrev Tab := Nat → Option (List Nat × (List Value → Item))
/-- Tokens: an operation's first; what is there ahead of the region; an operation's second. -/
def j2 (ops : Array Oper) (T : Tab) (M0 : List Item) (f : Fr) (t : Nat) : Option Item :=
  match Nat.blt t ops.size || Nat.ble (ops.size + M0.length) t with
  | true => (T t).map fun p => p.2 (p.1.map f)
  | false => M0[t - ops.size]?
/-- The operation that makes a token. -/
def xz (N K t : Nat) : Option Nat := if t < N then some t else if t < N + K then none else some (t - (N + K))
def usesΦ (ops : Array Oper) (Φ : Nat → Value → Prop) (f : Fr) : List Nat → Prop
  | [] => True
  | j :: l => (match ye ops j with | some d => Φ j (f d) | none => True) ∧ usesΦ ops Φ f l
def readsφ (ops : Array Oper) (T : Tab) (M0 : List Item) (f : Fr) (w : World) : List Nat → Prop
  | [] => True
  | t :: l => (match j2 ops T M0 f t with | some i => i.φ w | none => True) ∧ readsφ ops T M0 f w l
def Steps (F : Nat → Oper → Prop) : Nat → List Oper → Prop
  | _, [] => True
  | i, o :: l => F i o ∧ Steps F (i + 1) l
theorem Steps.get {F : Nat → Oper → Prop} : ∀ {l : List Oper} {k i : Nat} {o : Oper}, Steps F k l → l[i]? = some o → F (k + i) o
  | [], _, _, _, _, h => by simp at h
  | _ :: _, _, 0, _, hs, h => by simp at h; subst h; exact hs.1
  | _ :: l, k, i + 1, o, hs, h => by
    have := Steps.get (l := l) (k := k + 1) (i := i) hs.2 (by simpa using h)
    rwa [show k + 1 + i = k + (i + 1) from by omega] at this

structure Par where
  T : Tab
  M0 : List Item
  eats : Nat → List Nat
  reads : Nat → List Nat
  uses : Nat → List Nat
  fin : List Nat
  finUses : List Nat

/-- What is asked of the tables: closed, for the kernel. -/
def slotsOf (T : Tab) (t : Nat) : List Nat := match T t with | some p => p.1 | none => []
def aliveAll (ops : Array Oper) (eats : Nat → List Nat) (K : Nat) : List Nat :=
  (List.range (ops.size + K + ops.size)).filter fun t => !(List.range ops.size).any fun e => (eats e).contains t
def ahead (ops : Array Oper) (K i t : Nat) : Bool := Nat.blt t (ops.size + K + ops.size) && match xz ops.size K t with | some j => (ji ops ops.size i).contains j | none => true
def parOk (ops : Array Oper) (slots : Nat → List Nat) (eats reads uses : Nat → List Nat) (K : Nat) (fin finUses : List Nat) : Bool :=
  let rs := List.range ops.size
  (rs.all fun i => (xn ops i).all fun j => Nat.blt j i) &&
  (rs.all fun i => match ye ops i with | some d => rs.all fun j => Nat.beq i j || ye ops j != some d | none => true) &&
  (rs.all fun i => (slots i).all fun s => rs.all fun j => ye ops j != some s || Nat.beq i j || (ji ops ops.size i).contains j) &&
  (rs.all fun i => (slots (ops.size + K + i)).all fun s => rs.all fun j => ye ops j != some s || Nat.beq i j || (ji ops ops.size i).contains j) &&
  (rs.all fun i => (eats i).all fun t => ahead ops K i t && rs.all fun e => Nat.beq e i || !(eats e).contains t) &&
  (rs.all fun i => (eats i).eraseDups.length == (eats i).length) &&
  (rs.all fun i => (reads i).all fun t => ahead ops K i t && rs.all fun e => Nat.beq e i || !(eats e).contains t || (ji ops ops.size e).contains i) &&
  (rs.all fun i => (uses i).all fun j => (ji ops ops.size i).contains j) &&
  (fin.all fun t => (aliveAll ops eats K).contains t) && (aliveAll ops eats K).all (fun t => fin.contains t) && (fin.eraseDups.length == fin.length) &&
  (finUses.all fun j => Nat.blt j ops.size)

section
variable {r : Option Nat} {N : List Deferred} {P : Program} {n : Nat} {ops : Array Oper} {Q : Post}

theorem yielded_undef {f : Fr} {a : Act} (ha : Rep N n f a) {j : Nat} (hy : yl ops f j = undef) (b : Bool) : yielded ops a.tmps j ≠ some b := by
  unfold yl at hy
  unfold yielded
  cases hd : (ops[j]?).bind (·.dst) with
  | none => simp
  | some d =>
    rw [hd] at hy
    have hv := ha.val d
    simp only [Option.bind_some]
    simp only [Array.getD_eq_getD_getElem?] at hv
    have hy : f d = undef := hy
    rw [hy] at hv
    cases hx : a.tmps[d]? with
    | none => simp
    | some x => rw [hx] at hv; simp at hv; subst hv; simp [undef]
/-- An operation behind its guard. -/
def OG (r : Option Nat) (N : List Deferred) (P : Program) (ops : Array Oper) (o : Oper) (n : Nat) (f : Fr) (w : World) (K : Fr → World → Prop) (Q : Post) : Prop :=
  match o.guard with
  | none => O r N P o n f w K Q
  | some (j, b) => (∃ c, yl ops f j = .bool c ∧ (c = b → O r N P o n f w K Q) ∧ (c = !b → K (updo f o.dst undef) w)) ∨ (yl ops f j = undef ∧ K (updo f o.dst undef) w)

theorem wpOp_of_OG {i : Nat} {o : Oper} (ho : ops[i]? = some o) (hdn : ∀ d, o.dst = some d → d < n) {f : Fr} {w : World} {K : Fr → World → Prop} (h : OG r N P ops o n f w K Q) {a : Act} (ha : Rep N n f a) :
    wpOpIn (Fw r) 0 P ops (liftQ N n Q) i (fun a' w' => ∃ f', Rep N n f' a' ∧ K f' w') a w := by
  unfold wpOpIn
  rw [ho]
  simp only []
  unfold OG at h
  cases hg : o.guard with
  | none =>
    rw [hg] at h
    rw [if_pos (by simp [Region.wanted, hg])]
    exact h a ha
  | some p =>
    obtain ⟨j, b⟩ := p
    rw [hg] at h
    rcases h with ⟨c, hy, h1, h2⟩ | ⟨hy, h2⟩
    rotate_left
    · rw [if_neg (by simp [Region.wanted, hg]; exact yielded_undef ha hy b)]
      exact ⟨fun _ _ => trivial, _, ha.puto hdn undef, h2⟩
    have hyy := yielded_rep ha hy
    by_cases hc : c = b
    · subst hc
      rw [if_pos (by simp [Region.wanted, hg, hyy])]
      exact h1 rfl a ha
    · rw [if_neg (by simp [Region.wanted, hg, hyy, hc])]
      exact ⟨fun _ _ => trivial, _, ha.puto hdn undef, h2 (by cases c <;> cases b <;> simp_all)⟩

def madeT (N K : Nat) (listed : Array Bool) (t : Nat) : Prop := ∀ j, xz N K t = some j → listed.getD j false = true
instance {N K : Nat} {listed : Array Bool} {t : Nat} : Decidable (madeT N K listed t) :=
  match h : xz N K t with
  | none => .isTrue fun j hj => by rw [h] at hj; cases hj
  | some k => if hk : listed.getD k false = true then .isTrue fun j hj => by rw [h] at hj; cases hj; exact hk else .isFalse fun hm => hk (hm k h)
def alive (ops : Array Oper) (eats : Nat → List Nat) (K : Nat) (listed : Array Bool) : List Nat :=
  (List.range (ops.size + K + ops.size)).filter fun t => decide (madeT ops.size K listed t) && !(List.range ops.size).any fun e => listed.getD e false && (eats e).contains t
theorem yo {eats : Nat → List Nat} {K : Nat} {listed : Array Bool} {t : Nat} :
    t ∈ alive ops eats K listed ↔ t < ops.size + K + ops.size ∧ madeT ops.size K listed t ∧ ∀ e, e < ops.size → listed.getD e false = true → t ∉ eats e := by
  unfold alive
  simp only [List.mem_filter, List.mem_range, Bool.and_eq_true, decide_eq_true_eq, Bool.not_eq_true', List.any_eq_false, List.contains_iff_mem]
  constructor
  · rintro ⟨h1, h2, h3⟩
    exact ⟨h1, h2, fun e he hl hm => h3 e he ⟨hl, hm⟩⟩
  · rintro ⟨h1, h2, h3⟩
    exact ⟨h1, h2, fun e he ⟨hl, hm⟩ => h3 e he hl hm⟩
theorem alive_nodup {eats : Nat → List Nat} {K : Nat} {listed : Array Bool} : (alive ops eats K listed).Nodup := List.Pairwise.filter _ List.nodup_range

theorem perm_of_nodup {l l' : List Nat} (h : l.Nodup) (h' : l'.Nodup) (hm : ∀ a, a ∈ l ↔ a ∈ l') : l.Perm l' := by
  rw [List.perm_iff_count]
  intro a
  rw [h.count, h'.count]
  by_cases ha : a ∈ l
  · rw [if_pos ha, if_pos ((hm a).1 ha)]
  · rw [if_neg ha, if_neg fun hb => ha ((hm a).2 hb)]
theorem nodup_of_eraseDups {l : List Nat} (h : l.eraseDups.length = l.length) : l.Nodup := by
  have key : ∀ (k : Nat) (l : List Nat), l.length ≤ k → l.eraseDups.length ≤ l.length ∧ (l.eraseDups.length = l.length → l.Nodup) := by
    intro k
    induction k with
    | zero => intro l hl; cases l with
      | nil => simp
      | cons => simp at hl
    | succ k ih =>
      intro l hl
      cases l with
      | nil => simp
      | cons x l =>
        have hf : (l.filter fun b => !b == x).length ≤ l.length := List.length_filter_le _ _
        simp only [List.length_cons] at hl
        obtain ⟨h1, h2⟩ := ih (l.filter fun b => !b == x) (by omega)
        rw [List.eraseDups_cons]
        simp only [List.length_cons]
        refine ⟨by omega, fun he => ?_⟩
        have he2 : (l.filter fun b => !b == x).length = l.length := by omega
        have hall : ∀ b ∈ l, (!b == x) = true := List.filter_eq_self.1 (List.Sublist.eq_of_length List.filter_sublist he2)
        have hnd := h2 (by omega)
        rw [List.filter_eq_self.2 hall] at hnd
        refine List.nodup_cons.2 ⟨fun hx => ?_, hnd⟩
        have := hall x hx
        simp at this
  exact (key l.length l (Nat.le_refl _)).2 h

structure ParFacts (ops : Array Oper) (slots : Nat → List Nat) (eats reads uses : Nat → List Nat) (K : Nat) (fin finUses : List Nat) : Prop where
  p1 : ∀ i, i < ops.size → ∀ j ∈ xn ops i, j < i
  p2 : ∀ i j d, i < ops.size → j < ops.size → ye ops i = some d → ye ops j = some d → i = j
  p3 : ∀ i j s, i < ops.size → j < ops.size → s ∈ slots i → ye ops j = some s → i = j ∨ j ∈ ji ops ops.size i
  p3b : ∀ i j s, i < ops.size → j < ops.size → s ∈ slots (ops.size + K + i) → ye ops j = some s → i = j ∨ j ∈ ji ops ops.size i
  p4 : ∀ i t, i < ops.size → t ∈ eats i → (t < ops.size + K + ops.size ∧ ∀ j, xz ops.size K t = some j → j ∈ ji ops ops.size i) ∧ ∀ e, e < ops.size → t ∈ eats e → e = i
  p5 : ∀ i, i < ops.size → (eats i).Nodup
  p6 : ∀ i t, i < ops.size → t ∈ reads i → (t < ops.size + K + ops.size ∧ ∀ j, xz ops.size K t = some j → j ∈ ji ops ops.size i) ∧ ∀ e, e < ops.size → t ∈ eats e → e = i ∨ i ∈ ji ops ops.size e
  p7 : ∀ i j, i < ops.size → j ∈ uses i → j ∈ ji ops ops.size i
  p8 : (∀ t, t ∈ fin ↔ t ∈ aliveAll ops eats K) ∧ fin.Nodup
  p9 : ∀ j ∈ finUses, j < ops.size
theorem ahead_iff {K i t : Nat} (h : ahead ops K i t = true) : t < ops.size + K + ops.size ∧ ∀ j, xz ops.size K t = some j → j ∈ ji ops ops.size i := by
  unfold ahead at h
  simp only [Bool.and_eq_true, Nat.blt_eq] at h
  refine ⟨h.1, fun j hj => ?_⟩
  have h2 := h.2
  rw [hj] at h2
  exact List.contains_iff_mem.1 h2
theorem parFacts {slots : Nat → List Nat} {eats reads uses : Nat → List Nat} {K : Nat} {fin finUses : List Nat} (h : parOk ops slots eats reads uses K fin finUses = true) : ParFacts ops slots eats reads uses K fin finUses := by
  unfold parOk at h
  simp only [Bool.and_eq_true, List.all_eq_true, List.mem_range, Bool.or_eq_true, Nat.beq_eq, beq_iff_eq, bne_iff_ne, List.contains_iff_mem, Bool.not_eq_true', Nat.blt_eq] at h
  obtain ⟨⟨⟨⟨⟨⟨⟨⟨⟨⟨⟨h1, h2⟩, h3⟩, h3b⟩, h4⟩, h5⟩, h6⟩, h7⟩, h8a⟩, h8b⟩, h8c⟩, h9⟩ := h
  have nc : ∀ {t : Nat} {l : List Nat}, l.contains t = false → t ∈ l → False := fun hc hm => by
    have := List.contains_iff_mem.2 hm; rw [hc] at this; simp at this
  refine ⟨h1, fun i j d hi hj e1 e2 => ?_, fun i j s hi hj hs hd => ?_, fun i j s hi hj hs hd => ?_, fun i t hi ht => ?_, fun i hi => nodup_of_eraseDups (h5 i hi), fun i t hi ht => ?_, fun i j hi hj => h7 i hi j hj, ⟨fun t => ⟨h8a t, h8b t⟩, nodup_of_eraseDups h8c⟩, h9⟩
  · have := h2 i hi
    rw [e1] at this
    simp only [List.all_eq_true, List.mem_range, Bool.or_eq_true, Nat.beq_eq, bne_iff_ne] at this
    rcases this j hj with h | h
    · exact h
    · exact absurd e2 h
  · rcases h3 i hi s hs j hj with (h | h) | h
    · exact absurd hd h
    · exact .inl h
    · exact .inr h
  · rcases h3b i hi s hs j hj with (h | h) | h
    · exact absurd hd h
    · exact .inl h
    · exact .inr h
  · obtain ⟨a, b⟩ := h4 i hi t ht
    exact ⟨ahead_iff a, fun e he hte => (b e he).elim id fun hc => (nc hc hte).elim⟩
  · obtain ⟨a, b⟩ := h6 i hi t ht
    refine ⟨ahead_iff a, fun e he hte => ?_⟩
    rcases b e he with (h | h) | h
    · exact .inl h
    · exact (nc h hte).elim
    · exact .inr h

theorem mem_ready {listed : Array Bool} {i : Nat} : i ∈ Region.ready .any ops listed ↔ i < ops.size ∧ listed.getD i true = false ∧ ∀ j ∈ xn ops i, listed.getD j false = true := by
  unfold Region.ready
  simp only [List.mem_filter, List.mem_range, Bool.and_eq_true, Bool.not_eq_true']
  constructor
  · rintro ⟨h1, h2, h3⟩
    refine ⟨h1, h2, fun j hj => ?_⟩
    have ho : ops[i]? = some ops[i] := by simp [h1]
    rw [ho] at h3
    simp only [xn, ho, preds, List.mem_map, List.mem_filter] at hj
    obtain ⟨e, ⟨he, hb⟩, rfl⟩ := hj
    simp only [Option.map_some, Option.getD_some, Array.all_eq_true_iff_forall_mem] at h3
    have := h3 e (by simpa using he)
    simp [hb] at this
    simpa using this
  · rintro ⟨h1, h2, h3⟩
    refine ⟨h1, h2, ?_⟩
    have ho : ops[i]? = some ops[i] := by simp [h1]
    rw [ho]
    simp only [Option.map_some, Option.getD_some, Array.all_eq_true_iff_forall_mem]
    intro e he
    cases hb : Region.binds .any e with
    | false => simp
    | true =>
      have := h3 e.on (by simp only [xn, ho, preds, List.mem_map, List.mem_filter]; exact ⟨e, ⟨by simpa using he, hb⟩, rfl⟩)
      simp at this
      simp [this]

def unl (ops : Array Oper) (listed : Array Bool) : Nat := ((List.range ops.size).filter fun i => !listed.getD i true).length
theorem unl_set {listed : Array Bool} {i : Nat} (hs : listed.size = ops.size) (hi : i < ops.size) (hl : listed.getD i true = false) : unl ops (listed.setIfInBounds i true) + 1 = unl ops listed := by
  unfold unl
  have key : ∀ l : List Nat, l.Nodup → (∀ x ∈ l, x < ops.size) → i ∈ l → (l.filter fun j => !(listed.setIfInBounds i true).getD j true).length + 1 = (l.filter fun j => !listed.getD j true).length := by
    intro l
    have hne : ∀ j, j ≠ i → (listed.setIfInBounds i true).getD j true = listed.getD j true := fun j hj => by
      simp only [Array.getD_eq_getD_getElem?]; rw [Array.getElem?_setIfInBounds_ne (fun h => hj h.symm)]
    have hsame : (listed.setIfInBounds i true).getD i true = true := by
      simp only [Array.getD_eq_getD_getElem?]; rw [Array.getElem?_setIfInBounds_self_of_lt (by omega)]; rfl
    induction l with
    | nil => intro _ _ h; simp at h
    | cons x l ih =>
      intro hnd hx hm
      rw [List.nodup_cons] at hnd
      rcases List.mem_cons.1 hm with rfl | hm
      · rw [List.filter_cons, List.filter_cons, hsame, hl]
        have : l.filter (fun j => !(listed.setIfInBounds i true).getD j true) = l.filter (fun j => !listed.getD j true) :=
          List.filter_congr fun j hj => by rw [hne j (fun e => hnd.1 (e ▸ hj))]
        simp only [Bool.not_true, Bool.not_false, if_true, List.length_cons]
        simp only [Bool.false_eq_true, if_false]
        rw [this]
      · have hxi : x ≠ i := fun e => hnd.1 (e ▸ hm)
        have := ih hnd.2 (fun y hy => hx y (by simp [hy])) hm
        rw [List.filter_cons, List.filter_cons, hne x hxi]
        split
        · simp only [List.length_cons]; omega
        · exact this
  exact key _ List.nodup_range (fun x hx => by simpa using hx) (by simpa using hi)

structure PInv (ops : Array Oper) (T : Tab) (M0 : List Item) (eats : Nat → List Nat) (Φ : Nat → Value → Prop) (f0 : Fr) (w00 : World) (S : Nat → Prop) (R : List Item) (listed : Array Bool) (f : Fr) (w : World) : Prop where
  sz : listed.size = ops.size
  fr : ∀ s, (∀ j, j < ops.size → ye ops j = some s → listed.getD j false = false) → f s = f0 s
  cl : ∀ i, i < ops.size → listed.getD i false = true → ∀ j ∈ xn ops i, listed.getD j false = true
  ph : ∀ i, i < ops.size → listed.getD i false = true → ∀ d, ye ops i = some d → Φ i (f d)
  st : ∃ X, X.Perm ((alive ops eats M0.length listed).filterMap (j2 ops T M0 f)) ∧ St w00 S w X R

theorem getD_dflt {l : Array Bool} {i : Nat} (h : i < l.size) (a b : Bool) : l.getD i a = l.getD i b := by
  simp [Array.getD_eq_getD_getElem?, h]
theorem closure_lt (h1 : ∀ i, i < ops.size → ∀ j ∈ xn ops i, j < i) : ∀ (k i j : Nat), i < ops.size → j ∈ ji ops k i → j < i
  | 0, i, j, _, hj => by simp [ji] at hj
  | k + 1, i, j, hi, hj => by
    simp only [ji, List.mem_append, List.mem_flatMap] at hj
    rcases hj with hj | ⟨x, hx, hj⟩
    · exact h1 i hi j hj
    · have := h1 i hi x hx
      have := closure_lt h1 k x j (by omega) hj
      omega
theorem xq {listed : Array Bool} (h1 : ∀ i, i < ops.size → ∀ j ∈ xn ops i, j < i) (cl : ∀ i, i < ops.size → listed.getD i false = true → ∀ j ∈ xn ops i, listed.getD j false = true) :
    ∀ (k i j : Nat), i < ops.size → (∀ x ∈ xn ops i, listed.getD x false = true) → j ∈ ji ops k i → j < ops.size ∧ listed.getD j false = true := by
  intro k
  induction k with
  | zero => intro i j _ _ hj; simp [ji] at hj
  | succ k ih =>
    intro i j hi hp hj
    simp only [ji, List.mem_append, List.mem_flatMap] at hj
    rcases hj with hj | ⟨x, hx, hj⟩
    · exact ⟨by have := h1 i hi j hj; omega, hp j hj⟩
    · have hxi := h1 i hi x hx
      exact ih x j (by omega) (cl x (by omega) (hp x hx)) hj
theorem filterMap_congr' {g h : Nat → Option Item} : ∀ {l : List Nat}, (∀ x ∈ l, g x = h x) → l.filterMap g = l.filterMap h
  | [], _ => rfl
  | x :: l, e => by rw [List.filterMap_cons, List.filterMap_cons, e x (by simp), filterMap_congr' fun y hy => e y (by simp [hy])]
theorem filterMap_range' {g : Nat → Option Item} : ∀ (M0 : List Item) (a : Nat), (∀ k, k < M0.length → g (a + k) = M0[k]?) → (List.range' a M0.length).filterMap g = M0
  | [], _, _ => rfl
  | x :: M0, a, h => by
    have h0 := h 0 (by simp)
    simp only [List.length_cons, List.range'_succ]
    rw [List.filterMap_cons_some (by rw [← Nat.add_zero a]; rw [h0]; rfl)]
    rw [filterMap_range' M0 (a + 1) (fun k hk => by have := h (k + 1) (by simpa using hk); rw [show a + 1 + k = a + (k + 1) from by omega, this]; simp)]

theorem usesΦ_of {Φ : Nat → Value → Prop} {f : Fr} : ∀ (l : List Nat), (∀ j ∈ l, ∀ d, ye ops j = some d → Φ j (f d)) → usesΦ ops Φ f l
  | [], _ => trivial
  | j :: l, h => ⟨by
      cases hd : ye ops j with
      | none => trivial
      | some d => exact h j (by simp) d hd, usesΦ_of l fun x hx => h x (by simp [hx])⟩
theorem readsφ_of {T : Tab} {M0 : List Item} {f : Fr} {w : World} : ∀ (l : List Nat), (∀ t ∈ l, ∀ i, j2 ops T M0 f t = some i → i.φ w) → readsφ ops T M0 f w l
  | [], _ => trivial
  | t :: l, h => ⟨by
      cases hd : j2 ops T M0 f t with
      | none => trivial
      | some i => exact h t (by simp) i hd, readsφ_of l fun x hx => h x (by simp [hx])⟩

theorem frame_of {f f0 : Fr} (h : ∀ s, (∀ j, j < ops.size → ye ops j ≠ some s) → f s = f0 s) : ∀ s, (ops.toList.filterMap (·.dst)).contains s = false → f s = f0 s := by
  intro s hs
  refine h s fun j hj e => ?_
  have hm : s ∈ ops.toList.filterMap (·.dst) := by
    refine List.mem_filterMap.2 ⟨ops[j], by simp, ?_⟩
    simpa [ye, hj] using e
  rw [List.contains_iff_mem.2 hm] at hs
  simp at hs
/-- What stood in a slot ahead of the region, and is there yet. -/
def frOk (ops : Array Oper) (i s : Nat) : Bool :=
  !(ops.toList.filterMap (·.dst)).contains s || (List.range ops.size).all fun j => ye ops j != some s || (ji ops ops.size j).contains i
theorem frame_at {listed : Array Bool} {f f0 : Fr} {i : Nat} (h1 : ∀ i, i < ops.size → ∀ j ∈ xn ops i, j < i) (cl : ∀ i, i < ops.size → listed.getD i false = true → ∀ j ∈ xn ops i, listed.getD j false = true)
    (hn : listed.getD i false = false) (h : ∀ s, (∀ j, j < ops.size → ye ops j = some s → listed.getD j false = false) → f s = f0 s) : ∀ s, frOk ops i s = true → f s = f0 s := by
  intro s hs
  refine h s fun j hj e => ?_
  unfold frOk at hs
  simp only [Bool.or_eq_true, Bool.not_eq_true', List.all_eq_true, List.mem_range, bne_iff_ne] at hs
  rcases hs with hs | hs
  · have hm : s ∈ ops.toList.filterMap (·.dst) := by
      refine List.mem_filterMap.2 ⟨ops[j], by simp, ?_⟩
      simpa [ye, hj] using e
    rw [List.contains_iff_mem.2 hm] at hs
    simp at hs
  · rcases hs j hj with hs | hs
    · exact absurd e hs
    · cases hl : listed.getD j false with
      | false => rfl
      | true =>
        have := (xq h1 cl ops.size j i hj (cl j hj hl) (List.contains_iff_mem.1 hs)).2
        rw [hn] at this; simp at this
theorem tokOp_first {N K i : Nat} (h : i < N) : xz N K i = some i := by unfold xz; rw [if_pos h]
theorem tokOp_second {N K i : Nat} : xz N K (N + K + i) = some i := by
  unfold xz
  rw [if_neg (by omega), if_neg (by omega)]
  congr 1; omega
theorem tokOp_lt {N K t j : Nat} (h : xz N K t = some j) (ht : t < N + K + N) : j < N := by
  unfold xz at h
  split at h
  · cases h; assumption
  · split at h
    · cases h
    · cases h; omega
theorem tokOp_inj {N K t i : Nat} (h : xz N K t = some i) : t = i ∧ t < N ∨ t = N + K + i := by
  unfold xz at h
  split at h
  · cases h; exact .inl ⟨rfl, by assumption⟩
  · split at h
    · cases h
    · cases h; right; omega
theorem made_ahead {listed : Array Bool} {K i t : Nat} (h1 : ∀ i, i < ops.size → ∀ j ∈ xn ops i, j < i) (cl : ∀ i, i < ops.size → listed.getD i false = true → ∀ j ∈ xn ops i, listed.getD j false = true)
    (hi : i < ops.size) (hp : ∀ x ∈ xn ops i, listed.getD x false = true) (h : ∀ j, xz ops.size K t = some j → j ∈ ji ops ops.size i) : madeT ops.size K listed t :=
  fun j hj => (xq h1 cl ops.size i j hi hp (h j hj)).2
/-- What one operation owes. -/
def Step1 (r : Option Nat) (N : List Deferred) (P : Program) (ops : Array Oper) (n : Nat) (Q : Post) (p : Par) (Φ : Nat → Value → Prop) (f0 : Fr) (w00 : World) (S : Nat → Prop) (R : List Item) (i : Nat) (o : Oper) : Prop :=
  ∀ f w X, (∀ s, frOk ops i s = true → f s = f0 s) → usesΦ ops Φ f (p.uses i) → readsφ ops p.T p.M0 f w (p.reads i) →
    St w00 S w ((p.eats i).filterMap (j2 ops p.T p.M0 f) ++ X) R →
    OG r N P ops o n f w (fun f' w' => ∃ v, f' = updo f o.dst v ∧ Φ i v ∧ St w00 S w' ((j2 ops p.T p.M0 f' i).toList ++ ((j2 ops p.T p.M0 f' (ops.size + p.M0.length + i)).toList ++ X)) R) Q

theorem par_main {slots : Nat → List Nat} {p : Par} {Φ : Nat → Value → Prop} {f0 : Fr} {w00 : World} {S : Nat → Prop} {R : List Item}
    (hF : ParFacts ops slots p.eats p.reads p.uses p.M0.length p.fin p.finUses) (hsl : ∀ i, slots i = slotsOf p.T i) (hdn : ∀ i d, ye ops i = some d → d < n) (hsize : ∀ i o, ops[i]? = some o → Step1 r N P ops n Q p Φ f0 w00 S R i o)
    (hdone : ∀ f w, (∀ s, (ops.toList.filterMap (·.dst)).contains s = false → f s = f0 s) → usesΦ ops Φ f p.finUses → St w00 S w (p.fin.filterMap (j2 ops p.T p.M0 f)) R → Q .normal f w) :
    ∀ (fuel : Nat) (listed : Array Bool) (f : Fr) (w : World) (a : Act), unl ops listed ≤ fuel → PInv ops p.T p.M0 p.eats Φ f0 w00 S R listed f w → Rep N n f a → wpAnyIn (Fw r) 0 P .any ops (liftQ N n Q) fuel listed a w := by
  -- nothing is ready: all is done
  have hend : ∀ (listed : Array Bool) (f : Fr) (w : World) (a : Act), Region.ready .any ops listed = [] → PInv ops p.T p.M0 p.eats Φ f0 w00 S R listed f w → Rep N n f a → liftQ N n Q .normal a w := by
    intro listed f w a hr hI ha
    have hall : ∀ i, i < ops.size → listed.getD i false = true := by
      intro i
      induction i using Nat.strongRecOn with
      | _ i ih =>
        intro hi
        cases hl : listed.getD i false with
        | true => rfl
        | false =>
          have : i ∈ Region.ready .any ops listed := mem_ready.2 ⟨hi, by rw [getD_dflt (by rw [hI.sz]; exact hi) true false]; exact hl, fun j hj => by have := hF.p1 i hi j hj; exact ih j this (by omega)⟩
          rw [hr] at this
          simp at this
    refine ⟨f, ha, hdone f w (frame_of fun s hs => hI.fr s fun j hj e => absurd e (hs j hj)) (usesΦ_of _ fun j hj d hd => hI.ph j (hF.p9 j hj) (hall j (hF.p9 j hj)) d hd) ?_⟩
    obtain ⟨X, hX, qk⟩ := hI.st
    have hp : (alive ops p.eats p.M0.length listed).Perm p.fin := by
      refine perm_of_nodup alive_nodup hF.p8.2 fun t => ?_
      rw [yo, hF.p8.1]
      unfold aliveAll
      simp only [List.mem_filter, List.mem_range, Bool.not_eq_true', List.any_eq_false, List.contains_iff_mem]
      constructor
      · rintro ⟨h1, _, h3⟩; exact ⟨h1, fun e he => h3 e he (hall e he)⟩
      · rintro ⟨h1, h3⟩; exact ⟨h1, fun j hj => hall j (tokOp_lt hj h1), fun e he _ => h3 e he⟩
    exact qk.perm (hX.trans (hp.filterMap _))
  intro fuel
  induction fuel with
  | zero =>
    intro listed f w a hu hI ha
    have hr : Region.ready .any ops listed = [] := by
      refine List.eq_nil_iff_forall_not_mem.2 fun i hi => ?_
      obtain ⟨h1, h2, _⟩ := mem_ready.1 hi
      have := unl_set hI.sz h1 h2
      omega
    exact ⟨hr, hend listed f w a hr hI ha⟩
  | succ fuel ih =>
    intro listed f w a hu hI ha
    refine ⟨fun hr => hend listed f w a hr hI ha, fun i hi => ?_⟩
    obtain ⟨h1, h2, h3⟩ := mem_ready.1 hi
    have ho : ops[i]? = some ops[i] := by simp [h1]
    have hnl : listed.getD i false = false := by rw [getD_dflt (by rw [hI.sz]; exact h1) false true]; exact h2
    obtain ⟨X, hX, qk⟩ := hI.st
    -- the tokens: those that are eaten, and the rest
    let al := alive ops p.eats p.M0.length listed
    let rest := al.filter fun t => !(p.eats i).contains t
    have hmr : ∀ t, t ∈ rest ↔ t ∈ al ∧ t ∉ p.eats i := fun t => by
      simp only [rest, List.mem_filter, Bool.not_eq_true']
      constructor
      · rintro ⟨h, k⟩; exact ⟨h, fun hm => by rw [List.contains_iff_mem.2 hm] at k; simp at k⟩
      · rintro ⟨h, k⟩
        refine ⟨h, ?_⟩
        cases hc : (p.eats i).contains t with
        | false => rfl
        | true => exact absurd (List.contains_iff_mem.1 hc) k
    have heat : ∀ t ∈ p.eats i, t ∈ al := fun t ht => by
      obtain ⟨ha1, ha2⟩ := hF.p4 i t h1 ht
      refine yo.2 ⟨ha1.1, made_ahead hF.p1 hI.cl h1 h3 ha1.2, fun e he hl hte => ?_⟩
      · have := ha2 e he hte; subst this; rw [hnl] at hl; simp at hl
    have hperm : al.Perm (p.eats i ++ rest) := by
      refine perm_of_nodup alive_nodup (List.nodup_append.2 ⟨hF.p5 i h1, List.Pairwise.filter _ alive_nodup, fun x hx y hy e => by subst e; exact ((hmr x).1 hy).2 hx⟩) fun t => ?_
      rw [List.mem_append, hmr]
      by_cases ht : t ∈ p.eats i
      · simp [ht, heat t ht]
      · simp [ht]
    have hX2 : X.Perm ((p.eats i).filterMap (j2 ops p.T p.M0 f) ++ rest.filterMap (j2 ops p.T p.M0 f)) := by
      rw [← List.filterMap_append]; exact hX.trans (hperm.filterMap _)
    have hst2 := qk.perm hX2
    have huse : usesΦ ops Φ f (p.uses i) := usesΦ_of _ fun j hj d hd => by
      obtain ⟨hj1, hj2⟩ := xq hF.p1 hI.cl ops.size i j h1 h3 (hF.p7 i j h1 hj)
      exact hI.ph j hj1 hj2 d hd
    have hread : readsφ ops p.T p.M0 f w (p.reads i) := readsφ_of _ fun t ht it hit => by
      obtain ⟨ha1, ha2⟩ := hF.p6 i t h1 ht
      have hal : t ∈ al := by
        refine yo.2 ⟨ha1.1, made_ahead hF.p1 hI.cl h1 h3 ha1.2, fun e he hl hte => ?_⟩
        · rcases ha2 e he hte with rfl | hc
          · rw [hnl] at hl; simp at hl
          · have := (xq hF.p1 hI.cl ops.size e i he (hI.cl e he hl) hc).2
            rw [hnl] at this; simp at this
      exact qk.m it (hX.mem_iff.2 (List.mem_filterMap.2 ⟨t, hal, hit⟩))
    have hstep := hsize i _ ho f w _ (frame_at hF.p1 hI.cl hnl hI.fr) huse hread hst2
    refine wpOpIn_mono ?_ (wpOp_of_OG ho (fun d hd => hdn i d (by simp [ye, ho, hd])) hstep ha)
    rintro a' w' ⟨f', hf', v, hfe, hΦ, hst'⟩
    refine ih (listed.setIfInBounds i true) f' w' a' (by have := unl_set hI.sz h1 h2; omega) ?_ hf'
    have hsame : (listed.setIfInBounds i true).getD i false = true := by
      simp only [Array.getD_eq_getD_getElem?]; rw [Array.getElem?_setIfInBounds_self_of_lt (by rw [hI.sz]; exact h1)]; rfl
    have hne : ∀ j, j ≠ i → (listed.setIfInBounds i true).getD j false = listed.getD j false := fun j hj => by
      simp only [Array.getD_eq_getD_getElem?]; rw [Array.getElem?_setIfInBounds_ne (fun h => hj h.symm)]
    have hdi : ye ops i = ops[i].dst := by simp [ye, ho]
    have hfs : ∀ s, ye ops i ≠ some s → f' s = f s := fun s hs => by
      rw [hfe]
      rw [hdi] at hs
      cases hd : ops[i].dst with
      | none => rfl
      | some d => rw [hd] at hs; exact upd_ne _ _ (fun e => hs (e ▸ rfl))
    refine ⟨by simp [hI.sz], fun s hs => ?_, fun j hj hl x hx => ?_, fun j hj hl d hd => ?_, ?_⟩
    · rw [hfs s fun e => by have := hs i h1 e; rw [hsame] at this; simp at this]
      refine hI.fr s fun j hj e => ?_
      have h7 := hs j hj e
      by_cases hji : j = i
      · rw [hji]; exact hnl
      · rwa [hne j hji] at h7
    · by_cases hji : j = i
      · subst hji
        have := hF.p1 j hj x hx
        rw [hne x (by omega)]; exact h3 x hx
      · rw [hne j hji] at hl
        by_cases hxi : x = i
        · subst hxi; exact hsame
        · rw [hne x hxi]; exact hI.cl j hj hl x hx
    · by_cases hji : j = i
      · subst hji
        rw [hfe]
        rw [hdi] at hd
        rw [hd]
        show Φ j (upd f d v d)
        rw [upd_same]; exact hΦ
      · rw [hne j hji] at hl
        rw [hfs d (fun e => hji (hF.p2 j i d hj h1 hd e))]
        exact hI.ph j hj hl d hd
    · refine ⟨_, ?_, hst'⟩
      -- the tokens behind it
      have hnm : ¬ madeT ops.size p.M0.length listed i := fun hm => by have := hm i (tokOp_first h1); rw [hnl] at this; simp at this
      have hnm2 : ¬ madeT ops.size p.M0.length listed (ops.size + p.M0.length + i) := fun hm => by have := hm i tokOp_second; rw [hnl] at this; simp at this
      have hset : ∀ t, madeT ops.size p.M0.length (listed.setIfInBounds i true) t → xz ops.size p.M0.length t ≠ some i → madeT ops.size p.M0.length listed t := fun t hm hne' j hj => by
        have := hm j hj
        rwa [hne j (fun e => hne' (e ▸ hj))] at this
      have hset2 : ∀ t, madeT ops.size p.M0.length listed t → madeT ops.size p.M0.length (listed.setIfInBounds i true) t := fun t hm j hj => by
        by_cases hji : j = i
        · subst hji; exact hsame
        · rw [hne j hji]; exact hm j hj
      have hset3 : ∀ t, xz ops.size p.M0.length t = some i → madeT ops.size p.M0.length (listed.setIfInBounds i true) t := fun t ht j hj => by
        rw [ht] at hj; cases hj; exact hsame
      have hfresh : ∀ t, xz ops.size p.M0.length t = some i → ∀ e, e < ops.size → (listed.setIfInBounds i true).getD e false = true → t ∉ p.eats e := fun t ht e he hl hte => by
        obtain ⟨hq, _⟩ := hF.p4 e t he hte
        have hc := hq.2 i ht
        by_cases hei : e = i
        · subst hei
          have := closure_lt hF.p1 ops.size e e he hc; omega
        · rw [hne e hei] at hl
          have := (xq hF.p1 hI.cl ops.size e i he (hI.cl e he hl) hc).2
          rw [hnl] at this; simp at this
      have hnew : (alive ops p.eats p.M0.length (listed.setIfInBounds i true)).Perm (i :: (ops.size + p.M0.length + i) :: rest) := by
        refine perm_of_nodup alive_nodup (List.nodup_cons.2 ⟨fun hm => ?_, List.nodup_cons.2 ⟨fun hm => ?_, List.Pairwise.filter _ alive_nodup⟩⟩) fun t => ?_
        · rcases List.mem_cons.1 hm with e | hm
          · omega
          · exact hnm (yo.1 ((hmr i).1 hm).1).2.1
        · exact hnm2 (yo.1 ((hmr _).1 hm).1).2.1
        · rw [List.mem_cons, List.mem_cons, hmr, yo, show (t ∈ al ↔ _) from yo]
          constructor
          · rintro ⟨g1, g2, g3⟩
            by_cases hto : xz ops.size p.M0.length t = some i
            · rcases tokOp_inj hto with h | h
              · exact .inl h.1
              · exact .inr (.inl h)
            · refine .inr (.inr ⟨⟨g1, hset t g2 hto, fun e he hl hte => ?_⟩, fun hm => g3 i h1 hsame hm⟩)
              exact g3 e he (by
                by_cases hei : e = i
                · subst hei; exact hsame
                · rw [hne e hei]; exact hl) hte
          · rintro (rfl | rfl | ⟨⟨g1, g2, g3⟩, g4⟩)
            · exact ⟨by omega, hset3 _ (tokOp_first h1), hfresh _ (tokOp_first h1)⟩
            · exact ⟨by omega, hset3 _ tokOp_second, hfresh _ tokOp_second⟩
            · refine ⟨g1, hset2 t g2, fun e he hl hte => ?_⟩
              by_cases hei : e = i
              · subst hei; exact g4 hte
              · rw [hne e hei] at hl; exact g3 e he hl hte
      have hitem : rest.filterMap (j2 ops p.T p.M0 f) = rest.filterMap (j2 ops p.T p.M0 f') := by
        refine filterMap_congr' fun t ht => ?_
        obtain ⟨g1, g2, _⟩ := yo.1 ((hmr t).1 ht).1
        unfold j2
        cases hb : (Nat.blt t ops.size || Nat.ble (ops.size + p.M0.length) t) with
        | false => rfl
        | true =>
          obtain ⟨k, hk⟩ : ∃ k, xz ops.size p.M0.length t = some k := by
            simp only [Bool.or_eq_true, Nat.blt_eq, Nat.ble_eq] at hb
            unfold xz
            rcases hb with hb | hb
            · exact ⟨t, by rw [if_pos hb]⟩
            · exact ⟨_, by rw [if_neg (by omega), if_neg (by omega)]⟩
          have hkl := g2 k hk
          have hkn := tokOp_lt hk g1
          have hki : k ≠ i := fun e => by subst e; rw [hnl] at hkl; simp at hkl
          cases hT : p.T t with
          | none => rfl
          | some q =>
            simp only [Option.map_some]
            refine congrArg (fun z => some (q.2 z)) (List.map_congr_left fun s hs => ?_)
            refine (hfs s fun hd => ?_).symm
            have hs' : s ∈ slots t := by rw [hsl]; simp [slotsOf, hT, hs]
            have hcl : k = i ∨ i ∈ ji ops ops.size k := by
              rcases tokOp_inj hk with ⟨e, _⟩ | e
              · rw [e] at hs'; exact hF.p3 k i s hkn h1 hs' hd
              · rw [e] at hs'; exact hF.p3b k i s hkn h1 hs' hd
            rcases hcl with e | hp
            · exact hki e
            · have := (xq hF.p1 hI.cl ops.size k i hkn (hI.cl k hkn hkl) hp).2
              rw [hnl] at this; simp at this
      rw [hitem]
      have h5 : ((j2 ops p.T p.M0 f' i).toList ++ ((j2 ops p.T p.M0 f' (ops.size + p.M0.length + i)).toList ++ rest.filterMap (j2 ops p.T p.M0 f'))) = (i :: (ops.size + p.M0.length + i) :: rest).filterMap (j2 ops p.T p.M0 f') := by
        rw [List.filterMap_cons, List.filterMap_cons]
        cases j2 ops p.T p.M0 f' i <;> cases j2 ops p.T p.M0 f' (ops.size + p.M0.length + i) <;> rfl
      rw [h5]
      exact (hnew.filterMap _).symm

/-- A region that draws its order, by one walk in the order of the text. -/
theorem W_par {id : Nat} {l : List Oper} {f0 : Fr} {w0 w00 : World} {S : Nat → Prop} {R : List Item} (hm : P.follows .mixedOrders = true) (p : Par) (Φ : Nat → Value → Prop) (slots : Nat → List Nat)
    (qk : St w00 S w0 p.M0 R) (hsl : ∀ i, slots i = slotsOf p.T i) (hok : parOk l.toArray slots p.eats p.reads p.uses p.M0.length p.fin p.finUses = true) (hdn : (l.all fun o => match o.dst with | some d => Nat.blt d n | none => true) = true)
    (hsteps : Steps (Step1 r N P l.toArray n Q p Φ f0 w00 S R) 0 l)
    (hdone : ∀ f w, (∀ s, (l.filterMap (·.dst)).contains s = false → f s = f0 s) → usesΦ l.toArray Φ f p.finUses → St w00 S w (p.fin.filterMap (j2 l.toArray p.T p.M0 f)) R → Q .normal f w) :
    W r N P (.region id l.toArray true) n Q f0 w0 := by
  intro a ha
  refine wpIn_region_any hm ?_
  refine par_main (slots := slots) (f0 := f0) (w00 := w00) (parFacts hok) hsl (fun i d hd => ?_) (fun i o ho => ?_) (by simpa using hdone) _ _ f0 _ a ?_ ?_ ha
  · simp only [List.all_eq_true] at hdn
    simp only [ye] at hd
    cases ho : l.toArray[i]? with
    | none => rw [ho] at hd; simp at hd
    | some o =>
      rw [ho] at hd
      have hmem : o ∈ l := List.mem_of_getElem? (by simpa using ho)
      have := hdn o hmem
      have hd' : o.dst = some d := hd
      rw [hd'] at this
      simpa using this
  · have := Steps.get hsteps (i := i) (o := o) (by simpa using ho)
    simpa using this
  · unfold unl
    exact Nat.le_trans (List.length_filter_le _ _) (by simp)
  · refine ⟨by simp, fun _ _ => rfl, fun i hi hl => ?_, fun i hi hl => ?_, ?_⟩
    · simp [Array.getD_eq_getD_getElem?, Array.getElem?_replicate] at hl
      split at hl <;> simp at hl
    · simp [Array.getD_eq_getD_getElem?, Array.getElem?_replicate] at hl
      split at hl <;> simp at hl
    · refine ⟨p.M0, ?_, qk.drawn _⟩
      have h1 : (alive l.toArray p.eats p.M0.length (Array.replicate l.toArray.size false)).Perm (List.range' l.toArray.size p.M0.length) := by
        refine perm_of_nodup alive_nodup List.nodup_range' fun t => ?_
        rw [yo, List.mem_range'_1]
        have hf : ∀ e, (Array.replicate l.toArray.size false).getD e false = false := fun e => by
          simp only [Array.getD_eq_getD_getElem?, Array.getElem?_replicate]; split <;> rfl
        simp only [hf]
        constructor
        · rintro ⟨h1, h2, _⟩
          have hn : xz l.toArray.size p.M0.length t = none := by
            cases hk : xz l.toArray.size p.M0.length t with
            | none => rfl
            | some j => have := h2 j hk; rw [hf j] at this; simp at this
          unfold xz at hn
          split at hn
          · cases hn
          · split at hn
            · omega
            · cases hn
        · rintro ⟨h1, h2⟩
          have hn : xz l.toArray.size p.M0.length t = none := by
            unfold xz
            rw [if_neg (by omega), if_pos h2]
          have hm : madeT l.toArray.size p.M0.length (Array.replicate l.toArray.size false) t := fun j hj => by rw [hn] at hj; cases hj
          exact ⟨by omega, hm, fun _ _ h => by simp at h⟩
      have h2 := h1.filterMap (j2 l.toArray p.T p.M0 f0)
      rw [filterMap_range' p.M0 l.toArray.size (fun k hk => by
        unfold j2
        have : (Nat.blt (l.toArray.size + k) l.toArray.size || Nat.ble (l.toArray.size + p.M0.length) (l.toArray.size + k)) = false := by
          rw [Bool.or_eq_false_iff]
          constructor
          · cases hb : Nat.blt (l.toArray.size + k) l.toArray.size with
            | false => rfl
            | true => have : l.toArray.size + k < l.toArray.size := by simpa using hb
                      omega
          · cases hb : Nat.ble (l.toArray.size + p.M0.length) (l.toArray.size + k) with
            | false => rfl
            | true => have : l.toArray.size + p.M0.length ≤ l.toArray.size + k := Nat.le_of_ble_eq_true hb
                      omega
        rw [this]
        simp)] at h2
      exact h2.symm

theorem qe {o : Oper} {f : Fr} {w : World} {K : Fr → World → Prop} (hg : o.guard = none) (h : O r N P o n f w K Q) : OG r N P ops o n f w K Q := by
  unfold OG; rw [hg]; exact h
theorem ze {o : Oper} {f : Fr} {w : World} {K : Fr → World → Prop} {j : Nat} {b c : Bool} (hg : o.guard = some (j, b)) (hy : yl ops f j = .bool c) (h : c = b → O r N P o n f w K Q) (k : c = !b → K (updo f o.dst undef) w) : OG r N P ops o n f w K Q := by
  unfold OG; rw [hg]; exact .inl ⟨c, hy, h, k⟩
theorem og_undef {o : Oper} {f : Fr} {w : World} {K : Fr → World → Prop} {j : Nat} {b : Bool} (hg : o.guard = some (j, b)) (hy : yl ops f j = undef) (h : K (updo f o.dst undef) w) : OG r N P ops o n f w K Q := by
  unfold OG; rw [hg]; exact .inr ⟨hy, h⟩
theorem jc {id : Nat} {l : List Oper} {f0 : Fr} {w0 w00 : World} {S : Nat → Prop} {R M : List Item} (hm : P.follows .mixedOrders = true) (qk : St w00 S w0 M R) (T : Tab) (eats reads uses : Nat → List Nat) (fin finUses : List Nat) (Φ : Nat → Value → Prop)
    (hok : parOk l.toArray (slotsOf T) eats reads uses M.length fin finUses = true) (hdn : (l.all fun o => match o.dst with | some d => Nat.blt d n | none => true) = true)
    (hsteps : Steps (Step1 r N P l.toArray n Q ⟨T, M, eats, reads, uses, fin, finUses⟩ Φ f0 w00 S R) 0 l)
    (hdone : ∀ f w, (∀ s, (l.filterMap (·.dst)).contains s = false → f s = f0 s) → usesΦ l.toArray Φ f finUses → St w00 S w (fin.filterMap (j2 l.toArray T M f)) R → Q .normal f w) :
    W r N P (.region id l.toArray true) n Q f0 w0 :=
  W_par hm ⟨T, M, eats, reads, uses, fin, finUses⟩ Φ (slotsOf T) qk (fun _ => rfl) hok hdn hsteps hdone
end
def vblk : Value → Nat
  | .pointer (some a) => a.block
  | .slice (some a) _ _ => a.block
  | _ => 0
end Go.Vg
