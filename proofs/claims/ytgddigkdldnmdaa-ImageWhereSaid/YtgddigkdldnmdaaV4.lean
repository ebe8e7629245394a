/-
  Vg 4: slices of one's own: made, appended to, read; what a slice's elements are.
-/
import Derived.Test.YtgddigkdldnmdaaV3
import Derived.Laws.Append
import Derived.Laws.RangeString
namespace Go.Vg
open Go Go.RowKit

/-- A slice value and the row that it owns: n elements of m cells, and room for cap. -/
def ownI (E : TypeId) (m : Nat) (a : Option Addr) (cap n : Nat) (xs : List Value) : Item :=
  ⟨fun x => ∃ o, a = some ⟨x, o, none⟩,
    fun w => xs.length = n * m ∧ n ≤ cap ∧ ((a = none ∧ cap = 0) ∨ ∃ b sp, a = some ⟨b, 0, none⟩ ∧ w.heap[b]? = some (.cells (xs ++ sp).toArray E (0, 0)) ∧ (xs ++ sp).length = cap * m ∧ cap ≤ maxLen),
    fun w b h ⟨o, e⟩ => by
      rcases h.2.2 with ⟨e', _⟩ | ⟨b', sp, e', hb, _⟩
      · rw [e] at e'; simp at e'
      · rw [e] at e'; cases e'; exact xh hb,
    fun w w' hb h => by
      refine ⟨h.1, h.2.1, h.2.2.imp id ?_⟩
      rintro ⟨b, sp, e, h1, h2⟩
      exact ⟨b, sp, e, (hb b ⟨0, e⟩).trans h1, h2⟩⟩
theorem St.ownNil {w0 w : World} {S : Nat → Prop} {M R : List Item} (h : St w0 S w M R) (E : TypeId) (m : Nat) : St w0 S w (ownI E m none 0 0 [] :: M) R :=
  h.add (Keeps.refl _ _) _ ⟨by simp, Nat.le_refl _, .inl ⟨rfl, rfl⟩⟩ fun b ⟨o, e⟩ => by simp at e
theorem St.ownBlk {w0 w : World} {S : Nat → Prop} {M R : List Item} (h : St w0 S w M R) (k : Nat) {b : Nat} {cs : List Value} {E : TypeId} (hk : M[k]? = some (blk b cs E)) (m n : Nat) (hl : cs.length = n * m) (hn : n ≤ maxLen) : St w0 S w (M.set k (ownI E m (some ⟨b, 0, none⟩) n n cs)) R :=
  h.mut k hk (Keeps.refl _ _) _ ⟨hl, Nat.le_refl _, .inr ⟨b, [], rfl, by have := h.get k hk; simpa [blk] using this, by simpa using hl, hn⟩⟩ fun x ⟨o, e⟩ => by cases e; exact .inl rfl

/-- A type's number of cells and bytes, and what it is at first. -/
def Inf (P : Program) (E : TypeId) (z : Value) (m bytes : Nat) : Prop := (P.info? E).map (fun i => (i.zero, i.size, i.bytes)) = some (some z, m, bytes)
def NotInt (P : Program) (T : TypeId) : Prop := ∃ d, Un P T d ∧ ∀ k, d ≠ .int k
/-- What is appended: so many elements, these cells. -/
structure Src (P : Program) (w : World) (x : Value) (m n : Nat) (news : List Value) : Prop where
  len : ∀ k, (Builtin.lenOf x).run P { w with drawn := k } = .ok n { w with drawn := k }
  cells : ∀ k, (Builtin.firstCells m n x).run P { w with drawn := k } = .ok news.toArray { w with drawn := k }
  length : news.length = n * m
  one : news.all (·.oneCell') = true
theorem Src.nil {P : Program} {w : World} {m : Nat} : Src P w (.slice none 0 0) m 0 [] := ⟨fun _ => rfl, fun _ => rfl, by simp, rfl⟩
theorem Src.rd {P : Program} {w : World} {b o c m n : Nat} {news : List Value} (h : Rd w b o news) (hl : news.length = n * m) (h1 : news.all (·.oneCell') = true) : Src P w (.slice (some ⟨b, o, none⟩) n c) m n news :=
  ⟨fun _ => rfl, fun k => by
    have h' : Rd { w with drawn := k } b o news := h
    have := run_loadCells (P := P) h'
    rw [hl] at this
    exact this, hl, h1⟩
theorem Src.own {P : Program} {w : World} {E m cap n : Nat} {a : Option Addr} {xs : List Value} (h : (ownI E m a cap n xs).φ w) (h1 : xs.all (·.oneCell') = true) : Src P w (.slice a n cap) m n xs := by
  obtain ⟨hl, hn, h2⟩ := h
  rcases h2 with ⟨rfl, rfl⟩ | ⟨b, sp, rfl, hb, _, _⟩
  · have : n = 0 := by omega
    subst this
    have : xs = [] := List.eq_nil_of_length_eq_zero (by simpa using hl)
    subst this
    exact Src.nil
  · refine Src.rd ?_ hl h1
    have := Rd.of_blk hb 0 (n * m)
    rw [List.drop_zero, ← hl, List.take_left] at this
    exact this
theorem all_flatMap {α : Type} {enc : α → List Value} (h : ∀ x, (enc x).all (·.oneCell') = true) (l : List α) : (l.flatMap enc).all (·.oneCell') = true := by
  simp only [List.all_eq_true] at h ⊢
  intro v hv
  obtain ⟨x, _, hx⟩ := List.mem_flatMap.1 hv
  exact h x v hx
theorem yi {α : Type} {enc : α → List Value} {m : Nat} (h : ∀ x, (enc x).length = m) (l : List α) : (l.flatMap enc).length = l.length * m := by
  induction l with
  | nil => simp
  | cons x l ih => rw [List.flatMap_cons, List.length_append, ih, h, List.length_cons, Nat.succ_mul, Nat.add_comm]
theorem flatMap_get {α : Type} {enc : α → List Value} {m : Nat} (h : ∀ x, (enc x).length = m) : ∀ (l : List α) (i j : Nat) (v : Value) (hi : i < l.length), (enc l[i])[j]? = some v → (l.flatMap enc)[i * m + j]? = some v
  | x :: l, 0, j, v, _, hv => by
    have hv : (enc x)[j]? = some v := hv
    rw [List.flatMap_cons, Nat.zero_mul, Nat.zero_add, List.getElem?_append_left (by have := (List.getElem?_eq_some_iff.1 hv).1; exact this)]
    exact hv
  | x :: l, i + 1, j, v, hi, hv => by
    rw [List.flatMap_cons, List.getElem?_append_right (by rw [h, Nat.succ_mul]; omega), h, show (i + 1) * m + j - m = i * m + j from by rw [Nat.succ_mul]; omega]
    exact flatMap_get h l i j v (by simpa using hi) hv
theorem Src.arr {α : Type} {P : Program} {w : World} {enc : α → List Value} {m c : Nat} {a : Option Addr} {l : List α} (h : (arrI enc m a l).φ w) (hm : ∀ x, (enc x).length = m) (h1 : ∀ x, (enc x).all (·.oneCell') = true) (hnil : a = none → c = 0) (hlc : l.length ≤ c) :
    Src P w (.slice a l.length c) m l.length (l.flatMap enc) := by
  cases l with
  | nil =>
    cases a with
    | none => exact ⟨fun _ => rfl, fun _ => rfl, by simp, rfl⟩
    | some ad => exact ⟨fun _ => rfl, fun k => by simp [Builtin.firstCells, loadCells, loadCellsFrom], by simp, rfl⟩
  | cons x l =>
    obtain ⟨b, off, e, hlt, _⟩ := h 0 (by simp)
    subst e
    refine Src.rd ?_ (yi hm _) (all_flatMap h1 _)
    intro i v hv
    have hm0 : 0 < m := by
      rcases Nat.eq_zero_or_pos m with e | e
      · have := yi hm (x :: l)
        rw [e, Nat.mul_zero] at this
        have := List.eq_nil_of_length_eq_zero this
        rw [this] at hv; simp at hv
      · exact e
    have hlen : i < (x :: l).length * m := by
      have := (List.getElem?_eq_some_iff.1 hv).1
      rwa [yi hm] at this
    have hq : i / m < (x :: l).length := Nat.div_lt_of_lt_mul (by rwa [Nat.mul_comm])
    obtain ⟨b', off', e', _, hr⟩ := h (i / m) hq
    simp only [Option.some.injEq, Addr.mk.injEq] at e'
    obtain ⟨rfl, rfl, _⟩ := e'
    have hi : i = i / m * m + i % m := by rw [Nat.mul_comm]; exact (Nat.div_add_mod i m).symm
    have hj : i % m < (enc (x :: l)[i / m]).length := by rw [hm]; exact Nat.mod_lt _ hm0
    have hv' := flatMap_get hm (x :: l) (i / m) (i % m) _ hq (List.getElem?_eq_getElem hj)
    rw [← hi, hv] at hv'
    have := hr (i % m) v (by rw [List.getElem?_eq_getElem hj, ← hv'])
    rwa [Nat.add_assoc, ← hi] at this

/-- What lies in a block of one's own, as elements. -/
theorem arr_of_rd {α : Type} {enc : α → List Value} {m : Nat} (hm : ∀ x, (enc x).length = m) {w : World} {b off : Nat} {l : List α} (hb : b < w.heap.size) (h : Rd w b off (l.flatMap enc)) : (arrI enc m (some ⟨b, off, none⟩) l).φ w := by
  intro i hi
  refine ⟨b, off, rfl, hb, fun j v hv => ?_⟩
  have := h (i * m + j) v (flatMap_get hm l i j v hi hv)
  rwa [← Nat.add_assoc] at this
theorem jb {α : Type} {enc : α → List Value} {m : Nat} (hm : ∀ x, (enc x).length = m) {w : World} {b : Nat} {cs : List Value} {T : TypeId} {fr : Nat × Nat} (l : List α) (h : w.heap[b]? = some (.cells cs.toArray T fr)) (e : l.flatMap enc = cs) : (arrI enc m (some ⟨b, 0, none⟩) l).φ w := by
  refine arr_of_rd hm (xh h) ?_
  have := Rd.of_blk h 0 cs.length
  rw [List.drop_zero, List.take_length] at this
  rw [e]; exact this
theorem jp {α : Type} {enc : α → List Value} {m : Nat} (hm : ∀ x, (enc x).length = m) (h0 : 0 < m) {w : World} {E cap n : Nat} {a : Option Addr} {l : List α} (h : (ownI E m a cap n (l.flatMap enc)).φ w) : (arrI enc m a l).φ w := by
  obtain ⟨hl, hn, h2⟩ := h
  rcases h2 with ⟨rfl, rfl⟩ | ⟨b, sp, rfl, hb, _, _⟩
  · intro i hi
    exfalso
    rw [yi hm, show n = 0 from by omega, Nat.zero_mul] at hl
    rcases Nat.mul_eq_zero.1 hl with h | h <;> omega
  · refine arr_of_rd hm (xh hb) ?_
    have := Rd.of_blk hb 0 (l.flatMap enc).length
    rwa [List.drop_zero, List.take_left] at this
/-- A slice of one's own is read by alone from here on. -/
theorem St.ownArr {w0 w : World} {S : Nat → Prop} {M R : List Item} (h : St w0 S w M R) (k : Nat) {α : Type} {enc : α → List Value} {E m cap n : Nat} {a : Option Addr} {l : List α} (hk : M[k]? = some (ownI E m a cap n (l.flatMap enc))) (hm : ∀ x, (enc x).length = m) (h0 : 0 < m) :
    St w0 S w (M.eraseIdx k) (arrI enc m a l :: R) := by
  have h1 := h.freeze k hk
  have hφ := h.get k hk
  have h2 := h1.addRsub 0 rfl (arrI enc m a l) (jp hm h0 hφ) (fun b ⟨_, o, e⟩ => ⟨o, e⟩)
  exact h2.subR fun i hi => by
    rcases List.mem_cons.1 hi with rfl | hi
    · simp
    · simp [hi]

section
variable {r : Option Nat} {N : List Deferred} {P : Program} {n0 : Nat} {f : Fr} {w w' : World} {K : Fr → World → Prop} {Q : Post}
variable {d : Nat} {ty : TypeId} {pos : String} {af : Array Edge} {g : Option (Nat × Bool)} {w0 : World} {S : Nat → Prop} {M R : List Item}
theorem splice_at (vs : List Value) : ∀ (xs sp : List Value), vs.length ≤ sp.length → j9 (xs ++ sp) xs.length vs = xs ++ vs ++ sp.drop vs.length := by
  induction vs with
  | nil => intro xs sp _; simp [j9]
  | cons v vs ih =>
    intro xs sp h
    cases sp with
    | nil => simp at h
    | cons s sp =>
      simp only [j9]
      have e : (xs ++ s :: sp).set xs.length v = (xs ++ [v]) ++ sp := by
        rw [List.set_append_right _ _ (Nat.le_refl _)]; simp
      rw [e]
      have := ih (xs ++ [v]) sp (by simpa using h)
      rw [List.length_append, List.length_singleton] at this
      rw [this]; simp
theorem O_append {s x : Operand} {T xT E m bytes n cap m' : Nat} {a : Option Addr} {xs news : List Value} {z xv : Value} (qk : St w0 S w M R) (k : Nat) (hk : M[k]? = some (ownI E m a cap n xs)) (hs : ev f s = .slice a n cap) (hx : ev f x = xv)
    (hT : Un P T (.slice E)) (hxT : NotInt P xT) (hI : Inf P E z m bytes) (hz : z.cells.size = m) (hsrc : Src P w xv m m' news) (hb : (n + m') * bytes ≤ 140737488355328) (h63 : n + m' ≤ 9223372036854775807) (hd : Nat.blt d n0 = true)
    (h : ∀ a' cap' w', St w0 S w' (M.set k (ownI E m a' cap' (n + m') (xs ++ news))) R → K (upd f d (.slice a' (n + m') cap')) w') :
    O r N P ⟨some d, .call { callee := .builtin .append, args := #[s, x], argTypes := #[T, xT] }, ty, pos, af, g⟩ n0 f w K Q := by
  obtain ⟨i, hi, hiz, his, hib⟩ := info_parts hI
  obtain ⟨dx, hux, hnx⟩ := hxT
  obtain ⟨hl, hnc, hrow⟩ := qk.get k hk
  have hlen0 := hsrc.len w.drawn
  have hce0 := hsrc.cells w.drawn
  have hce1 := hsrc.cells (w.drawn + 1)
  have hlen : (xs ++ news).length = (n + m') * m := by rw [List.length_append, hl, hsrc.length, Nat.add_mul]
  -- the run: in place, or in a new row
  have key : ∃ a' cap' w', (Builtin.append_ #[T, xT] ty #[.slice a n cap, xv]).run P w = .ok (.slice a' (n + m') cap') w' ∧ St w0 S w' (M.set k (ownI E m a' cap' (n + m') (xs ++ news))) R := by
    by_cases hroom : n + m' ≤ cap
    · rcases hrow with ⟨rfl, rfl⟩ | ⟨b, sp, rfl, hbk, hcl, hcm⟩
      · have h0 : n = 0 := by omega
        have h1 : m' = 0 := by omega
        subst h0; subst h1
        refine ⟨none, 0, w, ?_, qk.mut k hk (Keeps.refl _ _) _ ⟨by simpa using hlen, Nat.le_refl _, .inl ⟨rfl, rfl⟩⟩ fun x ⟨o, e⟩ => by simp at e⟩
        simp [Builtin.append_, run_underlying hT, run_underlying hux, sizeOf, typeInfo, hi, his, hlen0, hce0]
      · obtain ⟨w2, hr2, hb2, hk2⟩ := store_blk (P := P) news (off := n * m) (i := 0) hbk (by
          rw [hcl, hsrc.length, Nat.add_zero, ← Nat.add_mul]; exact Nat.mul_le_mul_right _ hroom) hsrc.one
        refine ⟨some ⟨b, 0, none⟩, cap, w2, ?_, qk.mut k hk (hk2.mono fun x hx => ⟨0, by rw [hx]⟩) _ ⟨hlen, hroom, .inr ⟨b, sp.drop news.length, rfl, ?_, ?_, hcm⟩⟩ fun x ⟨o, e⟩ => by cases e; exact .inl ⟨0, rfl⟩⟩
        · have had : Addr.add ⟨b, 0, none⟩ (n * m) = ⟨b, n * m, none⟩ := by rw [add_addr]; simp
          simp [Builtin.append_, run_underlying hT, run_underlying hux, sizeOf, typeInfo, hi, his, hlen0, hce0, hroom, had, hr2]
        · rw [hb2, Nat.add_zero, ← hl, splice_at news xs sp ?_]
          have := hcl
          rw [List.length_append] at this
          rw [hsrc.length]
          have h5 := Nat.mul_le_mul_right m hroom
          rw [Nat.add_mul, ← hl] at h5
          omega
        · have h5 := Nat.mul_le_mul_right m hroom
          rw [Nat.add_mul, ← hl, ← hsrc.length] at h5
          rw [← hcl]
          simp only [List.length_append, List.length_drop] at hcl ⊢
          omega
    · have hfit := growslice_fits (need := n + m') (old := cap) (bytes := bytes) (by omega) hb
      have h63' : ¬ (9223372036854775807 < ((n : Int) + (m' : Int))) := by omega
      have h48' : ¬ (281474976710656 < Builtin.nextslicecap (n + m') cap * bytes) := by omega
      have hge := grownCap_ge w (n + m') cap E
      have hcm := grownCap_le_maxLen w (n + m') cap E (by simpa [maxLen] using h63)
      -- what stood there
      have hold : ∀ kd, (Builtin.firstCells m n (.slice a n cap)).run P { w with drawn := kd } = .ok xs.toArray { w with drawn := kd } := by
        intro kd
        rcases hrow with ⟨rfl, rfl⟩ | ⟨b, sp, rfl, hbk, _, _⟩
        · have h0 : n = 0 := by omega
          subst h0
          have := List.eq_nil_of_length_eq_zero (by simpa using hl : xs.length = 0)
          subst this; rfl
        · have qu : Rd { w with drawn := kd } b 0 xs := by
            have := Rd.of_blk hbk 0 (n * m)
            rw [List.drop_zero, ← hl, List.take_left] at this
            exact this
          have := run_loadCells (P := P) qu
          rw [hl] at this
          exact this
      have hold1 := hold (w.drawn + 1)
      refine ⟨some ⟨w.heap.size, 0, none⟩, grownCap w (n + m') cap E, w.drew.alloc (.cells (xs.toArray ++ news.toArray ++ Builtin.zeroCells z.cells (grownCap w (n + m') cap E - (n + m'))) E), ?_, ?_⟩
      · have hd1 : ({ w with drawn := w.drawn + 1 } : World) = w.drew := rfl
        rw [hd1] at hold1 hce1
        simp [Builtin.append_, run_underlying hT, run_underlying hux, sizeOf, typeInfo, zeroValue, hi, hiz, his, hib, hlen0, hroom, h63', h48', Question.forced, hold1, hce1, newRow, grownCap]
        exact congrArg (fun q => w.drew.alloc (.cells q E)) (by apply Array.toList_inj.1; simp)
      · have hall : ∃ sp, (xs.toArray ++ news.toArray ++ Builtin.zeroCells z.cells (grownCap w (n + m') cap E - (n + m'))) = (xs ++ news ++ sp).toArray ∧ sp.length = (grownCap w (n + m') cap E - (n + m')) * m :=
          ⟨(Builtin.zeroCells z.cells (grownCap w (n + m') cap E - (n + m'))).toList, by apply Array.toList_inj.1; simp, by rw [Array.length_toList, size_zeroCells, hz]⟩
        obtain ⟨sp, e, hsp⟩ := hall
        rw [e]
        have hgr : Grow w (w.drew.alloc (.cells (xs ++ news ++ sp).toArray E)) := (Keeps.drawn _ w (w.drawn + 1)).trans (Keeps.alloc _ _ _)
        refine qk.mut k hk hgr.grow _ ⟨hlen, hge, .inr ⟨w.heap.size, sp, rfl, ?_, ?_, hcm⟩⟩ fun x ⟨o, e⟩ => by cases e; exact .inr (Nat.le_refl _)
        · show (w.heap.push _)[w.heap.size]? = _; simp
        · rw [List.length_append, hlen, hsp, ← Nat.add_mul]
          congr 1; omega
  obtain ⟨a', cap', w', hr, hs'⟩ := key
  refine ju rfl hd (fun _ h => by cases h) ?_ (h a' cap' w' hs')
  simp only [execOp, resolve, invoke, builtin, Sem.run_bind, Sem.run_pure, Result.andThen_ok, List.map_toArray, List.map_cons, List.map_nil, hs, hx, hr]

/-! ### A string that is ranged over -/
theorem obj_lt {w : World} {b : Nat} {o : Obj} (h : w.heap[b]? = some o) : b < w.heap.size := xh h
end
/-- An object that is no row of cells. -/
def objI (b : Nat) (o : Obj) : Item := ⟨fun x => x = b, fun w => w.heap[b]? = some o, fun _ _ h e => e ▸ xh h, fun _ _ hb h => (hb b rfl).trans h⟩
theorem St.newObj {w0 w : World} {S : Nat → Prop} {M R : List Item} (h : St w0 S w M R) (o : Obj) : St w0 S (w.alloc o) (objI w.heap.size o :: M) R :=
  h.add (Keeps.alloc _ _ _) _ (by show (w.heap.push _)[w.heap.size]? = _; simp) (fun b hb => by cases hb; exact Nat.le_refl _)
theorem St.setObj {w0 w : World} {S : Nat → Prop} {M R : List Item} (h : St w0 S w M R) (k : Nat) {b : Nat} {o : Obj} (hk : M[k]? = some (objI b o)) (o' : Obj) : St w0 S { w with heap := w.heap.setIfInBounds b o' } (M.set k (objI b o')) R := by
  have hb : w.heap[b]? = some o := h.get k hk
  have hlt := xh hb
  refine h.mut (w' := { w with heap := w.heap.setIfInBounds b o' }) k hk ⟨rfl, rfl, rfl, by simp, fun x hx hs => ?_⟩ (objI b o') ?_ fun x hx => .inl hx
  · have hne : b ≠ x := fun e => hs e.symm
    show (w.heap.setIfInBounds b o')[x]? = _
    rw [Array.getElem?_setIfInBounds_ne hne]
  · show (w.heap.setIfInBounds b o')[b]? = _
    rw [Array.getElem?_setIfInBounds_self_of_lt hlt]
section
variable {r : Option Nat} {N : List Deferred} {P : Program} {n0 : Nat} {f : Fr} {w w' : World} {K : Fr → World → Prop} {Q : Post}
variable {d : Nat} {ty : TypeId} {pos : String} {af : Array Edge} {g : Option (Nat × Bool)} {w0 : World} {S : Nat → Prop} {M R : List Item}
theorem run_getObj' {b : Nat} {o : Obj} (hb : w.heap[b]? = some o) (hn : ∀ c e fr, o ≠ .cells c e fr) : (getObj b).run P w = .ok o w := by
  unfold getObj
  simp only [Sem.run, hb]
theorem run_setObj' {b : Nat} {o o' : Obj} (hb : w.heap[b]? = some o) (hn : ∀ c e fr, o ≠ .cells c e fr) : (setObj b o').run P w = .ok () { w with heap := w.heap.setIfInBounds b o' } := by
  unfold setObj
  cases o <;> first | (simp only [Sem.run, hb]; done) | exact absurd rfl (hn _ _ _)
theorem O_range_str {x : Operand} {T : TypeId} {s : ByteArray} (qk : St w0 S w M R) (hx : ev f x = .string s) (hT : Un P T .string) (hd : Nat.blt d n0 = true)
    (h : ∀ b w', w.heap.size ≤ b → St w0 S w' (objI b (.stringIter s 0) :: M) R → K (upd f d (.pointer (some ⟨b, 0, none⟩))) w') : O r N P ⟨some d, .range T x, ty, pos, af, g⟩ n0 f w K Q :=
  ju rfl hd (fun _ h => by cases h) (by simp [execOp, Instr.range, hx, hT.run]) (h _ _ (Nat.le_refl _) (qk.newObj _))
theorem O_next_ascii {x : Operand} {b p : Nat} {s : ByteArray} {c : UInt8} (qk : St w0 S w M R) (k : Nat) (hk : M[k]? = some (objI b (.stringIter s p))) (hx : ev f x = .pointer (some ⟨b, 0, none⟩)) (hp : p < s.size) (he : s[p]'hp = c) (ha : c.toNat < 128) (hd : Nat.blt d n0 = true)
    (h : ∀ w', St w0 S w' (M.set k (objI b (.stringIter s (p + 1)))) R → K (upd f d (.tuple #[.bool true, .int .i64 ((p : Nat) : Int), .int .i32 ((c.toNat : Nat) : Int)])) w') : O r N P ⟨some d, .next x true, ty, pos, af, g⟩ n0 f w K Q := by
  have hb : w.heap[b]? = some (.stringIter s p) := qk.get k hk
  have hdec := decode_ascii s p hp (by rw [he]; exact ha)
  rw [he] at hdec
  refine ju rfl hd (fun _ h => by cases h) ?_ (h _ (qk.setObj k hk _))
  have h1 := run_getObj' (P := P) hb (by intro _ _ _ h; cases h)
  have h2 := run_setObj' (P := P) (o' := .stringIter s (p + 1)) hb (by intro _ _ _ h; cases h)
  simp [execOp, Instr.next, hx, h1, h2, hp, hdec, goInt]
theorem O_next_over {x : Operand} {b p : Nat} {s : ByteArray} (qk : St w0 S w M R) (k : Nat) (hk : M[k]? = some (objI b (.stringIter s p))) (hx : ev f x = .pointer (some ⟨b, 0, none⟩)) (hp : s.size ≤ p) (hd : Nat.blt d n0 = true)
    (h : K (upd f d (.tuple #[.bool false])) w) : O r N P ⟨some d, .next x true, ty, pos, af, g⟩ n0 f w K Q := by
  have hb : w.heap[b]? = some (.stringIter s p) := qk.get k hk
  have hp' : ¬ p < s.size := by omega
  have h1 := run_getObj' (P := P) hb (by intro _ _ _ h; cases h)
  exact ju rfl hd (fun _ h => by cases h) (by simp [execOp, Instr.next, hx, h1, hp']) h
end
end Go.Vg
