/-
  Vg 1: memory as a list of items, each with its own blocks.
-/
import Derived.Test.YtgddigkdldnmdaaV0
namespace Go.Vg
open Go Go.RowKit

/-- Of what lay in w, only blocks of S may have turned. -/
structure Keeps (S : Nat → Prop) (w w' : World) : Prop where
  os : w'.os = w.os
  tape : w'.tape = w.tape
  output : w'.output = w.output
  size : w.heap.size ≤ w'.heap.size
  block : ∀ b, b < w.heap.size → ¬ S b → w'.heap[b]? = w.heap[b]?
abbrev Grow (w w' : World) : Prop := Keeps (fun _ => False) w w'
theorem Keeps.refl (S : Nat → Prop) (w : World) : Keeps S w w := ⟨rfl, rfl, rfl, Nat.le_refl _, fun _ _ _ => rfl⟩
theorem Keeps.trans {S : Nat → Prop} {a b c : World} (h : Keeps S a b) (k : Keeps S b c) : Keeps S a c :=
  ⟨k.os.trans h.os, k.tape.trans h.tape, k.output.trans h.output, Nat.le_trans h.size k.size, fun x hx hs => (k.block x (Nat.lt_of_lt_of_le hx h.size) hs).trans (h.block x hx hs)⟩
theorem Keeps.mono {S T : Nat → Prop} {w w' : World} (h : Keeps S w w') (hs : ∀ b, S b → T b) : Keeps T w w' := ⟨h.os, h.tape, h.output, h.size, fun b hb hn => h.block b hb fun x => hn (hs b x)⟩
/-- What turned beyond the first world's blocks counts for nothing. -/
theorem Keeps.trans_new {S T : Nat → Prop} {a b c : World} (h : Keeps S a b) (k : Keeps T b c) (hT : ∀ x, T x → S x ∨ a.heap.size ≤ x) : Keeps S a c :=
  ⟨k.os.trans h.os, k.tape.trans h.tape, k.output.trans h.output, Nat.le_trans h.size k.size,
    fun x hx hs => (k.block x (Nat.lt_of_lt_of_le hx h.size) fun ht => (hT x ht).elim hs fun hle => by omega).trans (h.block x hx hs)⟩
theorem Keeps.grow {S : Nat → Prop} {w w' : World} (h : Grow w w') : Keeps S w w' := h.mono fun _ hf => hf.elim
theorem Keeps.below {w w' : World} (h : Grow w w') : Below w.heap.size w w' := ⟨h.os, h.tape, h.output, h.size, fun k hk => h.block k hk fun x => x⟩
theorem Keeps.of_below {w w' : World} (h : Below w.heap.size w w') : Grow w w' := ⟨h.os, h.tape, h.output, h.size, fun k hk _ => h.block k hk⟩
theorem Keeps.alloc (S : Nat → Prop) (w : World) (o : Obj) : Keeps S w (w.alloc o) := ⟨rfl, rfl, rfl, by simp, fun b hb _ => Below.heap_alloc w o b hb⟩
theorem Keeps.drawn (S : Nat → Prop) (w : World) (k : Nat) : Keeps S w { w with drawn := k } := ⟨rfl, rfl, rfl, Nat.le_refl _, fun _ _ _ => rfl⟩

structure Item where
  fp : Nat → Prop
  φ : World → Prop
  valid : ∀ w b, φ w → fp b → b < w.heap.size
  stable : ∀ w w', (∀ b, fp b → w'.heap[b]? = w.heap[b]?) → φ w → φ w'
theorem xh {w : World} {b : Nat} {o : Obj} (h : w.heap[b]? = some o) : b < w.heap.size := by
  have := (Array.getElem?_eq_some_iff.1 h).1
  exact this
def blk (b : Nat) (cs : List Value) (T : TypeId) : Item :=
  ⟨fun x => x = b, fun w => w.heap[b]? = some (.cells cs.toArray T (0, 0)), fun _ _ h e => e ▸ xh h, fun _ _ hb h => (hb b rfl).trans h⟩
def emp : Item := ⟨fun _ => False, fun _ => True, fun _ _ _ h => h.elim, fun _ _ _ h => h⟩
/-- A fact that speaks of no memory beside an item. -/
def Item.and (i : Item) (p : Prop) : Item := ⟨i.fp, fun w => i.φ w ∧ p, fun w b h => i.valid w b h.1, fun w w' hb h => ⟨i.stable w w' hb h.1, h.2⟩⟩
/-- The block that a pointer or a slice stands for. -/
def blkV (v : Value) (cs : List Value) (T : TypeId) : Item :=
  match v with
  | .pointer (some a) => blk a.block cs T
  | .slice (some a) _ _ => blk a.block cs T
  | _ => emp

structure St (w0 : World) (S : Nat → Prop) (w : World) (M R : List Item) : Prop where
  base : Keeps S w0 w
  m : ∀ i ∈ M, i.φ w
  sep : M.Pairwise fun i j => ∀ b, i.fp b → ¬ j.fp b
  new : ∀ i ∈ M, ∀ b, i.fp b → w0.heap.size ≤ b ∨ S b
  r : ∀ i ∈ R, i.φ w
  rsep : ∀ i ∈ R, ∀ j ∈ M, ∀ b, i.fp b → ¬ j.fp b

section
variable {w0 w w' : World} {S : Nat → Prop} {M R : List Item}

theorem St.start {S : Nat → Prop} (w : World) (R : List Item) (h : ∀ i ∈ R, i.φ w) : St w S w [] R :=
  ⟨Keeps.refl _ _, fun _ h => by simp at h, List.Pairwise.nil, fun _ h => by simp at h, h, fun _ _ _ h => by simp at h⟩
theorem St.get (h : St w0 S w M R) (k : Nat) {i : Item} (hk : M[k]? = some i) : i.φ w := h.m i (List.mem_of_getElem? hk)
theorem St.getR (h : St w0 S w M R) (k : Nat) {i : Item} (hk : R[k]? = some i) : i.φ w := h.r i (List.mem_of_getElem? hk)
theorem St.lt (h : St w0 S w M R) {i : Item} (hi : i ∈ M) {b : Nat} (hb : i.fp b) : b < w.heap.size := i.valid w b (h.m i hi) hb

/-- Nothing of what is known turned. -/
theorem St.keep (h : St w0 S w M R) (hk : Grow w w') : St w0 S w' M R :=
  ⟨h.base.trans (Keeps.grow hk), fun i hi => i.stable w w' (fun b hb => hk.block b (i.valid w b (h.m i hi) hb) fun x => x) (h.m i hi), h.sep, h.new,
    fun i hi => i.stable w w' (fun b hb => hk.block b (i.valid w b (h.r i hi) hb) fun x => x) (h.r i hi), h.rsep⟩
theorem St.drawn (h : St w0 S w M R) (k : Nat) : St w0 S { w with drawn := k } M R := h.keep (Keeps.drawn _ _ _)
/-- A new item, all of whose blocks are new. -/
theorem St.add (h : St w0 S w M R) (hk : Grow w w') (i : Item) (hi : i.φ w') (hn : ∀ b, i.fp b → w.heap.size ≤ b) : St w0 S w' (i :: M) R := by
  have h' := h.keep hk
  refine ⟨h'.base, fun j hj => ?_, List.pairwise_cons.2 ⟨fun j hj b hb hb' => ?_, h'.sep⟩, fun j hj b hb => ?_, h'.r, fun j hj k hk' b hb hb' => ?_⟩
  · rcases List.mem_cons.1 hj with rfl | hj
    · exact hi
    · exact h'.m j hj
  · have := h.lt hj hb'; have := hn b hb; omega
  · rcases List.mem_cons.1 hj with rfl | hj
    · exact .inl (Nat.le_trans h.base.size (hn b hb))
    · exact h'.new j hj b hb
  · rcases List.mem_cons.1 hk' with rfl | hk'
    · have := j.valid w b (h.r j hj) hb; have := hn b hb'; omega
    · exact h'.rsep j hj k hk' b hb hb'
theorem St.alloc (h : St w0 S w M R) (cs : List Value) (T : TypeId) : St w0 S (w.alloc (.cells cs.toArray T)) (blk w.heap.size cs T :: M) R :=
  h.add (Keeps.alloc _ _ _) _ (by show (w.heap.push _)[w.heap.size]? = _; simp) (fun b hb => by cases hb; exact Nat.le_refl _)
/-- A fact to read by, whose blocks are none that may be written. -/
theorem St.addR (h : St w0 S w M R) (i : Item) (hi : i.φ w) (hn : ∀ j ∈ M, ∀ b, i.fp b → ¬ j.fp b) : St w0 S w M (i :: R) :=
  ⟨h.base, h.m, h.sep, h.new, fun j hj => by
      rcases List.mem_cons.1 hj with rfl | hj
      · exact hi
      · exact h.r j hj,
    fun j hj => by
      rcases List.mem_cons.1 hj with rfl | hj
      · exact hn
      · exact h.rsep j hj⟩
/-- A new item to read by alone. -/
theorem St.addRn (h : St w0 S w M R) (hk : Grow w w') (i : Item) (hi : i.φ w') (hn : ∀ b, i.fp b → w.heap.size ≤ b) : St w0 S w' M (i :: R) :=
  (h.keep hk).addR i hi fun j hj b hb hb' => by have := h.lt hj hb'; have := hn b hb; omega
/-- What is part of the blocks of a fact to read by. -/
theorem St.addRsub (h : St w0 S w M R) (k : Nat) {j : Item} (hk : R[k]? = some j) (i : Item) (hi : i.φ w) (hn : ∀ b, i.fp b → j.fp b) : St w0 S w M (i :: R) :=
  h.addR i hi fun m hm b hb => h.rsep j (List.mem_of_getElem? hk) m hm b (hn b hb)
/-- The items in another order; some of them. -/
theorem St.perm (h : St w0 S w M R) {M' : List Item} (hp : M.Perm M') : St w0 S w M' R :=
  ⟨h.base, fun i hi => h.m i (hp.mem_iff.2 hi), (hp.pairwise_iff (fun hxy b hb hb' => hxy b hb' hb)).1 h.sep, fun i hi => h.new i (hp.mem_iff.2 hi), h.r, fun i hi j hj => h.rsep i hi j (hp.mem_iff.2 hj)⟩
theorem St.sub (h : St w0 S w M R) {M' : List Item} (hp : M'.Sublist M) : St w0 S w M' R :=
  ⟨h.base, fun i hi => h.m i (hp.subset hi), h.sep.sublist hp, fun i hi => h.new i (hp.subset hi), h.r, fun i hi j hj => h.rsep i hi j (hp.subset hj)⟩
theorem St.subR (h : St w0 S w M R) {R' : List Item} (hp : ∀ i ∈ R', i ∈ R) : St w0 S w M R' :=
  ⟨h.base, h.m, h.sep, h.new, fun i hi => h.r i (hp i hi), fun i hi => h.rsep i (hp i hi)⟩
theorem St.popM (h : St w0 S w M R) {i : Item} {M' : List Item} (e : M = i :: M' := by rfl) : St w0 S w M' R := by subst e; exact h.sub (List.sublist_cons_self _ _)
theorem St.popR (h : St w0 S w M R) {i : Item} {R' : List Item} (e : R = i :: R' := by rfl) : St w0 S w M R' := by subst e; exact h.subR fun j hj => List.mem_cons_of_mem _ hj
/-- An item is written no more. -/
theorem St.freeze (h : St w0 S w M R) (k : Nat) {i : Item} (hk : M[k]? = some i) : St w0 S w (M.eraseIdx k) (i :: R) := by
  have hs : ∀ (M : List Item) (k : Nat), M[k]? = some i → M.Pairwise (fun i j : Item => ∀ b, i.fp b → ¬ j.fp b) → ∀ j ∈ M.eraseIdx k, ∀ b, i.fp b → ¬ j.fp b := by
    intro M
    induction M with
    | nil => intro k hk; simp at hk
    | cons x M ih =>
      intro k hk hp j hj
      rw [List.pairwise_cons] at hp
      cases k with
      | zero => simp at hk; subst hk; exact hp.1 j (by simpa using hj)
      | succ k =>
        simp at hk hj
        rcases hj with rfl | hj
        · intro b hb hb'; exact hp.1 i (List.mem_of_getElem? hk) b hb' hb
        · exact ih k hk hp.2 j hj
  have h1 := h.sub (List.eraseIdx_sublist M k)
  exact h1.addR i (h.get k hk) (hs M k hk h.sep)
/-- One item is written, and may take new blocks. -/
theorem St.mut (h : St w0 S w M R) (k : Nat) {i : Item} (hk : M[k]? = some i) (hw : Keeps i.fp w w') (i' : Item) (hi : i'.φ w') (hn : ∀ b, i'.fp b → i.fp b ∨ w.heap.size ≤ b) : St w0 S w' (M.set k i') R := by
  have hmem := List.mem_of_getElem? hk
  have qk : ∀ (M : List Item) (k : Nat), M[k]? = some i → M.Pairwise (fun i j : Item => ∀ b, i.fp b → ¬ j.fp b) → (∀ j ∈ M, j.φ w) →
      (M.set k i').Pairwise (fun i j : Item => ∀ b, i.fp b → ¬ j.fp b) ∧ (∀ j ∈ M.set k i', j.φ w') := by
    intro M
    induction M with
    | nil => intro k hk; simp at hk
    | cons x M ih =>
      intro k hk hp hφ
      rw [List.pairwise_cons] at hp
      cases k with
      | zero =>
        simp at hk; subst hk
        simp only [List.set_cons_zero, List.pairwise_cons, List.mem_cons]
        refine ⟨⟨fun j hj b hb hb' => ?_, hp.2⟩, ?_⟩
        · rcases hn b hb with hb2 | hb2
          · exact hp.1 j hj b hb2 hb'
          · have := j.valid w b (hφ j (by simp [hj])) hb'; omega
        · rintro j (rfl | hj)
          · exact hi
          · exact j.stable w w' (fun b hb => hw.block b (j.valid w b (hφ j (by simp [hj])) hb) fun hb2 => hp.1 j hj b hb2 hb) (hφ j (by simp [hj]))
      | succ k =>
        simp at hk
        obtain ⟨h1, h2⟩ := ih k hk hp.2 (fun j hj => hφ j (by simp [hj]))
        have him := List.mem_of_getElem? hk
        simp only [List.set_cons_succ, List.pairwise_cons, List.mem_cons]
        refine ⟨⟨fun j hj b hb hb' => ?_, h1⟩, ?_⟩
        · rcases List.mem_or_eq_of_mem_set hj with hj | rfl
          · exact hp.1 j hj b hb hb'
          · rcases hn b hb' with hb2 | hb2
            · exact hp.1 i him b hb hb2
            · have := x.valid w b (hφ x (by simp)) hb; omega
        · rintro j (rfl | hj)
          · exact j.stable w w' (fun b hb => hw.block b (j.valid w b (hφ j (by simp)) hb) fun hb2 => hp.1 i him b hb hb2) (hφ j (by simp))
          · exact h2 j hj
  obtain ⟨h1, h2⟩ := qk M k hk h.sep h.m
  refine ⟨h.base.trans_new hw (fun b hb => (h.new i hmem b hb).symm), h2, h1, fun j hj b hb => ?_, fun j hj => ?_, fun j hj m hm b hb hb' => ?_⟩
  · rcases List.mem_or_eq_of_mem_set hj with hj | rfl
    · exact h.new j hj b hb
    · rcases hn b hb with hb2 | hb2
      · exact h.new i hmem b hb2
      · exact .inl (Nat.le_trans h.base.size hb2)
  · exact j.stable w w' (fun b hb => hw.block b (j.valid w b (h.r j hj) hb) fun hb2 => h.rsep j hj i hmem b hb hb2) (h.r j hj)
  · rcases List.mem_or_eq_of_mem_set hm with hm | rfl
    · exact h.rsep j hj m hm b hb hb'
    · rcases hn b hb' with hb2 | hb2
      · exact h.rsep j hj i hmem b hb hb2
      · have := j.valid w b (h.r j hj) hb; omega
end

/-! ### Cells -/
def j9 (cs : List Value) (off : Nat) : List Value → List Value
  | [] => cs
  | v :: vs => j9 (cs.set off v) (off + 1) vs
theorem splice_length (vs : List Value) : ∀ (cs : List Value) (off : Nat), (j9 cs off vs).length = cs.length := by
  induction vs with
  | nil => intro cs off; rfl
  | cons v vs ih => intro cs off; simp only [j9]; rw [ih]; simp
/-- Cells that stand in a row. -/
def Rd (w : World) (b off : Nat) (vs : List Value) : Prop := ∀ i v, vs[i]? = some v → w.cell? ⟨b, off + i, none⟩ = some v
theorem Rd.of_blk {w : World} {b : Nat} {cs : List Value} {T : TypeId} {fr : Nat × Nat} (h : w.heap[b]? = some (.cells cs.toArray T fr)) (off n : Nat) : Rd w b off ((cs.drop off).take n) := by
  intro i v hv
  simp only [World.cell?, h]
  simp only [List.getElem?_take, List.getElem?_drop] at hv
  split at hv
  · simpa using hv
  · simp at hv
theorem Rd.part {w : World} {b off : Nat} {vs : List Value} (h : Rd w b off vs) (j n : Nat) : Rd w b (off + j) ((vs.drop j).take n) := by
  intro i v hv
  simp only [List.getElem?_take, List.getElem?_drop] at hv
  split at hv
  · have := h (j + i) v hv
    rwa [Nat.add_assoc]
  · simp at hv
theorem qh {w : World} {b off : Nat} {cs : List Value} {T : TypeId} {fr : Nat × Nat} {v : Value} (h : w.heap[b]? = some (.cells cs.toArray T fr)) (hv : cs[off]? = some v) : w.cell? ⟨b, off, none⟩ = some v := by
  simp only [World.cell?, h]
  simpa using hv
theorem setCell_blk {w : World} {b off : Nat} {cs : List Value} {T : TypeId} (h : w.heap[b]? = some (.cells cs.toArray T (0, 0))) (v : Value) :
    (w.setCell ⟨b, off, none⟩ v).heap[b]? = some (.cells (cs.set off v).toArray T (0, 0)) ∧ Keeps (fun x => x = b) w (w.setCell ⟨b, off, none⟩ v) := by
  refine ⟨?_, rfl, rfl, rfl, by simp [World.setCell], fun x hx hs => Below.heap_setCell _ _ _ _ hs⟩
  simp only [World.setCell, Array.getElem?_modify, h]
  simp
/-- A row of cells, to read by. -/
def rdI (b off : Nat) (vs : List Value) : Item :=
  ⟨fun x => x = b, fun w => b < w.heap.size ∧ Rd w b off vs, fun _ _ h e => e ▸ h.1, fun w w' hb h => by
    have e := hb b rfl
    refine ⟨?_, fun i v hv => ?_⟩
    · have h1 : w.heap[b]? = some w.heap[b] := by simp [h.1]
      rw [h1] at e
      exact xh e
    · have := h.2 i v hv
      rw [← this]
      exact World.cell?_of_block (w := w) e⟩
/-- A slice's elements, to read by: element i lies at off + i * m. -/
def arrI {α : Type} (enc : α → List Value) (m : Nat) (a : Option Addr) (l : List α) : Item :=
  ⟨fun x => l ≠ [] ∧ ∃ off, a = some ⟨x, off, none⟩, fun w => ∀ i (h : i < l.length), ∃ b off, a = some ⟨b, off, none⟩ ∧ b < w.heap.size ∧ Rd w b (off + i * m) (enc l[i]),
    fun w b h ⟨hl, off, e⟩ => by
      obtain ⟨b', off', e', hlt, _⟩ := h 0 (by cases l with | nil => exact absurd rfl hl | cons => simp)
      rw [e] at e'; cases e'; exact hlt,
    fun w w' hb h i hi => by
      obtain ⟨b, off, e, hlt, hr⟩ := h i hi
      have hs := (rdI b (off + i * m) (enc l[i])).stable w w' (fun x hx => by
        have hx : x = b := hx
        subst hx
        exact hb x ⟨fun e => by subst e; simp at hi, off, e⟩) ⟨hlt, hr⟩
      exact ⟨b, off, e, hs.1, hs.2⟩⟩
theorem St.elem {w0 w : World} {S : Nat → Prop} {M R : List Item} (h : St w0 S w M R) (k : Nat) {α : Type} {enc : α → List Value} {m : Nat} {a : Option Addr} {l : List α} (hk : R[k]? = some (arrI enc m a l)) (i : Nat) (hi : i < l.length) :
    ∃ b off, a = some ⟨b, off, none⟩ ∧ St w0 S w M (rdI b (off + i * m) (enc l[i]) :: R) := by
  obtain ⟨b, off, e, hlt, hr⟩ := h.getR k hk i hi
  exact ⟨b, off, e, h.addRsub k hk _ ⟨hlt, hr⟩ fun x hx => by
    have hx : x = b := hx
    subst hx
    exact ⟨fun e => by subst e; simp at hi, off, e⟩⟩
theorem store_blk {P : Program} (vs : List Value) : ∀ {w : World} {b off i : Nat} {cs : List Value} {T : TypeId}, w.heap[b]? = some (.cells cs.toArray T (0, 0)) → off + i + vs.length ≤ cs.length → (vs.all (·.oneCell') = true) →
    ∃ w', (storeCells ⟨b, off, none⟩ vs i).run P w = .ok () w' ∧ w'.heap[b]? = some (.cells (j9 cs (off + i) vs).toArray T (0, 0)) ∧ Keeps (fun x => x = b) w w' := by
  induction vs with
  | nil => intro w b off i cs T h _ _; exact ⟨w, rfl, h, Keeps.refl _ _⟩
  | cons v vs ih =>
    intro w b off i cs T h hl h1
    simp at hl h1
    have hc : w.cell? ⟨b, off + i, none⟩ = some (cs[off + i]'(by omega)) := qh h (by simp)
    have hf : w.frozen? ⟨b, off + i, none⟩ = false := by simp [World.frozen?, h]
    obtain ⟨h2, h3⟩ := setCell_blk (off := off + i) h v
    obtain ⟨w', hr, hb, hk⟩ := ih (i := i + 1) (off := off) h2 (by simp; omega) (by simpa using h1.2)
    have ha : Addr.add ⟨b, off, none⟩ i = ⟨b, off + i, none⟩ := by
      unfold Addr.add
      split
      · rename_i h0; subst h0; rfl
      · rfl
    refine ⟨w', ?_, by simp only [j9]; rw [Nat.add_assoc]; exact hb, h3.trans hk⟩
    simp only [storeCells, ha]
    rw [Sem.run_bind]
    have hs : (store ⟨b, off + i, none⟩ v).run P w = .ok () (w.setCell ⟨b, off + i, none⟩ v) := by
      have h11 := h1.1
      unfold store
      cases v <;> first | (simp [Value.oneCell'] at h11; done) | (simp [Sem.run, hc, hf])
    rw [hs]
    exact hr
end Go.Vg
