/-
  Vg 8: rows of one's own, read and written at any place; nil slices.
-/
import Derived.Test.YtgddigkdldnmdaaV7
import Derived.Laws.Cover3
import Derived.Laws.StructEq
namespace Go.Vg
open Go Go.RowKit
def vb (a : Option Addr) : Nat := match a with | some a => a.block | none => 0
/-- One item is written; what is new is read by. -/
theorem St.mutR {w0 w w' : World} {S : Nat → Prop} {M R : List Item} (h : St w0 S w M R) (k : Nat) {i : Item} (hk : M[k]? = some i) (hw : Keeps i.fp w w') (i' : Item) (hi : i'.φ w') (hsub : ∀ b, i'.fp b → i.fp b) (is : List Item)
    (his : ∀ j ∈ is, j.φ w' ∧ ∀ b, j.fp b → w.heap.size ≤ b) : St w0 S w' (M.set k i') (is ++ R) := by
  have h' := h.mut k hk hw i' hi fun b hb => .inl (hsub b hb)
  refine ⟨h'.base, h'.m, h'.sep, h'.new, fun j hj => ?_, fun j hj m hm b hb hb' => ?_⟩
  · rcases List.mem_append.1 hj with h1 | h1
    · exact (his j h1).1
    · exact h'.r j h1
  · rcases List.mem_append.1 hj with h1 | h1
    · have h2 := (his j h1).2 b hb
      rcases List.mem_or_eq_of_mem_set hm with hm | rfl
      · have := h.lt hm hb'; omega
      · have := h.lt (List.mem_of_getElem? hk) (hsub b hb'); omega
    · exact h'.rsep j h1 m hm b hb hb'
/-- One item is written; a new one comes. -/
theorem St.mutN {w0 w w' : World} {S : Nat → Prop} {M R : List Item} (h : St w0 S w M R) (k : Nat) {i : Item} (hk : M[k]? = some i) (hw : Keeps i.fp w w') (i' : Item) (hi : i'.φ w') (hsub : ∀ b, i'.fp b → i.fp b) (j : Item) (hj : j.φ w') (hjn : ∀ b, j.fp b → w.heap.size ≤ b) :
    St w0 S w' (j :: M.set k i') R := by
  have h' := h.mut k hk hw i' hi fun b hb => .inl (hsub b hb)
  have key : ∀ m ∈ M.set k i', ∀ b, m.fp b → b < w.heap.size := fun m hm b hb => by
    rcases List.mem_or_eq_of_mem_set hm with hm | rfl
    · exact h.lt hm hb
    · exact h.lt (List.mem_of_getElem? hk) (hsub b hb)
  refine ⟨h'.base, fun m hm => ?_, List.pairwise_cons.2 ⟨fun m hm b hb hb' => ?_, h'.sep⟩, fun m hm b hb => ?_, h'.r, fun x hx m hm b hb hb' => ?_⟩
  · rcases List.mem_cons.1 hm with rfl | hm
    · exact hj
    · exact h'.m m hm
  · have := key m hm b hb'; have := hjn b hb; omega
  · rcases List.mem_cons.1 hm with rfl | hm
    · exact .inl (Nat.le_trans h.base.size (hjn b hb))
    · exact h'.new m hm b hb
  · rcases List.mem_cons.1 hm with rfl | hm
    · have := x.valid w b (h.r x hx) hb; have := hjn b hb'; omega
    · exact h'.rsep x hx m hm b hb hb'
section
variable {P : Program} {w : World}
theorem eg_slice {op : BinOp} {T : TypeId} {x y : Operand} {a b : Option Addr} {n c n' c' : Nat} : (eqGuard op T x y (.slice a n c) (.slice b n' c')).run P w = .ok () w := by unfold eqGuard; cases op <;> simp
theorem b_eql_nil {T e : TypeId} {a : Option Addr} {n c : Nat} (hT : Un P T (.slice e)) : (binOp .eql T (.slice a n c) (.slice none 0 0)).run P w = .ok (.bool a.isNone) w := by
  have := run_equal_slice_nil w T e a n c hT
  simp [binOp, this]
theorem b_neq_nil {T e : TypeId} {a : Option Addr} {n c : Nat} (hT : Un P T (.slice e)) : (binOp .neq T (.slice a n c) (.slice none 0 0)).run P w = .ok (.bool (!a.isNone)) w := by
  have := run_equal_slice_nil w T e a n c hT
  simp [binOp, this]
theorem own_at {E m cap n : Nat} {a : Option Addr} {xs : List Value} (h : (ownI E m a cap n xs).φ w) (hn : 0 < n) : a = some ⟨vb a, 0, none⟩ := by
  rcases h.2.2 with ⟨_, e⟩ | ⟨b, sp, e, _⟩
  · have := h.2.1; omega
  · rw [e]; rfl
theorem own_len {E m cap n : Nat} {a : Option Addr} {xs : List Value} (h : (ownI E m a cap n xs).φ w) : xs.length = n * m := h.1
theorem j5 {E m cap n : Nat} {a : Option Addr} {xs : List Value} (h : (ownI E m a cap n xs).φ w) : n ≤ cap ∧ (a = none → cap = 0) := by
  refine ⟨h.2.1, fun e => ?_⟩
  rcases h.2.2 with ⟨_, h⟩ | ⟨b, sp, e', _⟩
  · exact h
  · rw [e] at e'; simp at e'
theorem own_rd {E m cap n : Nat} {a : Option Addr} {xs : List Value} (h : (ownI E m a cap n xs).φ w) (hx : xs ≠ []) : Rd w (vb a) 0 xs := by
  rcases h.2.2 with ⟨_, e⟩ | ⟨b, sp, e, hb, _⟩
  · have h1 := h.1; have := h.2.1
    have : n = 0 := by omega
    subst this
    rw [Nat.zero_mul] at h1
    exact absurd (List.eq_nil_of_length_eq_zero h1) hx
  · subst e
    have := Rd.of_blk hb 0 xs.length
    rwa [List.drop_zero, List.take_left] at this
/-- Elements of a row of one's own. -/
theorem own_elem {α : Type} {enc : α → List Value} {E m cap n : Nat} {a : Option Addr} {l : List α} (hm : ∀ x, (enc x).length = m) (h : (ownI E m a cap n (l.flatMap enc)).φ w) (h0 : 0 < m) (i : Nat) (hi : i < l.length) : Rd w (vb a) (i * m) (enc l[i]) := by
  have hne : l.flatMap enc ≠ [] := by
    intro e
    have := yi hm l
    rw [e] at this
    have h2 : 0 < l.length * m := Nat.mul_pos (by omega) h0
    simp at this; omega
  have hr := own_rd h hne
  intro j v hv
  have := hr (i * m + j) v (flatMap_get hm l i j v hi hv)
  simpa using this
end
section
variable {r : Option Nat} {N : List Deferred} {P : Program} {n0 : Nat} {f : Fr} {w w' : World} {K : Fr → World → Prop} {Q : Post}
variable {d : Nat} {ty : TypeId} {pos : String} {af : Array Edge} {g : Option (Nat × Bool)} {w0 : World} {S : Nat → Prop} {M R : List Item}
theorem splice_append (vs : List Value) : ∀ (xs sp : List Value) (o : Nat), o + vs.length ≤ xs.length → j9 (xs ++ sp) o vs = j9 xs o vs ++ sp := by
  induction vs with
  | nil => intro xs sp o _; rfl
  | cons v vs ih =>
    intro xs sp o h
    simp only [List.length_cons] at h
    simp only [j9]
    rw [List.set_append_left _ _ (by omega)]
    exact ih (xs.set o v) sp (o + 1) (by simp; omega)
theorem O_storeOwn {T : TypeId} {p x : Operand} {o mm E m cap n : Nat} {a : Option Addr} {v : Value} {vs xs xs' : List Value} (qk : St w0 S w M R) (k : Nat) (hk : M[k]? = some (ownI E m a cap n xs)) (hp : ev f p = .pointer (some ⟨vb a, o, none⟩)) (hx : ev f x = v) (hS : Sz P T mm) (hv : v.cells = vs.toArray) (hl : vs.length = mm)
    (h1 : vs.all (·.oneCell') = true) (h0 : 0 < mm) (hle : o + mm ≤ n * m) (hcs : j9 xs o vs = xs') (h : ∀ w', St w0 S w' (M.set k (ownI E m a cap n xs')) R → K f w') : O r N P ⟨none, .store T p x, ty, pos, af, g⟩ n0 f w K Q := by
  obtain ⟨hxl, hnc, hrow⟩ := qk.get k hk
  rcases hrow with ⟨_, e⟩ | ⟨b, sp, e, hb, hcl, hcm⟩
  · have : n = 0 := by omega
    subst this; simp at hle; omega
  · subst e
    have hp' : ev f p = .pointer (some ⟨b, o, none⟩) := hp
    obtain ⟨w', hr, hb', hkp⟩ := store_blk (P := P) vs (off := o) (i := 0) hb (by rw [List.length_append, hxl]; omega) h1
    rw [Nat.add_zero, splice_append vs xs sp o (by rw [hxl]; omega)] at hb'
    subst hcs
    refine O_do rfl (fun _ h => by cases h) ?_ (h w' (qk.mut k hk (hkp.mono fun x hx => ⟨0, by rw [hx]⟩) _ ⟨by rw [splice_length]; exact hxl, hnc, .inr ⟨b, sp, rfl, hb', by rw [List.length_append, splice_length]; rw [List.length_append] at hcl; exact hcl, hcm⟩⟩ fun x ⟨o, e⟩ => by cases e; exact .inl ⟨0, rfl⟩))
    simp only [execOp, hp', hx, Instr.storeAt, Instr.sureAddr, Sem.run_bind, Sem.run_pure, Result.andThen_ok, storeVar, hv, List.size_toArray, hl, hS w]
    simp [hr]
/-- Of an element's cells some are written. -/
theorem splice_flatMap {α : Type} {enc : α → List Value} {m : Nat} (hm : ∀ x, (enc x).length = m) : ∀ (l : List α) (i j : Nat) (vs : List Value) (y : α) (hi : i < l.length), j9 (enc l[i]) j vs = enc y → j + vs.length ≤ m → j9 (l.flatMap enc) (i * m + j) vs = (l.set i y).flatMap enc
  | x :: l, 0, j, vs, y, _, h, hj => by
    have h : j9 (enc x) j vs = enc y := h
    rw [List.flatMap_cons, Nat.zero_mul, Nat.zero_add, splice_append vs _ _ _ (by rw [hm]; exact hj), h]
    simp
  | x :: l, i + 1, j, vs, y, hi, h, hj => by
    have hi' : i < l.length := by simpa using hi
    have ih := splice_flatMap hm l i j vs y hi' h hj
    rw [List.flatMap_cons, List.set_cons_succ, List.flatMap_cons, ← ih]
    have key : ∀ (vs : List Value) (A B : List Value) (o : Nat), j9 (A ++ B) (A.length + o) vs = A ++ j9 B o vs := by
      intro vs
      induction vs with
      | nil => intro A B o; rfl
      | cons v vs ih2 =>
        intro A B o
        simp only [j9]
        rw [List.set_append_right _ _ (by omega), show A.length + o - A.length = o from by omega, Nat.add_assoc]
        exact ih2 A _ _
    have := key vs (enc x) (l.flatMap enc) (i * m + j)
    rw [hm] at this
    rw [← this]
    congr 1
    rw [Nat.succ_mul]; omega
end
end Go.Vg
