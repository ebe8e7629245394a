/-
  Vg 6: parts of slices, slices that are made, bytes and strings.
-/
import Derived.Test.YtgddigkdldnmdaaV5
import Derived.Laws.Slices
import Derived.Laws.MakeOwn
import Derived.Laws.BytesString
namespace Go.Vg
open Go Go.RowKit

/-- Where a part of a slice begins. -/
def subA (a : Option Addr) (l m s : Nat) : Option Addr := if m = l then a else a.map (·.add (l * s))
theorem subA_zero (a : Option Addr) (m s : Nat) : subA a 0 m s = a := by
  unfold subA
  split
  · rfl
  · cases a with
    | none => rfl
    | some a => simp [Addr.add]
theorem subA_some {b off l m s : Nat} (h : m ≠ l) : subA (some ⟨b, off, none⟩) l m s = some ⟨b, off + l * s, none⟩ := by
  unfold subA
  rw [if_neg h]
  simp only [Option.map_some, Addr.add]
  split
  · rename_i e; rw [e]; rfl
  · rfl
theorem subA_none {l m s : Nat} : subA none l m s = none := by unfold subA; split <;> rfl
/-- A part of a slice's elements. -/
theorem arr_sub {α : Type} {enc : α → List Value} {m : Nat} {a : Option Addr} {l : List α} {w : World} (h : (arrI enc m a l).φ w) (i n mx : Nat) (hmx : n = 0 ∨ mx ≠ i) : (arrI enc m (subA a i mx m) ((l.drop i).take n)).φ w := by
  intro j hj
  have hj' : j < n ∧ i + j < l.length := by simp at hj; omega
  obtain ⟨b, off, e, hlt, hr⟩ := h (i + j) hj'.2
  subst e
  refine ⟨b, off + i * m, subA_some (by rcases hmx with h | h <;> omega), hlt, ?_⟩
  have e1 : ((l.drop i).take n)[j] = l[i + j] := by simp
  rw [e1, show off + i * m + j * m = off + (i + j) * m from by rw [Nat.add_mul]; omega]
  exact hr
theorem arr_sub_fp {α : Type} {enc : α → List Value} {m : Nat} {a : Option Addr} {l : List α} {w : World} (hφ : (arrI enc m a l).φ w) (i n mx : Nat) (hmx : n = 0 ∨ mx ≠ i) (b : Nat) (h : (arrI enc m (subA a i mx m) ((l.drop i).take n)).fp b) : (arrI enc m a l).fp b := by
  obtain ⟨hne, off, e⟩ := h
  have hn : n ≠ 0 ∧ l ≠ [] := by
    constructor
    · rintro rfl; simp at hne
    · rintro rfl; simp at hne
  refine ⟨hn.2, ?_⟩
  have hmx : mx ≠ i := by rcases hmx with h | h <;> omega
  obtain ⟨b', o', e', _⟩ := hφ 0 (by cases l with | nil => exact absurd rfl hn.2 | cons => simp)
  rw [e', subA_some hmx] at e
  cases e
  exact ⟨_, e'⟩
theorem St.arrSub {w0 w : World} {S : Nat → Prop} {M R : List Item} (h : St w0 S w M R) (k : Nat) {α : Type} {enc : α → List Value} {m : Nat} {a : Option Addr} {l : List α} (hk : R[k]? = some (arrI enc m a l)) (i n mx : Nat) (hmx : n = 0 ∨ mx ≠ i) :
    St w0 S w M (arrI enc m (subA a i mx m) ((l.drop i).take n) :: R) :=
  h.addRsub k hk _ (arr_sub (h.getR k hk) i n mx hmx) fun b hb => arr_sub_fp (h.getR k hk) i n mx hmx b hb
theorem St.addRf {w0 w w' : World} {S : Nat → Prop} {M R : List Item} (h : St w0 S w M R) (hk : Grow w w') (is : List Item) (hi : ∀ i ∈ is, i.φ w' ∧ ∀ b, i.fp b → w.heap.size ≤ b) : St w0 S w' M (is ++ R) := by
  have h' := h.keep hk
  refine ⟨h'.base, h'.m, h'.sep, h'.new, fun i hi' => ?_, fun i hi' j hj b hb hb' => ?_⟩
  · rcases List.mem_append.1 hi' with h1 | h1
    · exact (hi i h1).1
    · exact h'.r i h1
  · rcases List.mem_append.1 hi' with h1 | h1
    · have := (hi i h1).2 b hb
      have := h.lt hj hb'
      omega
    · exact h'.rsep i h1 j hj b hb hb'
theorem St.ownCut {w0 w : World} {S : Nat → Prop} {M R : List Item} (h : St w0 S w M R) (k : Nat) {E m cap n : Nat} {a : Option Addr} {xs : List Value} (hk : M[k]? = some (ownI E m a cap n xs)) (n' : Nat) (hn : n' ≤ n) :
    St w0 S w (M.set k (ownI E m a cap n' (xs.take (n' * m)))) R := by
  refine h.mut k hk (Keeps.refl _ _) _ ?_ fun x hx => .inl hx
  obtain ⟨hl, hnc, hrow⟩ := h.get k hk
  have hle := Nat.mul_le_mul_right m hn
  refine ⟨by rw [List.length_take]; omega, by omega, hrow.imp id ?_⟩
  rintro ⟨b, sp, e, h1, h2, h3⟩
  refine ⟨b, xs.drop (n' * m) ++ sp, e, ?_, ?_, h3⟩
  · rw [h1, ← List.append_assoc, List.take_append_drop]
  · rw [← List.append_assoc, List.take_append_drop]; exact h2
section
variable {r : Option Nat} {N : List Deferred} {P : Program} {n0 : Nat} {f : Fr} {w w' : World} {K : Fr → World → Prop} {Q : Post}
variable {d : Nat} {ty : TypeId} {pos : String} {af : Array Edge} {g : Option (Nat × Bool)} {w0 : World} {S : Nat → Prop} {M R : List Item}
theorem elem_of {T e : TypeId} (hT : Un P T (.slice e)) : P.underlying T = some (.slice (P.elem T)) ∧ P.elem T = e := by
  have h : P.elem T = e := by
    have h' : P.underlying T = some (.slice e) := hT
    simp [Program.elem, h']
  rw [h]; exact ⟨hT, rfl⟩
/-- What the bounds of a part come to. -/
structure Bds (f : Fr) (lo hi mx : Option Operand) (len cap l h m : Nat) : Prop where
  run : ∀ (P : Program) w, (Instr.sliceBounds true len cap (lo.map (ev f)) (hi.map (ev f)) (mx.map (ev f))).run P w = .ok (l, h, m) w
theorem Bds.l {x : Operand} {k : IntKind} {iv : Int} {len cap n : Nat} (hx : ev f x = .int k iv) (hn : iv = (n : Int)) (h : n ≤ len) : Bds f (some x) none none len cap n len cap :=
  ⟨fun P w => by subst hn; simp [hx, Instr.sliceBounds, run_sliceBound, Int.ofNat_le.2 h]⟩
theorem Bds.h {x : Operand} {k : IntKind} {iv : Int} {len cap n : Nat} (hx : ev f x = .int k iv) (hn : iv = (n : Int)) (h : n ≤ cap) : Bds f none (some x) none len cap 0 n cap :=
  ⟨fun P w => by subst hn; simp [hx, Instr.sliceBounds, run_sliceBound, Int.ofNat_le.2 h]⟩
theorem Bds.lh {x y : Operand} {k k' : IntKind} {iv jv : Int} {len cap n n' : Nat} (hx : ev f x = .int k iv) (hn : iv = (n : Int)) (hy : ev f y = .int k' jv) (hn' : jv = (n' : Int)) (h1 : n ≤ n') (h : n' ≤ cap) : Bds f (some x) (some y) none len cap n n' cap :=
  ⟨fun P w => by subst hn; subst hn'; simp [hx, hy, Instr.sliceBounds, run_sliceBound, Int.ofNat_le.2 h, Int.ofNat_le.2 h1]⟩
theorem Bds.lhm {x y z : Operand} {k k' k'' : IntKind} {iv jv mv : Int} {len cap n n' n'' : Nat} (hx : ev f x = .int k iv) (hn : iv = (n : Int)) (hy : ev f y = .int k' jv) (hn' : jv = (n' : Int)) (hz : ev f z = .int k'' mv) (hn'' : mv = (n'' : Int)) (h1 : n ≤ n') (h2 : n' ≤ n'') (h : n'' ≤ cap) : Bds f (some x) (some y) (some z) len cap n n' n'' :=
  ⟨fun P w => by subst hn; subst hn'; subst hn''; simp [hx, hy, hz, Instr.sliceBounds, run_sliceBound, Int.ofNat_le.2 h, Int.ofNat_le.2 h1, Int.ofNat_le.2 h2]⟩
theorem Bds.none {len cap : Nat} : Bds f none none none len cap 0 len cap := ⟨fun P w => by simp [Instr.sliceBounds]⟩
theorem O_slice {x : Operand} {T e : TypeId} {lo hi mx : Option Operand} {len cap l h m s n' c' : Nat} {a : Option Addr} (hx : ev f x = .slice a len cap) (hT : Un P T (.slice e)) (hS : Sz P e s) (hB : Bds f lo hi mx len cap l h m) (hn : h - l = n') (hc : m - l = c') (hd : Nat.blt d n0 = true)
    (hK : K (upd f d (.slice (subA a l m s) n' c')) w) : O r N P ⟨some d, .slice T x lo hi mx, ty, pos, af, g⟩ n0 f w K Q := by
  obtain ⟨hT', he⟩ := elem_of hT
  subst hn; subst hc
  refine ju rfl hd (fun _ h => by cases h) ?_ hK
  simp only [execOp, hx, run_sliceAt_slice _ _ _ _ _ _ hT', Sem.run_bind]
  rw [run_slice_any _ _ _ _ _ hT', hB.run]
  simp [he, hS w, sliced, subA]
theorem O_slice0 {x : Operand} {T e : TypeId} {lo hi mx : Option Operand} {len cap h m s : Nat} {a : Option Addr} (hx : ev f x = .slice a len cap) (hT : Un P T (.slice e)) (hS : Sz P e s) (hB : Bds f lo hi mx len cap 0 h m) (hd : Nat.blt d n0 = true)
    (hK : K (upd f d (.slice a h m)) w) : O r N P ⟨some d, .slice T x lo hi mx, ty, pos, af, g⟩ n0 f w K Q :=
  O_slice hx hT hS hB (Nat.sub_zero _) (Nat.sub_zero _) hd (by rw [subA_zero]; exact hK)
theorem O_slice_arr {x : Operand} {T e : TypeId} {len s : Nat} {b off : Nat} (hx : ev f x = .pointer (some ⟨b, off, none⟩)) (hT : Un P T (.array len e)) (hS : Sz P e s) (hd : Nat.blt d n0 = true)
    (hK : K (upd f d (.slice (some ⟨b, off, none⟩) len len)) w) : O r N P ⟨some d, .slice T x none none none, ty, pos, af, g⟩ n0 f w K Q := by
  refine ju rfl hd (fun _ h => by cases h) ?_ hK
  simp [execOp, hx, Instr.sliceAt, Instr.sureAddr, hT.run, Instr.sliceBounds, hS w, Addr.add]
theorem O_cap {x : Operand} {T e : TypeId} {a : Option Addr} {len cap : Nat} (hx : ev f x = .slice a len cap) (hT : Un P T (.slice e)) (hd : Nat.blt d n0 = true) (h : K (upd f d (.int .i64 cap)) w) :
    O r N P ⟨some d, .call { callee := .builtin .cap, args := #[x], argTypes := #[T] }, ty, pos, af, g⟩ n0 f w K Q := by
  obtain ⟨hT', he⟩ := elem_of hT
  refine ju rfl hd (fun _ h => by cases h) ?_ h
  simp only [execOp, resolve, invoke, builtin, Sem.run_bind, Sem.run_pure, Result.andThen_ok, List.map_toArray, List.map_cons, List.map_nil, hx, run_cap_slice _ _ _ _ _ _ hT', goInt]
theorem madeCells_one (z : Value) (n : Nat) : madeCells #[z] n = (List.replicate n z).toArray := by
  unfold madeCells
  apply Array.ext
  · simp
  · intro i h1 h2
    simp [Nat.mod_one]
theorem O_makeSlice {x y : Operand} {T e : TypeId} {bytes : Nat} {kl kc : IntKind} {lv cv : Int} {n c : Nat} {z : Value} (qk : St w0 S w M R) (hx : ev f x = .int kl lv) (hn : lv = (n : Int)) (hy : ev f y = .int kc cv) (hc : cv = (c : Int)) (hT : Un P T (.slice e)) (hI : Inf P e z 1 bytes) (hz : z.cells = #[z])
    (hnc : n ≤ c) (hb : bytes * c ≤ 281474976710656) (h63 : c ≤ maxLen) (hd : Nat.blt d n0 = true)
    (h : ∀ b w', w.heap.size ≤ b → St w0 S w' (ownI e 1 (some ⟨b, 0, none⟩) c n (List.replicate n z) :: M) R → K (upd f d (.slice (some ⟨b, 0, none⟩) n c)) w') :
    O r N P ⟨some d, .makeSlice T x y, ty, pos, af, g⟩ n0 f w K Q := by
  obtain ⟨i, hi, hiz, his, hib⟩ := info_parts hI
  subst hn; subst hc
  have h63' : (c : Int) ≤ 9223372036854775807 := by simp [maxLen] at h63; omega
  have hb' : (i.bytes : Int) * (c : Int) ≤ 281474976710656 := by
    rw [hib]
    have h : ((bytes * c : Nat) : Int) ≤ 281474976710656 := by omega
    rwa [Int.natCast_mul] at h
  have hr := run_make (P := P) w T e i z hT hi hiz kl kc n c (by omega) (by omega) hb' h63'
  simp only [Int.toNat_natCast, his, Nat.mul_one, hz, madeCells_one] at hr
  have hs := qk.alloc (List.replicate c z) e
  have hw : (ownI e 1 (some ⟨w.heap.size, 0, none⟩) c n (List.replicate n z)).φ (w.alloc (.cells (List.replicate c z).toArray e)) := by
    refine ⟨by simp, hnc, .inr ⟨w.heap.size, List.replicate (c - n) z, rfl, ?_, ?_, h63⟩⟩
    · rw [List.replicate_append_replicate, show n + (c - n) = c from by omega]
      show (w.heap.push _)[w.heap.size]? = _; simp
    · simp; omega
  refine ju rfl hd (fun _ h => by cases h) ?_ (h _ _ (Nat.le_refl _) (qk.add (Keeps.alloc _ _ _) _ hw fun b ⟨o, e⟩ => by cases e; exact Nat.le_refl _))
  simp only [execOp, hx, hy, Sem.run_bind, hr, Result.andThen_ok, Sem.run_pure]
theorem k7 {s x : Operand} {T xT E m bytes n cap m' n2 : Nat} {a : Option Addr} {xs news xs2 : List Value} {z xv : Value} (qk : St w0 S w M R) (k : Nat) (hk : M[k]? = some (ownI E m a cap n xs)) (hs : ev f s = .slice a n cap) (hx : ev f x = xv)
    (hT : Un P T (.slice E)) (hxT : NotInt P xT) (hI : Inf P E z m bytes) (hz : z.cells.size = m) (hsrc : Src P w xv m m' news) (hn2 : n + m' = n2) (hxs2 : xs ++ news = xs2) (hb : (n + m') * bytes ≤ 140737488355328) (h63 : n + m' ≤ 9223372036854775807) (hd : Nat.blt d n0 = true)
    (h : ∀ a' cap' w', St w0 S w' (M.set k (ownI E m a' cap' n2 xs2)) R → K (upd f d (.slice a' n2 cap')) w') :
    O r N P ⟨some d, .call { callee := .builtin .append, args := #[s, x], argTypes := #[T, xT] }, ty, pos, af, g⟩ n0 f w K Q := by
  subst hn2; subst hxs2
  exact O_append qk k hk hs hx hT hxT hI hz hsrc hb h63 hd h
/-- Zeros appended to nothing. -/
theorem O_appendN {s x : Operand} {T xT E bytes k0 : Nat} {kx kt : IntKind} {iv : Int} {z : Value} (qk : St w0 S w M R) (k : Nat) (hk : M[k]? = some (ownI E 1 none 0 0 [])) (hs : ev f s = .slice none 0 0) (hx : ev f x = .int kx iv) (hn : iv = (k0 : Int)) (h0 : 0 < k0)
    (hT : Un P T (.slice E)) (hxT : Un P xT (.int kt)) (hI : Inf P E z 1 bytes) (hz : z.cells = #[z]) (hb : k0 * bytes ≤ 140737488355328) (h63 : k0 ≤ 9223372036854775807) (hd : Nat.blt d n0 = true)
    (h : ∀ a' cap' w', St w0 S w' (M.set k (ownI E 1 a' cap' k0 (List.replicate k0 z))) R → K (upd f d (.slice a' k0 cap')) w') :
    O r N P ⟨some d, .call { callee := .builtin .append, args := #[s, x], argTypes := #[T, xT] }, ty, pos, af, g⟩ n0 f w K Q := by
  obtain ⟨i, hi, hiz, his, hib⟩ := info_parts hI
  subst hn
  have hroom : ¬ k0 ≤ 0 := by omega
  have hfit := growslice_fits (need := 0 + k0) (old := 0) (bytes := bytes) (by omega) (by simpa using hb)
  have h48' : ¬ (281474976710656 < Builtin.nextslicecap k0 0 * bytes) := by rw [Nat.zero_add] at hfit; omega
  have hge := grownCap_ge w k0 0 E
  have hcm := grownCap_le_maxLen w k0 0 E (by simpa [maxLen] using h63)
  have hwr : IntKind.i64.wrap (k0 : Int) = (k0 : Int) := by rw [IntKind.wrap_i64]; omega
  have hbi : ¬ ((2 : Int) ^ 48 < (k0 : Int) * (bytes : Int)) := by
    have : ((k0 * bytes : Nat) : Int) ≤ 140737488355328 := by omega
    rw [Int.natCast_mul] at this
    omega
  have hzc : ∀ n, Builtin.zeroCells #[z] n = (List.replicate n z).toArray := by
    intro n
    have := madeCells_one z n
    unfold madeCells at this
    unfold Builtin.zeroCells
    simpa using this
  have hr : (Builtin.append_ #[T, xT] ty #[.slice none 0 0, .int kx (k0 : Int)]).run P w = .ok (.slice (some ⟨w.heap.size, 0, none⟩) k0 (grownCap w k0 0 E)) (w.drew.alloc (.cells (List.replicate (grownCap w k0 0 E) z).toArray E)) := by
    have e1 : (List.replicate k0 z).toArray ++ (List.replicate (grownCap w k0 0 E - k0) z).toArray = (List.replicate (grownCap w k0 0 E) z).toArray := by
      apply Array.toList_inj.1
      simp only [List.append_toArray]
      rw [List.replicate_append_replicate]
      congr 1; omega
    have h63' : ¬ (9223372036854775807 < (k0 : Int)) := by omega
    have hk0 : ¬ k0 = 0 := by omega
    have hneg : ¬ ((k0 : Int) < 0) := by omega
    have hbi' : ¬ (281474976710656 < (k0 : Int) * (bytes : Int)) := hbi
    have hge' := hge
    unfold grownCap at hge'
    simp [Builtin.append_, run_underlying hT, run_underlying hxT, sizeOf, typeInfo, zeroValue, asInt, asIntOf, hi, hiz, his, hib, hwr, hneg, hbi', h63', h48', Question.forced, Builtin.firstCells, newRow, hz, hzc, hk0, grownCap]
    rw [Nat.add_sub_cancel' hge']
  refine ju rfl hd (fun _ h => by cases h) ?_ (h _ _ (w.drew.alloc (.cells (List.replicate (grownCap w k0 0 E) z).toArray E)) (qk.mut k hk ((Keeps.drawn _ w (w.drawn + 1)).trans (Keeps.alloc _ _ _)) _ (show (ownI E 1 (some ⟨w.heap.size, 0, none⟩) (grownCap w k0 0 E) k0 (List.replicate k0 z)).φ (w.drew.alloc (.cells (List.replicate (grownCap w k0 0 E) z).toArray E)) from ?_) fun x ⟨o, e⟩ => by cases e; exact .inr (Nat.le_refl _)))
  · simp only [execOp, resolve, invoke, builtin, Sem.run_bind, Sem.run_pure, Result.andThen_ok, List.map_toArray, List.map_cons, List.map_nil, hs, hx, hr]
  · refine ⟨by simp, hge, .inr ⟨w.heap.size, List.replicate (grownCap w k0 0 E - k0) z, rfl, ?_, ?_, hcm⟩⟩
    · rw [List.replicate_append_replicate, show k0 + (grownCap w k0 0 E - k0) = grownCap w k0 0 E from by omega]
      show (w.heap.push _)[w.heap.size]? = _; simp
    · simp; omega
/-- Bytes that are told to be bytes: a row that is only read from here on. -/
theorem O_mark {x : Operand} {T e e' : TypeId} {b len cap : Nat} {cs : List Value} (qk : St w0 S w M R) (k : Nat) (hk : M[k]? = some (blk b cs e')) (hx : ev f x = .slice (some ⟨b, 0, none⟩) len cap) (hT : Un P T (.slice e)) (he : Un P e (.int .u8)) (hd : Nat.blt d n0 = true)
    (h : ∀ w', St w0 S w' (M.set k (rdI b 0 cs)) R → K (upd f d (.slice (some ⟨b, 0, none⟩) len cap)) w') : O r N P ⟨some d, .convert T T x, ty, pos, af, g⟩ n0 f w K Q := by
  have hb : w.heap[b]? = some (.cells cs.toArray e' (0, 0)) := qk.get k hk
  have hs : w.shape? b = some (e', cs.length) := by simp [World.shape?, hb]
  have h1 : ∃ fr, (w.freeze ⟨b, cs.length, none⟩ 1).heap[b]? = some (.cells cs.toArray e' fr) := by
    simp [World.freeze, Array.getElem?_modify, hb]
  have hk1 : Keeps (blk b cs e').fp w (w.freeze ⟨b, cs.length, none⟩ 1) := by
    refine ⟨rfl, rfl, rfl, by simp [World.freeze], fun x hx hs => ?_⟩
    have hne : b ≠ x := fun e => hs e.symm
    simp [World.freeze, Array.getElem?_modify, hne]
  obtain ⟨fr, h1⟩ := h1
  have h2 := qk.mut k hk hk1 (rdI b 0 cs) ⟨xh h1, by have := Rd.of_blk h1 0 cs.length; rwa [List.drop_zero, List.take_length] at this⟩ fun x hx => .inl hx
  refine ju rfl hd (fun _ h => by cases h) ?_ (h _ h2)
  simp [execOp, convert, hx, hT.run, he.run, markStringish, hs]
theorem O_bytes_str {x : Operand} {T dT e : TypeId} {len cap : Nat} {a : Option Addr} {l : List UInt8} {enc : UInt8 → List Value} (henc : ∀ c, enc c = [.int .u8 (c.toNat : Int)]) (hx : ev f x = .slice a len cap) (ha : (arrI enc 1 a l).φ w) (hl : len = l.length) (hT : Un P T (.slice e)) (he : Un P e (.int .u8)) (hdT : Un P dT .string) (hd : Nat.blt d n0 = true)
    (h : K (upd f d (.string ⟨l.toArray⟩)) w) : O r N P ⟨some d, .convert T dT x, ty, pos, af, g⟩ n0 f w K Q := by
  subst hl
  refine ju rfl hd (fun _ h => by cases h) ?_ h
  simp only [execOp, hx, Sem.run_bind]
  rw [run_convert_bytes_string w T dT e a _ cap hT he hdT]
  cases a with
  | none =>
    have : l = [] := by
      cases l with
      | nil => rfl
      | cons c l => obtain ⟨b, off, e, _⟩ := ha 0 (by simp); cases e
    subst this
    rfl
  | some ad =>
    have hload : (loadCells ad l.length).run P w = .ok (l.map (fun c => Value.int .u8 (c.toNat : Int))).toArray w := by
      cases l with
      | nil => simp [loadCells, loadCellsFrom]
      | cons c l =>
        obtain ⟨b, off, e, hlt, _⟩ := ha 0 (by simp)
        cases e
        have qu : Rd w b off ((c :: l).map (fun c => Value.int .u8 (c.toNat : Int))) := by
          intro i v hv
          simp only [List.getElem?_map, Option.map_eq_some_iff] at hv
          obtain ⟨y, hy, rfl⟩ := hv
          obtain ⟨hi, e⟩ := List.getElem?_eq_some_iff.1 hy
          obtain ⟨b', off', e', _, hr⟩ := ha i hi
          cases e'
          have := hr 0 (.int .u8 (y.toNat : Int)) (by rw [e, henc]; rfl)
          simpa using this
        have := run_loadCells (P := P) qu
        simpa using this
    have hm : l.map (fun c => Value.int .u8 (c.toNat : Int)) = (l.map fun c => (c.toNat : Int)).map (Value.int .u8) := by simp
    rw [hm] at hload
    have := run_bytesToString (P := P) w ad l.length cap _ hload
    rw [this]
    have key : ∀ (l : List UInt8) (s : ByteArray), (l.map fun c => (c.toNat : Int)).foldl (fun r n => r.push (UInt8.ofNat n.toNat)) s = ⟨s.data ++ l.toArray⟩ := by
      intro l
      induction l with
      | nil => intro s; simp
      | cons c l ih =>
        intro s
        simp only [List.map_cons, List.foldl_cons, ih]
        simp [ByteArray.push]
    rw [key]
    simp [ByteArray.empty, ByteArray.emptyWithCapacity]
    rfl
end
end Go.Vg
