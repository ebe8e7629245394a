/-
  Vg 12: what comes in, read by its type; from a contract to the form of a row.
-/
import Derived.Test.YtgddigkdldnmdaaV11
import Derived.Deep.Slices
import Derived.SizedLaws
import Derived.WideShapes
namespace Go.Vg
open Go Go.Deep Go.RowKit
/-- Cells that stand in a row, at an address. -/
def Rd' (w : World) (a : Addr) (k : Nat) (vs : List Value) : Prop := ∀ j v, vs[j]? = some v → w.cell? (a.add (k + j)) = some v
/-- Cells of a type: they are some value's, and what holds of it. -/
def Dc (P : Program) (T : TypeId) (n : Nat) {α : Type} (enc : α → List Value) (Q : World → α → Prop) : Prop :=
  ∀ (H : Type) (e : TypeId × Value → H) (w : World) (fuel : Nat) (cs : List Value) (x : DataW H × List MemPlace), DataW.trod e P w 0 (fun _ => true) true fuel T cs = some x → (∀ k ∈ x.1.weights P T, k ≤ reachBytes) → ∃ a, cs = enc a ∧ cs.length = n ∧ Q w a
section
variable {P : Program} {T : TypeId}
theorem Dc.to {n : Nat} {α β : Type} {enc : α → List Value} {enc' : β → List Value} {Q : World → α → Prop} {Q' : World → β → Prop} (h : Dc P T n enc Q) (g : α → β) (he : ∀ a, enc' (g a) = enc a) (hq : ∀ w a, Q w a → Q' w (g a)) : Dc P T n enc' Q' := by
  intro H e w fuel cs x hx hs
  obtain ⟨a, ha, hl, hQ⟩ := h H e w fuel cs x hx hs
  exact ⟨g a, by rw [he]; exact ha, hl, hq w a hQ⟩
theorem Dc.int {k : IntKind} (h : Un P T (.int k)) : Dc P T 1 (fun n : Int => [.int k n]) (fun _ n => (Lit.int k n).wf = true) := by
  intro H e w fuel cs x hx hs
  obtain ⟨n, rfl, _, hw⟩ := DataW.trod_int h hx
  exact ⟨n, rfl, rfl, hw⟩
theorem Dc.bool (h : Un P T .bool) : Dc P T 1 (fun b : Bool => [.bool b]) (fun _ _ => True) := by
  intro H e w fuel cs x hx hs
  obtain ⟨b, rfl, _⟩ := DataW.trod_bool h hx
  exact ⟨b, rfl, rfl, trivial⟩
theorem Dc.u8 (h : Un P T (.int .u8)) : Dc P T 1 (fun c : UInt8 => [.int .u8 (c.toNat : Int)]) (fun _ _ => True) := by
  intro H e w fuel cs x hx hs
  obtain ⟨n, rfl, _, hw⟩ := DataW.trod_int h hx
  have hb : 0 ≤ n ∧ n ≤ 255 := by
    simp [Lit.wf, IntKind.min, IntKind.max, IntKind.signed, IntKind.bits] at hw
    omega
  refine ⟨UInt8.ofNat n.toNat, ?_, rfl, trivial⟩
  have e1 : ((UInt8.ofNat n.toNat).toNat : Int) = n := by
    rw [UInt8.toNat_ofNat']; omega
  show [Value.int .u8 n] = [.int .u8 ((UInt8.ofNat n.toNat).toNat : Int)]
  rw [e1]
theorem weightsAll_mem {H : Type} {e : TypeId} : ∀ {l : List (DataW H)} {d : DataW H}, d ∈ l → ∀ k ∈ d.weights P e, k ∈ DataW.weightsAll P e l
  | x :: l, d, hd, k, hk => by
    simp only [DataW.weightsAll, List.mem_append]
    rcases List.mem_cons.1 hd with rfl | hd
    · exact .inl hk
    · exact .inr (weightsAll_mem hd k hk)
theorem Dc.slice {e : TypeId} {n : Nat} {α : Type} {enc : α → List Value} {Q : World → α → Prop} (hT : Un P T (.slice e)) (hn : 0 < n) (hc : P.cellsOf e = n) (h : Dc P e n enc Q) :
    Dc P T 1 (fun x : Option Addr × Nat × List α => [.slice x.1 x.2.2.length x.2.1]) (fun w x => (arrI enc n x.1 x.2.2).φ w ∧ (∀ a ∈ x.2.2, Q w a) ∧ x.2.2.length ≤ x.2.1 ∧ (x.1 = none → x.2.1 = 0) ∧ x.2.1 * P.bytesOf e ≤ reachBytes) := by
  intro H en w fuel cs x hx hs
  rcases open_slice hT hx with ⟨rfl, _⟩ | ⟨a, len, cap, m, k, D, Pl, rfl, hb, hl, hm, hmm, rfl, hel⟩
  · refine ⟨(none, 0, []), rfl, rfl, fun i hi => by simp at hi, fun a ha => (by simp at ha), Nat.le_refl _, fun _ => rfl, by simp⟩
  · simp only [if_true] at hmm
    subst hmm
    have hw : ∀ i, i < len → ∀ k ∈ (D i).weights P e, k ≤ reachBytes := by
      intro i hi k hk
      apply hs
      simp only [DataW.weights, show P.underlying T = some (.slice e) from hT, List.mem_cons, List.mem_append]
      exact .inr (.inl (weightsAll_mem (List.mem_map.2 ⟨i, by simpa using hi, rfl⟩) k hk))
    have hcap : m * P.bytesOf e ≤ reachBytes := by
      have := hs ((len + (m - len)) * P.bytesOf e) (by simp [DataW.weights, show P.underlying T = some (.slice e) from hT])
      rwa [Nat.add_sub_cancel' hl] at this
    have hex : ∀ i, i < len → ∃ b : α, Rd' w a (i * n) (enc b) ∧ (enc b).length = n ∧ Q w b := by
      intro i hi
      obtain ⟨cs', hc', ht'⟩ := hel i (by omega)
      obtain ⟨b, rfl, hbl, hQ⟩ := h H en w _ _ _ ht' (hw i hi)
      obtain ⟨_, _, hcell⟩ := World.cells?_some hc'
      rw [hc] at hcell
      refine ⟨b, fun j v hv => ?_, hbl, hQ⟩
      have hj : j < n := by
        rcases Nat.lt_or_ge j n with h | h
        · exact h
        · rw [List.getElem?_eq_none (by omega)] at hv; cases hv
      have := hcell j hj
      rw [hv, Go.Deep.add_add] at this
      exact this
    obtain ⟨l, hll, hlq⟩ : ∃ l : List α, l.length = len ∧ ∀ i (h : i < l.length), Rd' w a (i * n) (enc l[i]) ∧ (enc l[i]).length = n ∧ Q w l[i] := by
      clear hel hx hs hw
      induction len with
      | zero => exact ⟨[], rfl, fun i h => by simp at h⟩
      | succ len ih =>
        obtain ⟨l, h1, h2⟩ := ih (by omega) (fun i hi => hex i (by omega))
        obtain ⟨b, hb⟩ := hex len (by omega)
        refine ⟨l ++ [b], by simp [h1], fun i hi => ?_⟩
        by_cases hil : i < l.length
        · rw [List.getElem_append_left hil]; exact h2 i hil
        · have : i = len := by simp at hi; omega
          subst this
          rw [List.getElem_append_right (by omega)]
          simpa [h1] using hb
    refine ⟨(some a, m, l), by simp only [hll], rfl, ?_, ?_, by simpa [hll] using hl, (fun h => by cases h), hcap⟩
    · intro i hi
      have hi : i < l.length := hi
      obtain ⟨hr, hlen, _⟩ := hlq i hi
      have h0 := hr 0 ((enc l[i])[0]'(by omega)) (List.getElem?_eq_getElem (by omega))
      obtain ⟨ab, ao, asp⟩ := a
      have hsp : asp = none := by
        cases asp with
        | none => rfl
        | some s =>
          obtain ⟨hr0, hl0, _⟩ := hlq 0 (by omega)
          have h00 := hr0 0 ((enc (l[0]'(by omega)))[0]'(by rw [hl0]; exact hn)) (List.getElem?_eq_getElem (by rw [hl0]; exact hn))
          rw [Nat.zero_mul] at h00
          have e1 : Addr.add ⟨ab, ao, some s⟩ (0 + 0) = ⟨ab, ao, some s⟩ := by unfold Addr.add; simp
          rw [e1] at h00
          unfold World.cell? at h00
          split at h00 <;> simp at h00
      subst hsp
      have hadd : ∀ k, Addr.add ⟨ab, ao, none⟩ k = ⟨ab, ao + k, none⟩ := by
        intro k; unfold Addr.add
        split
        · rename_i h0; subst h0; rfl
        · rfl
      refine ⟨ab, ao, rfl, ?_, fun j v hv => ?_⟩
      · unfold World.cell? at h0
        rw [hadd] at h0
        split at h0
        · rename_i heq; exact xh heq
        · cases h0
      · have := hr j v hv
        rw [hadd] at this
        rw [Nat.add_assoc]; exact this
    · intro b hb
      obtain ⟨i, hi, rfl⟩ := List.getElem_of_mem hb
      exact (hlq i hi).2.2
/-- The fields of a struct from a place on. -/
def DcF (P : Program) (fs : List Field) (off n : Nat) {α : Type} (enc : α → List Value) (Q : World → α → Prop) : Prop :=
  ∀ (H : Type) (e : TypeId × Value → H) (w : World) (fuel : Nat) (cs : List Value) (xs : List (DataW H × List MemPlace)), xs.length = fs.length → (∀ (i : Nat) (f : Field), fs[i]? = some f → DataW.trod e P w 0 (fun _ => true) true fuel f.type ((cs.drop f.offset).take (P.cellsOf f.type)) = xs[i]?) →
    (∀ k ∈ DataW.weightsEach P (fs.map (·.type)) (xs.map (·.1)), k ≤ reachBytes) → cs.length = off + n → ∃ a, cs.drop off = enc a ∧ Q w a
theorem DcF.nil {off : Nat} : DcF P [] off 0 (fun _ : Unit => []) (fun _ _ => True) := by
  intro H e w fuel cs xs _ _ _ hl
  exact ⟨(), List.drop_eq_nil_of_le (by omega), trivial⟩
theorem DcF.cons {f : Field} {fs : List Field} {off n1 n2 : Nat} {α β : Type} {enc1 : α → List Value} {enc2 : β → List Value} {Q1 : World → α → Prop} {Q2 : World → β → Prop} (ho : f.offset = off) (hc : P.cellsOf f.type = n1) (h1 : Dc P f.type n1 enc1 Q1) (h2 : DcF P fs (off + n1) n2 enc2 Q2) :
    DcF P (f :: fs) off (n1 + n2) (fun x : α × β => enc1 x.1 ++ enc2 x.2) (fun w x => Q1 w x.1 ∧ Q2 w x.2) := by
  intro H e w fuel cs xs hlen hx hw hl
  match xs, hlen with
  | x :: xs, hlen =>
    have h0 := hx 0 f rfl
    simp only [List.getElem?_cons_zero] at h0
    rw [ho, hc] at h0
    simp only [List.map_cons, DataW.weightsEach, List.mem_append] at hw
    obtain ⟨a, ha, hal, hQ⟩ := h1 H e w fuel _ _ h0 (fun k hk => hw k (.inl hk))
    obtain ⟨b, hb, hQ2⟩ := h2 H e w fuel cs xs (by simpa using hlen) (fun i g hg => by have := hx (i + 1) g (by simpa using hg); simpa using this) (fun k hk => hw k (.inr hk)) (by omega)
    refine ⟨(a, b), ?_, hQ, hQ2⟩
    show cs.drop off = enc1 a ++ enc2 b
    rw [← ha, ← hb, ← List.drop_drop, List.take_append_drop]
theorem Dc.struct {fs : Array Field} {n : Nat} {α : Type} {enc : α → List Value} {Q : World → α → Prop} (hT : P.underlying T = some (.struct fs)) (hc : P.cellsOf T = n) (h : DcF P fs.toList 0 n enc Q) : Dc P T n enc Q := by
  intro H e w fuel cs x hx hs
  obtain ⟨xs, k, _, rfl, hl, hlen, hf⟩ := DataW.trod_struct hT hx
  have hw : ∀ k ∈ DataW.weightsEach P (fs.toList.map (·.type)) (xs.map (·.1)), k ≤ reachBytes := by
    intro k hk
    exact hs k (by simp only [DataW.weights, hT]; exact hk)
  obtain ⟨a, ha, hQ⟩ := h H e w k cs xs (by simpa using hlen) (fun (i : Nat) (f : Field) hi => hf i f (by simpa using hi)) hw (by rw [hl, hc, Nat.zero_add])
  exact ⟨a, by simpa using ha, by rw [hl, hc], hQ⟩
/-- One argument. -/
theorem Dc.arg {n : Nat} {α : Type} {enc : α → List Value} {Q : World → α → Prop} (h : Dc P T n enc Q) {H : Type} {e : TypeId × Value → H} {w : World} {v : Value} {d : DataW H} {ps : List MemPlace} {ts : List TypeId} {ds : List (DataW H)} {j : Nat}
    (ht : DataW.Trod e P w 0 (fun _ => true) true T v d ps) (hs : (DataW.weightsEach P ts ds).all (· ≤ reachBytes) = true) (h1 : ts[j]? = some T) (h2 : ds[j]? = some d) : ∃ a, v.cells.toList = enc a ∧ Q w a := by
  obtain ⟨fuel, hf⟩ := ht
  obtain ⟨a, ha, _, hQ⟩ := h H e w fuel _ _ hf fun k hk => by simpa using List.all_eq_true.1 hs k (DataW.weights_mem_each h1 h2 k hk)
  exact ⟨a, ha, hQ⟩
theorem agg_of {cs : Array Value} {l : List Value} (h : (Value.agg cs).cells.toList = l) : Value.agg cs = .agg l.toArray := by
  have h : cs.toList = l := h
  rw [← h]
theorem trod_places {H : Type} {e : TypeId × Value → H} {w : World} {v : Value} {d : DataW H} {ps : List MemPlace} (h : DataW.Trod e P w 0 (fun _ => true) true T v d ps) : ∀ x ∈ ps, x.block < w.heap.size := by
  obtain ⟨m, hm⟩ := h; exact DataW.trod_lt m _ _ _ hm
theorem C.fin {g : FuncId} {args : List Value} {w : World} (h : C P g args w fun v w' => v = .bool true ∧ Grow w w') : Calls P g args.toArray w fun e w' => e = .returned (.bool true) ∧ Below w.heap.size w w' :=
  Calls.mono h fun _ _ ⟨_, he, hv, hk⟩ => ⟨by rw [he, hv], hk.below⟩
end
end Go.Vg
