/-
  Plain: reading an image's bytes.
-/
import Derived.Test.YtgddigkdldnmdaaImgD
import Derived.Test.YtgddigkdldnmdaaV8
namespace Go.Img
open Go Go.Vg
structure RS where
  off : Nat
  bad : Bool
def kb (l : List UInt8) (off n : Nat) : List UInt8 := if off + n ≤ l.length then (l.drop off).take n else List.replicate n 0
theorem xg (l : List UInt8) (off n : Nat) : (kb l off n).length = n := by
  unfold kb
  split
  · simp; omega
  · simp
def zv (l : List UInt8) (s : RS) (n : Nat) : RS := if s.off + n ≤ l.length then ⟨s.off + n, s.bad⟩ else ⟨s.off, true⟩
def SubA (a0 : Option Addr) (l0 : List UInt8) (off : Nat) (a : Option Addr) : Prop := off < l0.length → ∃ b o, a0 = some ⟨b, o, none⟩ ∧ a = some ⟨b, o + off, none⟩
/-- Bytes of which so many are read. -/
def rdrI (a0 : Option Addr) (l0 : List UInt8) (bb T : Nat) (s : RS) : Vg.Item :=
  ⟨fun b => b = bb, fun w => ∃ a c, w.heap[bb]? = some (.cells [.slice a (l0.length - s.off) c, .bool s.bad].toArray T (0, 0)) ∧ s.off ≤ l0.length ∧ SubA a0 l0 s.off a ∧ l0.length - s.off ≤ c ∧ (a = none → c = 0),
    fun w b h e => by obtain ⟨a, c, h, _⟩ := h; exact e ▸ xh h, fun w w' hb h => by obtain ⟨a, c, h, h2⟩ := h; exact ⟨a, c, (hb bb rfl).trans h, h2⟩⟩
/-- What was taken. -/
def resI (E : TypeId) (a0 : Option Addr) (l0 : List UInt8) (off n : Nat) (a : Option Addr) (c : Nat) : Vg.Item :=
  if off + n ≤ l0.length then emp.and ((0 < n → SubA a0 l0 off a) ∧ n ≤ c ∧ (a = none → c = 0)) else ownI E 1 a c n ((List.replicate n (0 : UInt8)).flatMap encB)
theorem res_arr {E : TypeId} {a0 a : Option Addr} {l0 : List UInt8} {off n c : Nat} {w : World} (h : (resI E a0 l0 off n a c).φ w) (h0 : (arrI encB 1 a0 l0).φ w) : (arrI encB 1 a (kb l0 off n)).φ w := by
  unfold resI at h
  unfold kb
  split at h
  · rename_i hle
    rw [if_pos hle]
    intro i hi
    have hi' : i < n := by simp at hi; omega
    obtain ⟨b, o, e0, e⟩ := h.2.1 (by omega) (by omega)
    obtain ⟨b', o', e', hlt, hr⟩ := h0 (off + i) (by omega)
    rw [e0] at e'; cases e'
    refine ⟨b, o + off, e, hlt, ?_⟩
    have e1 : ((l0.drop off).take n)[i] = l0[off + i]'(by omega) := by simp
    rw [e1, Nat.mul_one, Nat.add_assoc]
    simpa using hr
  · rename_i hle
    rw [if_neg hle]
    exact jp (m := 1) (fun _ => rfl) (by decide) h
theorem res_fp {E : TypeId} {a0 a : Option Addr} {l0 : List UInt8} {off n c : Nat} {w : World} (h : (resI E a0 l0 off n a c).φ w) (b : Nat) (hb : (arrI encB 1 a (kb l0 off n)).fp b) : (resI E a0 l0 off n a c).fp b ∨ (arrI encB 1 a0 l0).fp b := by
  obtain ⟨hne, o, e⟩ := hb
  have hn : 0 < n := by
    rcases Nat.eq_zero_or_pos n with h | h
    · exfalso; have := xg l0 off n; rw [h] at this; rw [h] at hne; exact hne (List.eq_nil_of_length_eq_zero this)
    · exact h
  unfold resI at h ⊢
  split at h
  · rename_i hle
    obtain ⟨b', o', e0, e1⟩ := h.2.1 hn (by omega)
    rw [e] at e1; cases e1
    exact .inr ⟨fun hl => by rw [hl] at hle; simp at hle; omega, o', e0⟩
  · rename_i hle
    exact .inl (by rw [if_neg hle]; exact ⟨o, e⟩)
theorem res_cap {E : TypeId} {a0 a : Option Addr} {l0 : List UInt8} {off n c : Nat} {w : World} (h : (resI E a0 l0 off n a c).φ w) : n ≤ c ∧ (a = none → c = 0) := by
  unfold resI at h
  split at h
  · exact h.2.2
  · exact j5 h
theorem _root_.Go.Vg.St.addRes {w0 w : World} {S : Nat → Prop} {M R : List Vg.Item} (h : St w0 S w M R) {E : TypeId} {a0 a : Option Addr} {l0 : List UInt8} {off n c : Nat} (k : Nat) (hk : R[k]? = some (arrI encB 1 a0 l0)) (k2 : Nat) (hk2 : R[k2]? = some (resI E a0 l0 off n a c)) :
    St w0 S w M (arrI encB 1 a (kb l0 off n) :: R) :=
  h.addR _ (res_arr (h.getR k2 hk2) (h.getR k hk)) fun j hj b hb => (res_fp (h.getR k2 hk2) b hb).elim (h.rsep _ (List.mem_of_getElem? hk2) j hj b) (h.rsep _ (List.mem_of_getElem? hk) j hj b)
/-- The reader, and what was taken last. -/
def RD (a0 : Option Addr) (l0 : List UInt8) (bb T : Nat) (s : RS) (Z : Vg.Item) : Vg.Item := packI [rdrI a0 l0 bb T s, Z]
theorem RD_rdr {a0 : Option Addr} {l0 : List UInt8} {bb T : Nat} {s : RS} {Z : Vg.Item} {w : World} (h : (RD a0 l0 bb T s Z).φ w) : (rdrI a0 l0 bb T s).φ w := h.1 _ (by simp)
theorem RD_Z {a0 : Option Addr} {l0 : List UInt8} {bb T : Nat} {s : RS} {Z : Vg.Item} {w : World} (h : (RD a0 l0 bb T s Z).φ w) : Z.φ w := h.1 _ (by simp)
theorem RD_step {a0 : Option Addr} {l0 : List UInt8} {bb T : Nat} {s s' : RS} {Z : Vg.Item} {w w' : World} (h : (RD a0 l0 bb T s Z).φ w) (hk : Keeps (fun b => b = bb) w w') (h' : (rdrI a0 l0 bb T s').φ w') : (RD a0 l0 bb T s' Z).φ w' := by
  have hs : ∀ b, b = bb → ¬ Z.fp b := by
    have := h.2
    simp only [List.pairwise_cons, List.mem_singleton, forall_eq] at this
    exact this.1
  refine ⟨fun i hi => ?_, ?_⟩
  · simp only [List.mem_cons, List.not_mem_nil, or_false] at hi
    rcases hi with rfl | rfl
    · exact h'
    · exact i.stable w w' (fun b hb => hk.block b (i.valid w b (RD_Z h) hb) fun e => hs b e hb) (RD_Z h)
  · simp only [List.pairwise_cons, List.mem_singleton, forall_eq]
    exact ⟨hs, by simp⟩
theorem RD_new {a0 : Option Addr} {l0 : List UInt8} {bb T : Nat} {s s' : RS} {Z Z' : Vg.Item} {w w' : World} (h : (RD a0 l0 bb T s Z).φ w) (h' : (rdrI a0 l0 bb T s').φ w') (hz : Z'.φ w') (hn : ∀ b, Z'.fp b → w.heap.size ≤ b) :
    (RD a0 l0 bb T s' Z').φ w' ∧ ∀ b, (RD a0 l0 bb T s' Z').fp b → (RD a0 l0 bb T s Z).fp b ∨ w.heap.size ≤ b := by
  have hbb : bb < w.heap.size := (rdrI a0 l0 bb T s).valid w bb (RD_rdr h) rfl
  refine ⟨⟨fun i hi => ?_, ?_⟩, ?_⟩
  · simp only [List.mem_cons, List.not_mem_nil, or_false] at hi
    rcases hi with rfl | rfl
    · exact h'
    · exact hz
  · simp only [List.pairwise_cons, List.mem_singleton, forall_eq]
    exact ⟨fun b e hb => by have := hn b hb; have e : b = bb := e; omega, by simp⟩
  · rintro b ⟨i, hi, hb⟩
    simp only [List.mem_cons, List.not_mem_nil, or_false] at hi
    rcases hi with rfl | rfl
    · exact .inl ⟨rdrI a0 l0 bb T s, by simp, hb⟩
    · exact .inr (hn b hb)
theorem RD_fp {a0 : Option Addr} {l0 : List UInt8} {bb T : Nat} {s s' : RS} {Z : Vg.Item} (b : Nat) (h : (RD a0 l0 bb T s' Z).fp b) : (RD a0 l0 bb T s Z).fp b := by
  obtain ⟨i, hi, hb⟩ := h
  simp only [List.mem_cons, List.not_mem_nil, or_false] at hi
  rcases hi with rfl | rfl
  · exact ⟨rdrI a0 l0 bb T s, by simp, hb⟩
  · exact ⟨_, by simp, hb⟩
theorem RD_bb {a0 : Option Addr} {l0 : List UInt8} {bb T : Nat} {s : RS} {Z : Vg.Item} (b : Nat) (h : b = bb) : (RD a0 l0 bb T s Z).fp b := ⟨rdrI a0 l0 bb T s, by simp, h⟩
def yk (l : List UInt8) (i : Nat) : UInt8 := (l[i]?).getD 0
def oneV (l : List UInt8) (s : RS) : Int := ((yk (kb l s.off 1) 0).toNat : Int)
def twoV (l : List UInt8) (s : RS) : Int := ((yk (kb l s.off 2) 0).toNat : Int) * 256 + ((yk (kb l s.off 2) 1).toNat : Int)
end Go.Img
