/-
  Plain: the image of bytes: steps.
-/
import Derived.Test.YtgddigkdldnmdaaImgF
namespace Go.Img
open Go Go.Vg
theorem C.ie {P : Program} {g : FuncId} {args : List Value} {w : World} {x y : Int} {A B : World → Prop} (h : C P g args w fun v w' => (v = .int .i64 x ∧ A w') ∧ B w') (e : x = y) : C P g args w fun v w' => (v = .int .i64 y ∧ A w') ∧ B w' := e ▸ h
theorem rdr_init {a : Option Addr} {l : List UInt8} {cap bb T : Nat} {w : World} (h : (blk bb [.slice a l.length cap, .bool false] T).φ w) (h0 : (arrI encB 1 a l).φ w) (hc : l.length ≤ cap) (hn : a = none → cap = 0) : (rdrI a l bb T (gs0 l)).φ w := by
  refine ⟨a, cap, h, Nat.zero_le _, fun hl => ?_, by show l.length - 0 ≤ cap; omega, hn⟩
  obtain ⟨b, o, e, _⟩ := h0 0 hl
  exact ⟨b, o, e, e⟩
theorem rdr_cell {a0 : Option Addr} {l0 : List UInt8} {bb T : Nat} {s : RS} {w : World} (h : (rdrI a0 l0 bb T s).φ w) : ∃ a c, w.heap[bb]? = some (.cells [.slice a (l0.length - s.off) c, .bool s.bad].toArray T (0, 0)) := by
  obtain ⟨a, c, h, _⟩ := h
  exact ⟨a, c, h⟩
theorem repl_enc (n : Nat) : List.replicate n (Value.int .i64 0) = (List.replicate n (0 : Int)).flatMap encI := by
  induction n with
  | zero => rfl
  | succ n ih => rw [List.replicate_succ, List.replicate_succ, List.flatMap_cons, ← ih]; rfl
theorem szs_0 (l : List UInt8) : List.replicate (gC l) (Value.int .i64 0) = (szs l 0).flatMap encI := by
  rw [repl_enc]; simp [szs, itC]
def daAt (l : List UInt8) (k : Nat) : Int := ((gDa l)[k]?).getD 0
theorem comp_store {l X : List UInt8} {cs : List CompV} {k n c3 : Nat} {a3 : Option Addr} (hk : cs.length = k) (h : k < gC l) (hX : X.length = n) :
    j9 ((cs ++ (cmp l (gC l)).drop k).flatMap zu) (0 + k * 2) [.slice a3 n c3] = ((cs ++ [(⟨a3, c3, X, daAt l k⟩ : CompV)]) ++ (cmp l (gC l)).drop (k + 1)).flatMap zu := by
  have hcl := cmp_len l (gC l)
  have hlt : k < (cs ++ (cmp l (gC l)).drop k).length := by simp; omega
  have hg : (cs ++ (cmp l (gC l)).drop k)[k] = mkC [] (daAt l k) := by
    rw [List.getElem_append_right (by omega)]
    simp only [hk, Nat.sub_self, List.getElem_drop]
    unfold daAt gDa cmp
    simp only [List.getElem_map, Nat.add_zero]
    rw [List.getElem?_eq_getElem (by simp [yr]; exact h)]
    simp
  have h1 := splice_flatMap (enc := zu) (m := 2) (fun _ => rfl) (cs ++ (cmp l (gC l)).drop k) k 0 [.slice a3 n c3] ⟨a3, c3, X, daAt l k⟩ hlt (by rw [hg]; subst hX; rfl) (by simp)
  rw [Nat.zero_add, show k * 2 = k * 2 + 0 from rfl, h1]
  congr 1
  rw [List.set_append_right _ _ (by omega), hk, Nat.sub_self, List.drop_eq_getElem_cons (by omega), List.set_cons_zero]
  simp
theorem someR_bad {l : List UInt8} {s : RS} {n : Nat} (h : s.bad = true) : (zv l s n).bad = true := by unfold zv; split <;> simp_all
theorem take_small {l : List UInt8} {s : RS} {n : Nat} (hl : l.length ≤ 20000) : (kb l s.off n).length ≤ 20000 ∨ (zv l s n).bad = true := by
  unfold zv
  split
  · left; rw [xg]; omega
  · right; rfl
theorem itK_succ_sz {l : List UInt8} {s : RS} {k : Nat} : (itK l (gSz l) s (k + 1)).2 = zv l (itK l (gSz l) s k).2 (szN l k) := rfl
theorem zip_snoc {l : List UInt8} {k : Nat} (h : k < gC l) (X : List UInt8) (ys : List (List UInt8)) (hy : ys.length = k) : List.zipWith mkC (ys ++ [X]) (gDa l) = List.zipWith mkC ys (gDa l) ++ [mkC X (daAt l k)] := by
  have hd : (gDa l).length = gC l := by simp [gDa, yr]
  apply List.ext_getElem
  · simp; omega
  · intro i h1 h2
    simp only [List.getElem_zipWith]
    by_cases hi : i < k
    · rw [List.getElem_append_left (by omega), List.getElem_append_left (by rw [List.length_zipWith]; omega)]
      simp
    · have : i = k := by simp at h1; omega
      subst this
      rw [List.getElem_append_right (by omega), List.getElem_append_right (by rw [List.length_zipWith]; omega)]
      simp [hy, daAt, List.getElem?_eq_getElem (show i < (gDa l).length by omega)]
theorem _root_.Go.Vg.St.codesSnoc {w0 w : World} {S : Nat → Prop} {M R : List Vg.Item} {c : CompV} {cs : List CompV} (h : St w0 S w M (arrI encB 1 c.a c.code :: ko cs :: R)) : St w0 S w M (ko (cs ++ [c]) :: R) := by
  have h1 := h.addR (ko (cs ++ [c])) (fun x hx => by
      rcases List.mem_append.1 hx with hx | hx
      · exact h.r (ko cs) (by simp) x hx
      · rw [List.mem_singleton.1 hx]; exact h.r _ (by simp)) (fun j hj b ⟨x, hx, hb⟩ => by
      rcases List.mem_append.1 hx with hx | hx
      · exact h.rsep (ko cs) (by simp) j hj b ⟨x, hx, hb⟩
      · rw [List.mem_singleton.1 hx] at hb; exact h.rsep _ (List.mem_cons_self ..) j hj b hb)
  exact h1.subR fun i hi => by
    rcases List.mem_cons.1 hi with rfl | hi
    · simp
    · simp [hi]
theorem get_sz {E b cap k : Nat} {l : List UInt8} {w : World} (h : (ownI E 1 (some ⟨b, 0, none⟩) cap (gC l) ((gSz l).flatMap encI)).φ w) (hk : k < gC l) : w.cell? ⟨b, 0 + k * 1, none⟩ = some (.int .i64 ((szN l k : Nat) : Int)) := by
  have hk' : k < (gSz l).length := by rw [gSz_len]; exact hk
  have hr := own_elem (enc := encI) (m := 1) (fun _ => rfl) h (by decide) k hk'
  have h2 := hr 0 _ rfl
  rw [← (szN_int hk').1, Nat.zero_add]
  exact h2
theorem get_canon {l : List UInt8} {cs : List CompV} {k c3 : Nat} {a3 : Option Addr} (h2 : k < gC l) (h3 : cs.map CompV.canon = List.zipWith mkC (itK l (gSz l) (gs10 l) k).1 (gDa l)) :
    (cs ++ [(⟨a3, c3, kb l (itK l (gSz l) (gs10 l) k).2.off (szN l k), daAt l k⟩ : CompV)]).map CompV.canon = List.zipWith mkC (itK l (gSz l) (gs10 l) (k + 1)).1 (gDa l) := by
  show _ = List.zipWith mkC ((itK l (gSz l) (gs10 l) k).1 ++ [kb l (itK l (gSz l) (gs10 l) k).2.off (szN l k)]) (gDa l)
  rw [zip_snoc h2 _ _ (itK_len _ _ _ _), List.map_append, h3]
  rfl
theorem get_small {l : List UInt8} {cs : List CompV} {k c3 : Nat} {a3 : Option Addr} (hl : l.length ≤ 20000) (h4 : ∀ c ∈ cs, (c.code.length ≤ 20000 ∨ (itK l (gSz l) (gs10 l) k).2.bad = true) ∧ c.code.length ≤ c.cap ∧ (c.a = none → c.cap = 0))
    (hc : (kb l (itK l (gSz l) (gs10 l) k).2.off (szN l k)).length ≤ c3) (hn : a3 = none → c3 = 0) :
    ∀ c ∈ cs ++ [(⟨a3, c3, kb l (itK l (gSz l) (gs10 l) k).2.off (szN l k), daAt l k⟩ : CompV)], (c.code.length ≤ 20000 ∨ (itK l (gSz l) (gs10 l) (k + 1)).2.bad = true) ∧ c.code.length ≤ c.cap ∧ (c.a = none → c.cap = 0) := by
  intro c hm
  rw [itK_succ_sz]
  rcases List.mem_append.1 hm with hm | hm
  · exact ⟨(h4 c hm).1.imp id someR_bad, (h4 c hm).2⟩
  · rw [List.mem_singleton.1 hm]
    exact ⟨take_small hl, hc, hn⟩
theorem get_new {cs : List CompV} {c : CompV} {n : Nat} (h5 : ∀ c ∈ cs, ∀ b, (arrI encB 1 c.a c.code).fp b → n ≤ b) (h : ∀ b, (arrI encB 1 c.a c.code).fp b → n ≤ b) : ∀ x ∈ cs ++ [c], ∀ b, (arrI encB 1 x.a x.code).fp b → n ≤ b := by
  intro x hx
  rcases List.mem_append.1 hx with hx | hx
  · exact h5 x hx
  · rw [List.mem_singleton.1 hx]; exact h
theorem get_mem (m : ImageV) {x : Vg.Item} : ∀ i ∈ kh m, i ∈ [arrI zu 2 m.ca m.comps, arrI z1 3 m.la m.links, arrI zw 2 m.sa m.shares, ko m.comps, x] := fun _ hi => List.mem_append_left [x] hi
theorem get_news {cs : List CompV} {n : Nat} {ls : List LinkV} {ss : List ShareV} {a5 a6 a7 : Option Addr} {c5 c6 c7 : Nat} {st : Bool} {hp fu : Int} (h5 : ∀ c ∈ cs, ∀ b, (arrI encB 1 c.a c.code).fp b → n ≤ b) (h1 : ∀ b, (∃ o, a5 = some ⟨b, o, none⟩) → n ≤ b) (h2 : ∀ b, (∃ o, a6 = some ⟨b, o, none⟩) → n ≤ b) (h3 : ∀ b, (∃ o, a7 = some ⟨b, o, none⟩) → n ≤ b) :
    ∀ i ∈ kh ⟨st, hp, fu, a5, c5, cs, a6, c6, ls, a7, c7, ss⟩, ∀ b, i.fp b → n ≤ b := by
  intro i hi b hb
  simp only [kh, List.mem_cons, List.not_mem_nil, or_false] at hi
  rcases hi with rfl | rfl | rfl | rfl
  · exact h1 b hb.2
  · exact h2 b hb.2
  · exact h3 b hb.2
  · obtain ⟨c, hc, hb⟩ := hb; exact h5 c hc b hb
theorem get_B {l : List UInt8} {cs : List CompV} {a5 a6 a7 : Option Addr} {c5 c6 c7 : Nat} {st : Bool} {hp fu : Int} (h2 : cs.length = gC l) (h4 : ∀ c ∈ cs, (c.code.length ≤ 20000 ∨ (itK l (gSz l) (gs10 l) (gC l)).2.bad = true) ∧ c.code.length ≤ c.cap ∧ (c.a = none → c.cap = 0))
    (q5 : gC l ≤ c5 ∧ (a5 = none → c5 = 0)) (q6 : gL l ≤ c6 ∧ (a6 = none → c6 = 0)) (q7 : gS l ≤ c7 ∧ (a7 = none → c7 = 0)) :
    (gs11 l).bad = false → ImgB ⟨st, hp, fu, a5, c5, cs, a6, c6, (itL l (gs8 l) (gL l)).1, a7, c7, (itS l (gs9 l) (gS l)).1⟩ := by
  intro hb
  have := gC_le l; have := gL_le l; have := gS_le l
  refine ⟨by show cs.length ≤ _; omega, by show (itL l (gs8 l) (gL l)).1.length ≤ _; rw [itL_len]; omega, by show (itS l (gs9 l) (gS l)).1.length ≤ _; rw [itS_len]; omega, by show cs.length ≤ c5; omega, by show (itL l (gs8 l) (gL l)).1.length ≤ c6; rw [itL_len]; exact q6.1, by show (itS l (gs9 l) (gS l)).1.length ≤ c7; rw [itS_len]; exact q7.1, q5.2, q6.2, q7.2, fun c hc => ?_⟩
  have hc := h4 c hc
  refine ⟨hc.1.resolve_right fun e => ?_, hc.2⟩
  have hb : (itK l (gSz l) (gs10 l) (gC l)).2.bad = false := hb
  rw [hb] at e; cases e
theorem get_q1 {a R : Bool} (h : a = true) : a = (a || R) := by simp [h]
theorem get_q2 {n off : Nat} {a R : Bool} (h0 : a = false) (h : 0 < ((n - off : Nat) : Int)) : decide (0 < ((n - off : Nat) : Int)) = (a || (decide (off < n) || R)) := by
  have : off < n := by omega
  simp only [h0, this, h, decide_true, Bool.true_or, Bool.or_true]
theorem get_q3 {n off : Nat} {a R x y : Bool} (h0 : a = false) (h1 : ¬ 0 < ((n - off : Nat) : Int)) (h : x = true) (e : x = y) : x = (a || (decide (off < n) || (y || R))) := by
  have : ¬ off < n := by omega
  rw [← e]; simp [h0, this, h]
theorem get_q4 {n off : Nat} {a R x y : Bool} {p : Prop} [Decidable p] (h0 : a = false) (h1 : ¬ 0 < ((n - off : Nat) : Int)) (h2 : x = false) (e : x = y) (h : p) : decide p = (a || (decide (off < n) || (y || (decide p || R)))) := by
  have : ¬ off < n := by omega
  rw [← e]; simp [h0, this, h2, h]
theorem get_q5 {n off : Nat} {a x y z z' : Bool} {p : Prop} [Decidable p] (h0 : a = false) (h1 : ¬ 0 < ((n - off : Nat) : Int)) (h2 : x = false) (e : x = y) (h3 : ¬ p) (e2 : z = z') : z = (a || (decide (off < n) || (y || (decide p || z')))) := by
  have : ¬ off < n := by omega
  rw [← e, ← e2]; simp [h0, this, h2, h3]
theorem get_nm (l : List UInt8) : (!decide ((⟨(xj l).toArray⟩ : ByteArray).toList = (⟨#[83, 90]⟩ : ByteArray).toList)) = !decide (xj l = [83, 90]) := by rw [yp, yp]
theorem get_nb {q a b c d e : Bool} (h : q = (a || (b || (c || (d || e))))) (hq : q = false) : a = false := by subst h; simp_all
theorem noImg_ok {w : World} : ∀ i ∈ kh ya, i.φ w := by
  intro i hi
  simp only [kh, List.mem_cons, List.not_mem_nil, or_false] at hi
  rcases hi with rfl | rfl | rfl | rfl <;> exact fun i h => by cases h
theorem noImg_new {n : Nat} : ∀ i ∈ kh ya, ∀ b, i.fp b → n ≤ b := by
  intro i hi b hb
  simp only [kh, List.mem_cons, List.not_mem_nil, or_false] at hi
  rcases hi with rfl | rfl | rfl | rfl
  · exact absurd rfl hb.1
  · exact absurd rfl hb.1
  · exact absurd rfl hb.1
  · obtain ⟨c, hc, _⟩ := hb; cases hc
theorem noImg_B : ImgB ya := ⟨Nat.zero_le _, Nat.zero_le _, Nat.zero_le _, Nat.le_refl _, Nat.le_refl _, Nat.le_refl _, fun _ => rfl, fun _ => rfl, fun _ => rfl, fun _ h => by cases h⟩
def gQ (l : List UInt8) : Bool := (gs11 l).bad || (decide ((gs11 l).off < l.length) || (!decide (xj l = [83, 90]) || (decide (1 < zm l) || !jo (gImg l))))
theorem xd (l : List UInt8) : getI l = if gQ l = true then (ya, 1) else if z2 (gImg l) = false then (ya, 151) else (gImg l, 0) := rfl
theorem get_r1 {l : List UInt8} (h : gQ l = true) : ya.canon = (getI l).1 := by rw [xd, if_pos h]; rfl
theorem get_r1e {l : List UInt8} (h : gQ l = true) : (1 : Int) = (getI l).2 := by rw [xd, if_pos h]
theorem get_r2 {l : List UInt8} (h : gQ l = false) (hr : z2 (gImg l) = false) : ya.canon = (getI l).1 := by rw [xd, if_neg (by rw [h]; simp), if_pos hr]; rfl
theorem get_r2e {l : List UInt8} (h : gQ l = false) (hr : z2 (gImg l) = false) : (151 : Int) = (getI l).2 := by rw [xd, if_neg (by rw [h]; simp), if_pos hr]
theorem get_r3 {l : List UInt8} (h : gQ l = false) (hr : z2 (gImg l) = true) : gImg l = (getI l).1 := by rw [xd, if_neg (by rw [h]; simp), if_neg (by rw [hr]; simp)]
theorem get_r3e {l : List UInt8} (h : gQ l = false) (hr : z2 (gImg l) = true) : (0 : Int) = (getI l).2 := by rw [xd, if_neg (by rw [h]; simp), if_neg (by rw [hr]; simp)]
end Go.Img
