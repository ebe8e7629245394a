/-
  Plain: what images are, and what is computed of them (no program here).
-/
import Derived.Test.YtgddigkdldnmdaaV6
namespace Go.Img
open Go Go.Vg

structure CompV where
  a : Option Addr
  cap : Nat
  code : List UInt8
  data : Int
structure LinkV where
  fr : Int
  to : Int
  ad : Int
deriving DecidableEq
structure ShareV where
  rd : Int
  wr : Int
deriving DecidableEq
structure InsV where
  op : Int
  a : Int
  b : Int
  c : Int
deriving DecidableEq
structure ImageV where
  strict : Bool
  heap : Int
  full : Int
  ca : Option Addr
  ccap : Nat
  comps : List CompV
  la : Option Addr
  lcap : Nat
  links : List LinkV
  sa : Option Addr
  scap : Nat
  shares : List ShareV

def encI (n : Int) : List Value := [.int .i64 n]
def encB (c : UInt8) : List Value := [.int .u8 (c.toNat : Int)]
def encBool (b : Bool) : List Value := [.bool b]
def zu (c : CompV) : List Value := [.slice c.a c.code.length c.cap, .int .i64 c.data]
def z1 (l : LinkV) : List Value := [.int .i64 l.fr, .int .i64 l.to, .int .i64 l.ad]
def zw (s : ShareV) : List Value := [.int .i64 s.rd, .int .i64 s.wr]
def xi (x : InsV) : List Value := [.int .i64 x.op, .int .i64 x.a, .int .i64 x.b, .int .i64 x.c]

/-! ### Instructions -/
def kj (op : Int) : List UInt8 :=
  if op < 0 ∨ 29 < op then []
  else if op = 0 ∨ op = 24 then [45, 45, 45]
  else if op = 1 ∨ op = 10 then [114, 119, 118]
  else if op = 9 then [45, 119, 118]
  else if op = 29 then [105, 45, 45]
  else if op = 2 ∨ op = 22 ∨ op = 23 ∨ op = 25 ∨ op = 26 ∨ op = 27 ∨ op = 28 then [114, 114, 45]
  else if op = 11 ∨ op = 12 ∨ op = 13 ∨ op = 14 ∨ op = 15 ∨ op = 16 ∨ op = 19 then [114, 114, 105]
  else [114, 114, 114]
def q3 (op : Int) : ByteArray := ⟨(kj op).toArray⟩
/-- is a number of a kind? -/
def z4 (k : Nat) (n : Int) : Bool :=
  if k = 114 then decide (0 ≤ n) && decide (n < 8) else if k = 105 then decide (0 ≤ n) && decide (n ≤ 255) else if k = 119 then decide (-32768 ≤ n) && decide (n ≤ 32767) else decide (n = 0)

def bndS (k : Int) : Int × Int := if k = 114 then (0, 7) else if k = 105 then (0, 255) else if k = 119 then (-32768, 32767) else (0, 0)
theorem fineN_bnd (k : Nat) (n : Int) : z4 k n = (decide ((bndS k).1 ≤ n) && decide (n ≤ (bndS k).2)) := by
  unfold z4 bndS
  have e1 : ((k : Int) = 114) = (k = 114) := by apply propext; omega
  have e2 : ((k : Int) = 105) = (k = 105) := by apply propext; omega
  have e3 : ((k : Int) = 119) = (k = 119) := by apply propext; omega
  simp only [e1, e2, e3]
  split
  · rw [Bool.eq_iff_iff]; simp; omega
  · split
    · rfl
    · split
      · rfl
      · rw [Bool.eq_iff_iff]; simp; omega
def zj (op : Int) (i : Nat) : UInt8 := ((kj op)[i]?).getD 0
theorem yp (s : ByteArray) : s.toList = s.data.toList := by
  have key : ∀ (k i : Nat) (acc : List UInt8), s.size - i = k → ByteArray.toList.loop s i acc = acc.reverse ++ s.data.toList.drop i := by
    intro k
    induction k with
    | zero =>
      intro i acc hk
      unfold ByteArray.toList.loop
      have hs : s.data.toList.length = s.size := rfl
      rw [if_neg (by omega), List.drop_eq_nil_of_le (by omega), List.append_nil]
    | succ k ih =>
      intro i acc hk
      unfold ByteArray.toList.loop
      have hi : i < s.size := by omega
      have hs : i < s.data.toList.length := hi
      rw [if_pos hi, ih (i + 1) _ (by omega), List.reverse_cons, List.append_assoc, List.drop_eq_getElem_cons hs]
      congr 2
      show s.data[i]! :: _ = _
      have hi' : i < s.data.size := hi
      rw [getElem!_pos s.data i hi']
      rfl
  have := key s.size 0 [] (by omega)
  simpa [ByteArray.toList] using this
theorem kinds_len (op : Int) : (q3 op).size = (kj op).length := rfl
theorem kindsU_get {op : Int} {i : Nat} (h : i < (q3 op).size) : (q3 op)[i]? = some (zj op i) := by
  have h' : i < (kj op).length := h
  have e : (q3 op)[i]'h = (kj op)[i]'h' := rfl
  rw [getElem?_pos (q3 op) i h, e]
  unfold zj
  rw [List.getElem?_eq_getElem h']; rfl
theorem kindsB_toList (op : Int) : (q3 op).toList = kj op := by rw [yp]; rfl
theorem arg3_dummy : True := trivial
def arg3 (x : InsV) (k : Nat) : Int := if k = 0 then x.a else if k = 1 then x.b else x.c
theorem arg3_get (x : InsV) {k : Nat} (h : k < 3) : [Value.int .i64 x.a, .int .i64 x.b, .int .i64 x.c][0 + k * 1]? = some (.int .i64 (arg3 x k)) := by
  have : k = 0 ∨ k = 1 ∨ k = 2 := by omega
  rcases this with rfl | rfl | rfl <;> rfl
theorem kinds_size (op : Int) : (q3 op).size = 0 ∨ (q3 op).size = 3 := by
  unfold q3 kj
  repeat' (first | (split) | (exact .inl rfl) | (exact .inr rfl))
theorem kinds_ascii (op : Int) (i : Nat) (h : i < (q3 op).size) : ((q3 op)[i]'h).toNat < 128 := by
  have key : ∀ c ∈ kj op, c.toNat < 128 := by
    unfold kj
    repeat' (first | (split) | (decide))
  have : (q3 op)[i]'h = (kj op)[i]'(by simpa [q3, ByteArray.size] using h) := rfl
  rw [this]
  exact key _ (List.getElem_mem _)
/-- may an instruction be so? -/
def insS (x : InsV) : Bool := decide (0 ≤ x.op) && (decide (x.op ≤ 29) && (List.range (q3 x.op).size).all fun i => z4 ((q3 x.op)[i]?.map UInt8.toNat |>.getD 0) (arg3 x i))
theorem insS_false {x : InsV} {k : Nat} (hk : k < (q3 x.op).size) (h : arg3 x k < (bndS (((q3 x.op)[k]'hk).toNat : Nat)).1 ∨ (bndS (((q3 x.op)[k]'hk).toNat : Nat)).2 < arg3 x k) : false = insS x := by
  unfold insS
  have : ((List.range (q3 x.op).size).all fun i => z4 ((q3 x.op)[i]?.map UInt8.toNat |>.getD 0) (arg3 x i)) = false := by
    rw [List.all_eq_false]
    refine ⟨k, by simpa using hk, ?_⟩
    rw [getElem?_pos (q3 x.op) k hk]
    simp only [Option.map_some, Option.getD_some]
    rw [fineN_bnd]
    simp only [Bool.and_eq_true, decide_eq_true_eq]
    omega
  rw [this]; simp
theorem fine_succ {x : InsV} {k : Nat} (hk : k < (q3 x.op).size) (hall : ∀ i, i < k → ∀ h : i < (q3 x.op).size, z4 ((q3 x.op)[i]'h).toNat (arg3 x i) = true)
    (h : ¬ (arg3 x k < (bndS (((q3 x.op)[k]'hk).toNat : Nat)).1) ∧ ¬ ((bndS (((q3 x.op)[k]'hk).toNat : Nat)).2 < arg3 x k)) : ∀ i, i < k + 1 → ∀ h : i < (q3 x.op).size, z4 ((q3 x.op)[i]'h).toNat (arg3 x i) = true := by
  intro i hi hs
  by_cases e : i = k
  · subst e
    rw [fineN_bnd]
    simp only [Bool.and_eq_true, decide_eq_true_eq]
    omega
  · exact hall i (by omega) hs
theorem insS_true {x : InsV} {k : Nat} (hk : ¬ k < (q3 x.op).size) (hall : ∀ i, i < k → ∀ h : i < (q3 x.op).size, z4 ((q3 x.op)[i]'h).toNat (arg3 x i) = true) : (decide (0 ≤ x.op) && decide (x.op ≤ 29)) = insS x := by
  unfold insS
  have : ((List.range (q3 x.op).size).all fun i => z4 ((q3 x.op)[i]?.map UInt8.toNat |>.getD 0) (arg3 x i)) = true := by
    rw [List.all_eq_true]
    intro i hi
    have hi' : i < (q3 x.op).size := by simpa using hi
    rw [getElem?_pos (q3 x.op) i hi']
    exact hall i (by omega) hi'
  rw [this]; simp
theorem kinds_none {op : Int} : (q3 op).size = 0 ↔ op < 0 ∨ 29 < op := by
  unfold q3 kj
  by_cases h : op < 0 ∨ 29 < op
  · simp [h]; rfl
  · simp only [h, if_false, iff_false]
    repeat' (first | (split) | (exact (by decide)))
theorem kinds_ne {op : Int} (h : (!decide ((q3 op).toList = (⟨#[]⟩ : ByteArray).toList)) = true) : (q3 op).size = 3 := by
  rcases kinds_size op with h0 | h3
  · exfalso
    have : kj op = [] := by
      have : (kj op).length = 0 := h0
      exact List.eq_nil_of_length_eq_zero this
    rw [kindsB_toList, this, yp] at h
    simp at h
  · exact h3
def jz (b c : Int) : Int := if 32768 ≤ b * 256 + c then b * 256 + c - 65536 else b * 256 + c
theorem shl8_u16 {a : Int} (h : 0 ≤ a ∧ a ≤ 255) : IntKind.u16.wrap (a * 2 ^ (min (8 : Int).toNat IntKind.u16.bits)) = a * 256 := by
  have e : (2 : Int) ^ (min (8 : Int).toNat IntKind.u16.bits) = 256 := by decide
  rw [e, wrap_u16 (by omega)]
theorem or_u16 {a b : Int} (ha : 0 ≤ a ∧ a ≤ 255) (hb : 0 ≤ b ∧ b ≤ 255) : jf .or .u16 (a * 256) b = a * 256 + b := by
  obtain ⟨n, rfl⟩ := Int.eq_ofNat_of_zero_le ha.1
  obtain ⟨m, rfl⟩ := Int.eq_ofNat_of_zero_le hb.1
  have h1 : BitVec.ofInt IntKind.u16.bits ((n : Int) * 256) = BitVec.ofNat 16 (n * 256) := by
    have : ((n : Int) * 256) = ((n * 256 : Nat) : Int) := by omega
    rw [this]; exact BitVec.ofInt_natCast 16 _
  have h2 : BitVec.ofInt IntKind.u16.bits (m : Int) = BitVec.ofNat 16 m := BitVec.ofInt_natCast 16 _
  unfold jf
  simp only [h1, h2]
  have h3 : (BitVec.ofNat 16 (n * 256) ||| BitVec.ofNat 16 m).toNat = n * 256 + m := by
    rw [BitVec.toNat_or, BitVec.toNat_ofNat, BitVec.toNat_ofNat, Nat.mod_eq_of_lt (by omega), Nat.mod_eq_of_lt (by omega)]
    have := Nat.shiftLeft_add_eq_or_of_lt (i := 8) (b := m) (by omega) n
    rw [Nat.shiftLeft_eq] at this
    exact this.symm
  refine (congrArg (fun z : Nat => IntKind.u16.wrap (z : Int)) h3).trans ?_
  show IntKind.u16.wrap ((n * 256 + m : Nat) : Int) = _
  rw [wrap_u16 (by omega)]; omega
theorem i16_wide {b c : Int} (hb : 0 ≤ b ∧ b ≤ 255) (hc : 0 ≤ c ∧ c ≤ 255) : IntKind.i16.wrap (b * 256 + c) = jz b c := by
  unfold jz IntKind.wrap
  simp [IntKind.bits, IntKind.signed]
  split <;> split <;> omega
theorem shl8_b (c : UInt8) : IntKind.u16.wrap ((c.toNat : Int) * 2 ^ (min (8 : Int).toNat IntKind.u16.bits)) = (c.toNat : Int) * 256 := shl8_u16 (by have := c.toNat_lt; omega)
theorem or_b (c d : UInt8) : jf .or .u16 ((c.toNat : Int) * 256) (d.toNat : Int) = (c.toNat : Int) * 256 + (d.toNat : Int) := or_u16 (by have := c.toNat_lt; omega) (by have := d.toNat_lt; omega)
theorem wide_b (c d : UInt8) : IntKind.i16.wrap ((c.toNat : Int) * 256 + (d.toNat : Int)) = jz c.toNat d.toNat := i16_wide (by have := c.toNat_lt; omega) (by have := d.toNat_lt; omega)
theorem wide_i64 (c d : UInt8) : IntKind.i64.wrap (jz c.toNat d.toNat) = jz c.toNat d.toNat := wrap_i64 (by have := c.toNat_lt; have := d.toNat_lt; unfold jz; split <;> omega)
/-- the instruction of four bytes, right or not -/
def insOf (b0 b1 b2 b3 : UInt8) : InsV :=
  if b0 = 1 ∨ b0 = 10 ∨ b0 = 9 then ⟨b0.toNat, b1.toNat, jz b2.toNat b3.toNat, 0⟩ else ⟨b0.toNat, b1.toNat, b2.toNat, b3.toNat⟩
def insZ : InsV := ⟨0, 0, 0, 0⟩
/-- code.Get -/
def getS (l : List UInt8) : InsV × Int :=
  match l with
  | [b0, b1, b2, b3] => if insS (insOf b0 b1 b2 b3) then (insOf b0 b1 b2 b3, 0) else (insZ, 151)
  | _ => (insZ, 1)
def insCells (x : InsV) : Array Value := #[.int .i64 x.op, .int .i64 x.a, .int .i64 x.b, .int .i64 x.c]
theorem getS_other {l : List UInt8} (h : (l.length : Int) ≠ 4) : getS l = (insZ, 1) := by
  unfold getS
  split
  · simp at h
  · rfl
theorem xf {l : List UInt8} (h : l.length = 4) : getS l = if insS (insOf l[0] l[1] l[2] l[3]) then (insOf l[0] l[1] l[2] l[3], 0) else (insZ, 151) := by
  match l, h with
  | [a, b, c, d], _ => rfl
def yc (op : Int) : Bool := decide (op = 1) || (decide (op = 10) || decide (op = 9))
theorem insOf_wide {b0 b1 b2 b3 : UInt8} (h : yc b0.toNat = true) : insOf b0 b1 b2 b3 = ⟨b0.toNat, b1.toNat, jz b2.toNat b3.toNat, 0⟩ := by
  unfold insOf
  rw [if_pos]
  unfold yc at h
  simp only [Bool.or_eq_true, decide_eq_true_eq] at h
  rcases h with h | h | h
  · exact .inl (UInt8.toNat_inj.1 (by have : b0.toNat = 1 := by omega
                                      simpa using this))
  · exact .inr (.inl (UInt8.toNat_inj.1 (by have : b0.toNat = 10 := by omega
                                            simpa using this)))
  · exact .inr (.inr (UInt8.toNat_inj.1 (by have : b0.toNat = 9 := by omega
                                            simpa using this)))
theorem insOf_thin {b0 b1 b2 b3 : UInt8} (h : yc b0.toNat = false) : insOf b0 b1 b2 b3 = ⟨b0.toNat, b1.toNat, b2.toNat, b3.toNat⟩ := by
  unfold insOf
  rw [if_neg]
  unfold yc at h
  simp only [Bool.or_eq_false_iff, decide_eq_false_iff_not] at h
  rintro (rfl | rfl | rfl) <;> simp at h
theorem wide_eq (op : Int) : ((!decide ((q3 op).toList = (⟨#[]⟩ : ByteArray).toList)) && decide (((zj op 1).toNat : Int) = 119)) = yc op := by
  rw [kindsB_toList, yp]
  unfold yc zj kj
  split
  · rename_i h
    have e1 : op ≠ 1 := by omega
    have e2 : op ≠ 10 := by omega
    have e3 : op ≠ 9 := by omega
    simp [e1, e2, e3]
  · split
    · rename_i h; rcases h with rfl | rfl <;> decide
    · split
      · rename_i h; rcases h with rfl | rfl <;> decide
      · split
        · rename_i h; subst h; decide
        · have e1 : op ≠ 1 := by omega
          have e2 : op ≠ 10 := by omega
          have e3 : op ≠ 9 := by omega
          simp only [e1, e2, e3, decide_false, Bool.or_false]
          repeat' (first | split | decide)

/-! ### Forms -/
def qd (n a b : Int) : Bool := decide (a ≤ n) && decide (n ≤ b)
def kf (c : CompV) : Bool := qd c.code.length 4 4096 && (decide ((c.code.length : Int) % 4 = 0) && qd c.data 1 8)
end Go.Img
