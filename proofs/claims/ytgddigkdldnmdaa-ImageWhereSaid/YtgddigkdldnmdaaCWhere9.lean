import Derived.Test.YtgddigkdldnmdaaCWhere8
namespace Go.Proofs.Ytgddigkdldnmdaa
open Go Go.Vg Go.Img
set_option linter.unusedSimpArgs false
set_option maxHeartbeats 4000000
theorem en59 : ∀ args w,(callFunc 59 args).run Try.prog w = .ok (.enter 59 args) w:=fun args w=>qy Try.func59 (by kernel_rfl) rfl args w
theorem en35 : ∀ args w,(callFunc 35 args).run Try.prog w = .ok (.enter 35 args) w:=fun args w=>qy Try.func35 (by kernel_rfl) rfl args w
theorem en40 : ∀ args w,(callFunc 40 args).run Try.prog w = .ok (.enter 40 args) w:=fun args w=>qy Try.func40 (by kernel_rfl) rfl args w

theorem rf_snoc {α : Type} {p : α → Bool} {l : List α} {k : Nat} (h : ∀ x ∈ l.take k,p x = true) (hk : k < l.length) (hx : p l[k] = true) : ∀ x ∈ l.take (k + 1),p x = true:=by
 intro x hm
 rw [List.take_succ_eq_append_getElem hk,List.mem_append,List.mem_singleton] at hm
 rcases hm with hm|rfl
 ·exact h x hm
 ·exact hx
theorem rf_snocF {α : Type} {p : α → Bool} {l : List α} {k : Nat} (h : ∀ x ∈ l.take k,p x = false) (hk : k < l.length) (hx : p l[k] = false) : ∀ x ∈ l.take (k + 1),p x = false:=by
 intro x hm
 rw [List.take_succ_eq_append_getElem hk,List.mem_append,List.mem_singleton] at hm
 rcases hm with hm|rfl
 ·exact h x hm
 ·exact hx
theorem rf_all {α : Type} {p : α → Prop} {l : List α} {k : Nat} (h : ∀ x ∈ l.take k,p x) (hk : l.length ≤ k) : ∀ x ∈ l,p x:=by rw [List.take_of_length_le hk] at h; exact h
def E0 (m : ImageV) : Bool:=((((!(qd m.heap 1 64)) || (!(qd m.full 1 4096))) || (!(qd ((m.comps.length : Nat) : Int) 1 4))) || (decide (16 < ((m.links.length : Nat) : Int)))) || (decide (4 < ((m.shares.length : Nat) : Int)))
theorem E0_eq (m : ImageV) : E0 m = !form0S m:=by
 have e1 : decide ((16 : Int) < ((m.links.length : Nat) : Int)) = !decide (((m.links.length : Nat) : Int) ≤ 16):=by rw [Bool.eq_iff_iff]; simp
 have e2 : decide ((4 : Int) < ((m.shares.length : Nat) : Int)) = !decide (((m.shares.length : Nat) : Int) ≤ 4):=by rw [Bool.eq_iff_iff]; simp
 unfold E0 form0S
 rw [e1,e2]
 simp only [Bool.not_and,Bool.or_assoc]
theorem formS_split (m : ImageV) : jo m = true ↔ form0S m = true ∧ (∀ c ∈ m.comps,kf c = true) ∧ (∀ l ∈ m.links,km m l = true) ∧ jr m.links = true ∧ ∀ s ∈ m.shares,jm m s = true:=by
 simp only [jo,Bool.and_eq_true,List.all_eq_true,and_assoc]
theorem formS_no {m : ImageV} (h : ¬ (form0S m = true ∧ (∀ c ∈ m.comps,kf c = true) ∧ (∀ l ∈ m.links,km m l = true) ∧ jr m.links = true ∧ ∀ s ∈ m.shares,jm m s = true)) : jo m = false:=by
 cases hf : jo m
 ·rfl
 ·exact absurd ((formS_split m).1 hf) h
theorem rf_0 {m : ImageV} (h : E0 m = true) : jo m = false:=formS_no fun hh=>by rw [E0_eq,hh.1] at h; cases h
theorem rf_0f {m : ImageV} (h : E0 m = false) : form0S m = true:=by rw [E0_eq] at h; simpa using h
theorem rf_small {m : ImageV} (h : form0S m = true) : 1 ≤ m.comps.length ∧ m.comps.length ≤ 4 ∧ m.links.length ≤ 16 ∧ m.shares.length ≤ 4:=by
 simp only [form0S,Bool.and_eq_true,decide_eq_true_eq,jx] at h
 omega
theorem rf_yes {m : ImageV} (h0 : form0S m = true) (h1 : ∀ c ∈ m.comps,kf c = true) (h2 : ∀ l ∈ m.links,km m l = true) (h3 : jr m.links = true) (h4 : ∀ s ∈ m.shares,jm m s = true) : jo m = true:=(formS_split m).2 ⟨h0,h1,h2,h3,h4⟩
theorem rf_nc {m : ImageV} {c : CompV} (hc : c ∈ m.comps) (h : kf c = false) : jo m = false:=formS_no fun hh=>by rw [hh.2.1 c hc] at h; cases h
theorem rf_nl {m : ImageV} {c : LinkV} (hc : c ∈ m.links) (h : km m c = false) : jo m = false:=formS_no fun hh=>by rw [hh.2.2.1 c hc] at h; cases h
theorem rf_ns {m : ImageV} {c : ShareV} (hc : c ∈ m.shares) (h : jm m c = false) : jo m = false:=formS_no fun hh=>by rw [hh.2.2.2.2 c hc] at h; cases h
theorem rf_comp (c : CompV) : (((!(qd ((c.code.length : Nat) : Int) 4 4096)) || (decide (((c.code.length : Nat) : Int) % 4 ≠ 0))) || (!(qd c.data 1 8))) = !kf c:=by
 have e1 : decide (((c.code.length : Nat) : Int) % 4 ≠ 0) = !decide (((c.code.length : Nat) : Int) % 4 = 0):=by rw [Bool.eq_iff_iff]; simp
 unfold kf
 rw [e1]
 simp only [Bool.not_and,Bool.or_assoc]
theorem rf_link {m : ImageV} {k : LinkV} (h0 : 0 ≤ k.to) (h1 : k.to < m.comps.length) : (((((!(qd k.fr 0 (((m.comps.length : Nat) : Int) - 1))) || (!(qd k.to 0 (((m.comps.length : Nat) : Int) - 1)))) || (decide (k.fr = k.to))) || (decide (k.ad < 0))) || (decide (((((m.comps[k.to.toNat]'(by omega)).code.length : Nat) : Int) / 4) ≤ k.ad))) = !km m k:=by
 have e:=codeLen_at h0 h1
 unfold km
 rw [e,Bool.eq_iff_iff]
 simp only [Bool.or_eq_true,Bool.not_eq_true',decide_eq_true_eq,Bool.and_eq_false_imp,Bool.and_eq_true,qd,decide_eq_false_iff_not,Bool.not_eq_false',Decidable.not_not]
 omega
theorem rf_linkn {m : ImageV} {k : LinkV} (h : ¬ (0 ≤ k.to ∧ k.to < m.comps.length)) : km m k = false:=by
 cases hl : km m k
 ·rfl
 ·have:=linkS_ok hl; exact absurd ⟨this.2.2.1,this.2.2.2.1⟩ h
theorem rf_wn {t : Int} {n : Nat} (h : ¬ (0 ≤ t ∧ t < n)) : qd t 0 (((n : Nat) : Int) - 1) = false:=by
 cases hw : qd t 0 (((n : Nat) : Int) - 1)
 ·rfl
 ·rw [jx] at hw; exact absurd ⟨hw.1,by omega⟩ h
def cntI (ls : List LinkV) (x : Int) : Nat:=(ls.filter fun k=>decide (k.fr = x)).length
theorem cntI_eq (ls : List LinkV) (i : Nat) : cntI ls (i : Int) = cntL ls i:=rfl
theorem cntI_succ {ls : List LinkV} {k : Nat} (h : k < ls.length) (x : Int) : cntI (ls.take (k + 1)) x = cntI (ls.take k) x + (if (ls[k]).fr = x then 1 else 0):=by
 unfold cntI
 rw [List.take_succ_eq_append_getElem h,List.filter_append,List.length_append]
 congr 1
 by_cases h : (ls[k]).fr = x <;> simp [h]
theorem cntI_y {ls : List LinkV} {k : Nat} (h : k < ls.length) {x : Int} (hx : (ls[k]).fr = x) : cntI (ls.take k) x + 1 = cntI (ls.take (k + 1)) x:=by rw [cntI_succ h,if_pos hx]
theorem cntI_n {ls : List LinkV} {k : Nat} (h : k < ls.length) {x : Int} (hx : ¬ (ls[k]).fr = x) : cntI (ls.take k) x = cntI (ls.take (k + 1)) x:=by rw [cntI_succ h,if_neg hx]; rfl
theorem cntI_le2 (ls : List LinkV) (k : Nat) (x : Int) : cntI (ls.take k) x ≤ ls.length:=Nat.le_trans (List.length_filter_le _ _) (by rw [List.length_take]; omega)
theorem cntI_le (ls : List LinkV) (x : Int) : cntI ls x ≤ ls.length:=List.length_filter_le _ _
theorem rf_cnt {ls : List LinkV} {i : Nat} (h : ∀ f : Nat,cntL (ls.take i) f ≤ 8) (hi : i < ls.length) (_h0 : 0 ≤ (ls[i]).fr) {j : Nat} (he : j = i + 1) (hc : cntI (ls.take j) (ls[i]).fr ≤ 8) : ∀ f : Nat,cntL (ls.take (i + 1)) f ≤ 8:=by
 subst he
 intro f
 by_cases e : (ls[i]).fr = (f : Int)
 ·rw [← cntI_eq,← e]; exact hc
 ·rw [← cntI_eq,cntI_succ hi,if_neg e]; exact h f
theorem rf_many {ls : List LinkV} {i : Nat} (h : ∀ f : Nat,cntL (ls.take i) f ≤ 8) (hi : ls.length ≤ i) : jr ls = true:=by
 rw [List.take_of_length_le hi] at h
 simp only [jr,List.all_eq_true,decide_eq_true_eq]
 exact fun f _=>h f
theorem cntI_mono {ls : List LinkV} {k : Nat} (x : Int) : cntI (ls.take k) x ≤ cntI ls x:=by
 unfold cntI
 exact ((List.take_sublist k ls).filter _).length_le
theorem rf_nm {m : ImageV} {i : Nat} (hi : i < m.links.length) (h0 : 0 ≤ (m.links[i]).fr) (h4 : (m.links[i]).fr < 4) {j : Nat} (he : j = i + 1) (h : 8 < cntI (m.links.take j) (m.links[i]).fr) : jo m = false:=formS_no fun hh=>by
 subst he
 have hm:=hh.2.2.2.1
 simp only [jr,List.all_eq_true,decide_eq_true_eq] at hm
 have h1:=hm (m.links[i]).fr.toNat (by simp; omega)
 have h2 : cntL m.links (m.links[i]).fr.toNat = cntI m.links (m.links[i]).fr:=by
  rw [← cntI_eq]; congr 1; omega
 have:=cntI_mono (ls:=m.links) (k:=i + 1) (m.links[i]).fr
 omega
theorem and_not_eq {x y : BitVec 64} : (x &&& y = x) ↔ (x &&& ~~~y = 0#64):=by
 constructor
 ·intro h
  rw [← h,BitVec.and_assoc]; simp
 ·intro h
  have e : x = (x &&& y) ||| (x &&& ~~~y):=by
   apply BitVec.eq_of_getLsbD_eq
   intro i hi
   simp only [BitVec.getLsbD_or,BitVec.getLsbD_and,BitVec.getLsbD_not,hi,decide_true,Bool.true_and]
   cases x.getLsbD i <;> cases y.getLsbD i <;> rfl
  rw [h] at e
  simpa using e.symm
theorem and_wr {a b : Int} (h0 : 0 ≤ a) (h1 : a ≤ 9223372036854775807) : decide (jf .and .i64 a b ≠ a) = !decide (jf .andNot .i64 a b = 0):=by
 have e1 : jf .and .i64 a b = IntKind.i64.wrap (((BitVec.ofInt 64 a &&& BitVec.ofInt 64 b).toNat : Nat) : Int):=rfl
 have e2 : jf .andNot .i64 a b = IntKind.i64.wrap (((BitVec.ofInt 64 a &&& ~~~ BitVec.ofInt 64 b).toNat : Nat) : Int):=rfl
 have hx : (BitVec.ofInt 64 a).toNat = a.toNat:=by
  rw [BitVec.toNat_ofInt]
  have : a % ((2 ^ 64 : Nat) : Int) = a:=Int.emod_eq_of_lt h0 (by omega)
  rw [this]
 have l1 : (BitVec.ofInt 64 a &&& BitVec.ofInt 64 b).toNat ≤ a.toNat:=by rw [BitVec.toNat_and,hx]; exact Nat.and_le_left
 have l2 : (BitVec.ofInt 64 a &&& ~~~ BitVec.ofInt 64 b).toNat ≤ a.toNat:=by rw [BitVec.toNat_and,hx]; exact Nat.and_le_left
 rw [e1,e2,wrap_i64 (by omega),wrap_i64 (by omega)]
 have k1 : ((BitVec.ofInt 64 a &&& BitVec.ofInt 64 b).toNat : Int) = a ↔ BitVec.ofInt 64 a &&& BitVec.ofInt 64 b = BitVec.ofInt 64 a:=by
  rw [← BitVec.toNat_inj,hx]; omega
 have k2 : ((BitVec.ofInt 64 a &&& ~~~ BitVec.ofInt 64 b).toNat : Int) = 0 ↔ BitVec.ofInt 64 a &&& ~~~ BitVec.ofInt 64 b = 0#64:=by
  rw [← BitVec.toNat_inj]; simp
 rw [Bool.eq_iff_iff]
 simp only [decide_eq_true_eq,Bool.not_eq_true',decide_eq_false_iff_not,ne_eq,k1,k2,and_not_eq]
theorem rf_share {m : ImageV} {s : ShareV} (h : s.wr ≤ 9223372036854775807) : (((!(qd s.rd 0 ((2 : Int) ^ m.comps.length - 1))) || (decide (s.wr < 0))) || (decide (jf .and .i64 s.wr s.rd ≠ s.wr))) = !jm m s:=by
 unfold jm
 by_cases h0 : 0 ≤ s.wr
 ·rw [and_wr h0 h,decide_eq_true h0,decide_eq_false (by omega : ¬ s.wr < 0)]
  simp
 ·rw [decide_eq_false h0,decide_eq_true (by omega : s.wr < 0)]
  simp
theorem rr_0 {m : ImageV} (h : jo m = false) : z2 m = false:=by unfold z2; rw [h]; rfl
theorem rr_yes {m : ImageV} (h : jo m = true) (h2 : ∀ c ∈ m.comps,xl c m.strict = true) : z2 m = true:=by
 unfold z2; rw [h,Bool.true_and,List.all_eq_true]; exact h2
theorem rr_n {m : ImageV} {c : CompV} (hc : c ∈ m.comps) (h : xl c m.strict = false) : z2 m = false:=by
 cases hr : z2 m
 ·rfl
 ·simp only [z2,Bool.and_eq_true,List.all_eq_true] at hr; rw [hr.2 c hc] at h; cases h
theorem rr_bad {c : CompV} {b : Bool} (h : (allS c.code).2.2 ≠ 0) : xl c b = false:=by unfold xl; rw [decide_eq_false h]; rfl
theorem rr_run {c : CompV} {b : Bool} (h : (allS c.code).2.2 = 0) (h2 : ∀ x ∈ (allS c.code).1,(b && decide (x.op = 28)) = false) : xl c b = true:=by
 unfold xl
 rw [decide_eq_true h,Bool.true_and]
 cases b
 ·rfl
 ·simp only [Bool.true_and] at h2
  simp only [Bool.not_true,Bool.false_or,Bool.not_eq_true',List.any_eq_false]
  intro x hx; rw [h2 x hx]; simp
theorem rr_ask {c : CompV} {b : Bool} {x : InsV} (hx : x ∈ (allS c.code).1) (h : (b && decide (x.op = 28)) = true) : xl c b = false:=by
 unfold xl
 simp only [Bool.and_eq_true] at h
 rw [h.1]
 have : ((allS c.code).1.any fun x=>decide (x.op = 28)) = true:=List.any_eq_true.2 ⟨x,hx,h.2⟩
 rw [this]; simp

/-- seizin/seizinref17.within -/
theorem yb (n a b : Int) (w : World)  :
  C Try.prog 59 [vI n,vI a,vI b] w fun v w'=>v = .bool (qd n a b) ∧ Grow w w':=by
 have hs0 : St w (fun _=>False) w [] []:=St.start w _ (by simp)
 refine z8 [.tmp 6] 15 Try.func59 rfl Try.ntmps59 rfl rfl ?_
 refine qi (qc ?_)
 refine qa rfl (qf (v:=.bool false) rfl rfl ?_)
 refine ql (qb (qi (qc ?_)))
 refine qa rfl (qj (v:=vI n) rfl rfl ?_)
 refine qa rfl (qj (v:=vI a) rfl rfl ?_)
 refine qa rfl (qt (k:=.i64) (k':=.i64) (a:=n) (b:=a) rfl rfl rfl b_geq ?_)
 refine qa rfl (qj (v:=.bool (decide (a ≤ n))) rfl rfl ?_)
 refine kn (v:=vI n) rfl rfl rfl rfl (fun hg1=>qj (v:=vI n) rfl rfl ⟨rfl,rfl⟩) ?_
 refine kn (v:=vI b) rfl rfl rfl rfl (fun hg2=>qj (v:=vI b) rfl rfl ⟨rfl,rfl⟩) ?_
 refine kn (v:=.bool (decide (n ≤ b))) rfl rfl rfl rfl (fun hg3=>qt (k:=.i64) (k':=.i64) (a:=n) (b:=b) (show ev _ _ = vI n from if_pos hg3) (show ev _ _ = vI b from if_pos hg3) rfl b_leq ⟨rfl,rfl⟩) ?_
 refine qa rfl (ka rfl (j1 _ _) rfl ?_)
 refine qa rfl (qf (v:=.bool (decide (a ≤ n) && decide (n ≤ b))) rfl rfl ?_)
 refine ql (qb (zo ?_))
 refine ⟨.bool (decide (a ≤ n) && decide (n ≤ b)),res1 rfl,?_⟩
 exact ⟨rfl,hs0.base⟩

set_option maxHeartbeats 4000000 in
/-- seizin/seizinref17.form -/
theorem rform_c (m : ImageV) (w : World) (hm : ∀ i ∈ kh m,i.φ w) (hb : ImgB m) (hwr : ∀ s ∈ m.shares,s.wr ≤ 9223372036854775807) :
  C Try.prog 35 [.agg (qn m).toArray] w fun v w'=>v = .bool (jo m) ∧ Grow w w':=by
 have hs0 : St w (fun _=>False) w [] (kh m):=St.start w _ hm
 refine z8 [.tmp 2] 174 Try.func35 rfl Try.ntmps35 rfl rfl ?_
 refine qi (qc ?_)
 refine qa rfl (jw (v:=.agg (qn m).toArray) (cs:=(qn m)) hs0 rfl rfl rfl ?_)
 intro b1 w2 hb4 hs3
 refine qa rfl (qf (v:=.bool false) rfl rfl ?_)
 refine ql (qb (qi (qc ?_)))
 refine qa rfl (qg rfl jq rfl (o':=3) rfl rfl ?_)
 refine qa rfl (qq (v:=.slice m.ca m.comps.length m.ccap) rfl ag22 (qh (hs3.get 0 rfl) rfl) rfl ?_)
 refine qa rfl (qx (len:=m.comps.length) rfl un22 rfl ?_)
 refine qa rfl (qf (v:=vI ((m.comps.length : Nat) : Int)) rfl rfl ?_)
 refine ql (qb (qi (qi (qc ?_))))
 refine qa rfl (qg rfl fd26_1 rfl (o':=1) rfl rfl ?_)
 refine qa rfl (qq (v:=vI m.heap) rfl ag3 (qh (hs3.get 0 rfl) rfl) rfl ?_)
 refine qa rfl (zi (args:=[vI m.heap,vI 1,vI 64]) rfl rfl rfl en59 (yb m.heap 1 64 _) ?_)
 rintro _ w5 ⟨rfl,hk7⟩
 have hs6:=hs3.keep hk7
 refine qa rfl (j0 (b:=(qd m.heap 1 64)) rfl rfl ?_)
 refine qa rfl (qj (v:=.bool (!(qd m.heap 1 64))) rfl rfl ?_)
 refine q4 (v:=.pointer (some ⟨b1,2,none⟩)) rfl rfl rfl rfl (fun hg8=>qg rfl fd26_2 rfl (o':=2) rfl rfl ⟨rfl,rfl⟩) ?_
 refine q4 (v:=vI m.full) rfl rfl rfl rfl (fun hg9=>qq (v:=vI m.full) (show ev _ _ = .pointer (some ⟨b1,2,none⟩) from if_pos hg9) ag3 (qh (hs6.get 0 rfl) rfl) rfl ⟨rfl,rfl⟩) ?_
 refine L_guard_f (v:=.bool (qd m.full 1 4096)) rfl rfl rfl rfl hs6 (fun hg10=>?_) (fun w14 hs15=>?_)
 ·refine zi (args:=[vI m.full,vI 1,vI 4096]) rfl (cons2 (if_pos hg10) (cons2 rfl (cons2 rfl rfl))) rfl en59 (yb m.full 1 4096 _) ?_
  rintro _ w11 ⟨rfl,hk13⟩
  have hs12:=hs6.keep hk13
  exact ⟨rfl,hs12⟩
 refine q4 (v:=.bool (!(qd m.full 1 4096))) rfl rfl rfl rfl (fun hg16=>j0 (b:=(qd m.full 1 4096)) (show ev _ _ = .bool (qd m.full 1 4096) from if_pos hg16) rfl ⟨rfl,rfl⟩) ?_
 obtain ⟨B17,hB17⟩ : ∃ b : Bool,b = ((!(qd m.heap 1 64)) || (!(qd m.full 1 4096))):=⟨_,rfl⟩
 refine qa rfl (ka (v:=.bool B17) rfl (Eq.trans (jk _ _) (congrArg Value.bool hB17.symm)) rfl ?_)
 refine qa rfl (qj (v:=.bool B17) rfl rfl ?_)
 refine q4 (v:=vI ((m.comps.length : Nat) : Int)) rfl rfl rfl rfl (fun hg18=>qj (v:=vI ((m.comps.length : Nat) : Int)) rfl rfl ⟨rfl,rfl⟩) ?_
 refine L_guard_f (v:=.bool (qd ((m.comps.length : Nat) : Int) 1 4)) rfl rfl rfl rfl hs15 (fun hg19=>?_) (fun w23 hs24=>?_)
 ·refine zi (args:=[vI ((m.comps.length : Nat) : Int),vI 1,vI 4]) rfl (cons2 (if_pos hg19) (cons2 rfl (cons2 rfl rfl))) rfl en59 (yb ((m.comps.length : Nat) : Int) 1 4 _) ?_
  rintro _ w20 ⟨rfl,hk22⟩
  have hs21:=hs15.keep hk22
  exact ⟨rfl,hs21⟩
 refine q4 (v:=.bool (!(qd ((m.comps.length : Nat) : Int) 1 4))) rfl rfl rfl rfl (fun hg25=>j0 (b:=(qd ((m.comps.length : Nat) : Int) 1 4)) (show ev _ _ = .bool (qd ((m.comps.length : Nat) : Int) 1 4) from if_pos hg25) rfl ⟨rfl,rfl⟩) ?_
 obtain ⟨B26,hB26⟩ : ∃ b : Bool,b = (B17 || (!(qd ((m.comps.length : Nat) : Int) 1 4))):=⟨_,rfl⟩
 refine qa rfl (ka (v:=.bool B26) rfl (Eq.trans (jk _ _) (congrArg Value.bool hB26.symm)) rfl ?_)
 refine qa rfl (qj (v:=.bool B26) rfl rfl ?_)
 refine q4 (v:=.pointer (some ⟨b1,4,none⟩)) rfl rfl rfl rfl (fun hg27=>qg rfl xx rfl (o':=4) rfl rfl ⟨rfl,rfl⟩) ?_
 refine q4 (v:=.slice m.la m.links.length m.lcap) rfl rfl rfl rfl (fun hg28=>qq (v:=.slice m.la m.links.length m.lcap) (show ev _ _ = .pointer (some ⟨b1,4,none⟩) from if_pos hg28) ag23 (qh (hs24.get 0 rfl) rfl) rfl ⟨rfl,rfl⟩) ?_
 refine q4 (v:=vI ((m.links.length : Nat) : Int)) rfl rfl rfl rfl (fun hg29=>qx (len:=m.links.length) (show ev _ _ = .slice m.la m.links.length m.lcap from if_pos hg29) un23 rfl ⟨rfl,rfl⟩) ?_
 refine q4 (v:=.bool (decide (16 < ((m.links.length : Nat) : Int)))) rfl rfl rfl rfl (fun hg30=>qt (k:=.i64) (k':=.i64) (a:=((m.links.length : Nat) : Int)) (b:=16) (show ev _ _ = vI ((m.links.length : Nat) : Int) from if_pos hg30) rfl rfl b_gtr ⟨rfl,rfl⟩) ?_
 obtain ⟨B31,hB31⟩ : ∃ b : Bool,b = (B26 || (decide (16 < ((m.links.length : Nat) : Int)))):=⟨_,rfl⟩
 refine qa rfl (ka (v:=.bool B31) rfl (Eq.trans (jk _ _) (congrArg Value.bool hB31.symm)) rfl ?_)
 refine qa rfl (qj (v:=.bool B31) rfl rfl ?_)
 refine q4 (v:=.pointer (some ⟨b1,5,none⟩)) rfl rfl rfl rfl (fun hg32=>qg rfl xo rfl (o':=5) rfl rfl ⟨rfl,rfl⟩) ?_
 refine q4 (v:=.slice m.sa m.shares.length m.scap) rfl rfl rfl rfl (fun hg33=>qq (v:=.slice m.sa m.shares.length m.scap) (show ev _ _ = .pointer (some ⟨b1,5,none⟩) from if_pos hg33) ag24 (qh (hs24.get 0 rfl) rfl) rfl ⟨rfl,rfl⟩) ?_
 refine q4 (v:=vI ((m.shares.length : Nat) : Int)) rfl rfl rfl rfl (fun hg34=>qx (len:=m.shares.length) (show ev _ _ = .slice m.sa m.shares.length m.scap from if_pos hg34) un24 rfl ⟨rfl,rfl⟩) ?_
 refine q4 (v:=.bool (decide (4 < ((m.shares.length : Nat) : Int)))) rfl rfl rfl rfl (fun hg35=>qt (k:=.i64) (k':=.i64) (a:=((m.shares.length : Nat) : Int)) (b:=4) (show ev _ _ = vI ((m.shares.length : Nat) : Int) from if_pos hg35) rfl rfl b_gtr ⟨rfl,rfl⟩) ?_
 obtain ⟨B36,hB36⟩ : ∃ b : Bool,b = (B31 || (decide (4 < ((m.shares.length : Nat) : Int)))):=⟨_,rfl⟩
 refine qa rfl (ka (v:=.bool B36) rfl (Eq.trans (jk _ _) (congrArg Value.bool hB36.symm)) rfl ?_)
 subst hB36
 subst hB31
 subst hB26
 subst hB17
 refine ql (qb ?_)
 refine k5 (t:=(((((!(qd m.heap 1 64)) || (!(qd m.full 1 4096))) || (!(qd ((m.comps.length : Nat) : Int) 1 4))) || (decide (16 < ((m.links.length : Nat) : Int)))) || (decide (4 < ((m.shares.length : Nat) : Int))))) rfl (fun hc37=>?_) (fun hc37=>?_)
 ·refine qi (qc ?_)
  refine qa rfl (qf (v:=.bool false) rfl rfl ?_)
  refine ql (qb (zo (q9 ?_)))
  refine ⟨.bool false,res1 rfl,?_⟩
  exact ⟨congrArg Value.bool (rf_0 hc37).symm,hs24.base⟩
 ·refine zn (qb (qi (qi ?_)))
  have h0:=rf_0f hc37
  have hsm:=rf_small h0
  have h4 : m.comps.length ≤ 4:=hsm.2.1
  refine qc ?_
  refine qa rfl (qf (v:=vI 0) rfl rfl ?_)
  refine ql (qb (zy ?_))
  refine kw (fun m_ f_ w_=>∃ k : Nat,m_ = m.comps.length - k ∧ (k ≤ m.comps.length) ∧ (∀ c ∈ m.comps.take k,kf c = true) ∧ f_ 1 = .pointer (some ⟨b1,0,none⟩) ∧ f_ 3 = vI ((m.comps.length : Nat) : Int) ∧ f_ 4 = vI ((k : Nat) : Int) ∧ St w (fun _=>False) w_ [blk b1 (qn m) 26] (kh m)) ?_ ?_
  ·exact ⟨_,0,rfl,Nat.zero_le _,(fun _ h=>by simp at h),rfl,rfl,rfl,hs24⟩
  ·intro m41 f38 w39; rintro ⟨k,rfl,hk0,hk1,e42,e43,e44,hs40⟩
   rewrite [qm e42]
   rewrite [qm e43]
   rewrite [qm e44]
   refine qi (qi (qc ?_))
   refine qa rfl (qj (v:=vI ((k : Nat) : Int)) rfl rfl ?_)
   refine qa rfl (qj (v:=vI ((m.comps.length : Nat) : Int)) rfl rfl ?_)
   refine qa rfl (qt (k:=.i64) (k':=.i64) (a:=((k : Nat) : Int)) (b:=((m.comps.length : Nat) : Int)) rfl rfl rfl jg ?_)
   refine ql (qb ?_)
   refine zd rfl (fun hc45=>?_) (fun hc45=>?_)
   ·refine zn (qb (qi (zy (qi (qc ?_)))))
    refine qa rfl (qg rfl jq rfl (o':=3) rfl rfl ?_)
    refine qa rfl (qq (v:=.slice m.ca m.comps.length m.ccap) rfl ag22 (qh (hs40.get 0 rfl) rfl) rfl ?_)
    refine qa rfl (qj (v:=vI ((k : Nat) : Int)) rfl rfl ?_)
    obtain ⟨b46,o47,ha48,hs49⟩:=hs40.elem 0 rfl k (by omega)
    refine qa rfl (qs rfl ha48 rfl un22 sz53 (by omega) (by omega) (o':=o47 + k * 2) (by omega) rfl ?_)
    refine qa rfl (qw (vs:=[.slice ((m.comps[k]'(by omega)).a) ((m.comps[k]'(by omega)).code.length) ((m.comps[k]'(by omega)).cap),vI ((m.comps[k]'(by omega)).data)]) rfl ag53 sz53 ((hs49.getR 0 rfl).2) rfl rfl ?_)
    refine qa rfl (kk (cs:=[.slice none 0 0,vI 0]) hs49 zv53 rfl rfl ?_)
    intro b50 w51 hb53 hs52
    refine qa rfl (zx (v:=.agg #[.slice ((m.comps[k]'(by omega)).a) ((m.comps[k]'(by omega)).code.length) ((m.comps[k]'(by omega)).cap),vI ((m.comps[k]'(by omega)).data)]) (vs:=[.slice ((m.comps[k]'(by omega)).a) ((m.comps[k]'(by omega)).code.length) ((m.comps[k]'(by omega)).cap),vI ((m.comps[k]'(by omega)).data)]) (cs':=[.slice ((m.comps[k]'(by omega)).a) ((m.comps[k]'(by omega)).code.length) ((m.comps[k]'(by omega)).cap),vI ((m.comps[k]'(by omega)).data)]) hs52 0 rfl rfl rfl sz53 rfl rfl rfl rfl rfl ?_)
    intro w54 hs55
    refine ql (qb (qi ?_))
    have hco:=hb.co _ (List.getElem_mem (by omega : k < m.comps.length))
    refine qc ?_
    refine qa rfl (qg rfl ym rfl (o':=0) rfl rfl ?_)
    refine qa rfl (qq (v:=.slice ((m.comps[k]'(by omega)).a) ((m.comps[k]'(by omega)).code.length) ((m.comps[k]'(by omega)).cap)) rfl ag27 (qh (hs55.get 0 rfl) rfl) rfl ?_)
    refine qa rfl (qx (len:=((m.comps[k]'(by omega)).code.length)) rfl un27 rfl ?_)
    refine qa rfl (zi (args:=[vI (((m.comps[k]'(by omega)).code.length : Nat) : Int),vI 4,vI 4096]) rfl rfl rfl en59 (yb (((m.comps[k]'(by omega)).code.length : Nat) : Int) 4 4096 _) ?_)
    rintro _ w56 ⟨rfl,hk58⟩
    have hs57:=hs55.keep hk58
    refine qa rfl (j0 (b:=(qd (((m.comps[k]'(by omega)).code.length : Nat) : Int) 4 4096)) rfl rfl ?_)
    refine qa rfl (qj (v:=.bool (!(qd (((m.comps[k]'(by omega)).code.length : Nat) : Int) 4 4096))) rfl rfl ?_)
    refine q4 (v:=.pointer (some ⟨b50,0,none⟩)) rfl rfl rfl rfl (fun hg59=>qg rfl ym rfl (o':=0) rfl rfl ⟨rfl,rfl⟩) ?_
    refine q4 (v:=.slice ((m.comps[k]'(by omega)).a) ((m.comps[k]'(by omega)).code.length) ((m.comps[k]'(by omega)).cap)) rfl rfl rfl rfl (fun hg60=>qq (v:=.slice ((m.comps[k]'(by omega)).a) ((m.comps[k]'(by omega)).code.length) ((m.comps[k]'(by omega)).cap)) (show ev _ _ = .pointer (some ⟨b50,0,none⟩) from if_pos hg60) ag27 (qh (hs57.get 0 rfl) rfl) rfl ⟨rfl,rfl⟩) ?_
    refine q4 (v:=vI (((m.comps[k]'(by omega)).code.length : Nat) : Int)) rfl rfl rfl rfl (fun hg61=>qx (len:=((m.comps[k]'(by omega)).code.length)) (show ev _ _ = .slice ((m.comps[k]'(by omega)).a) ((m.comps[k]'(by omega)).code.length) ((m.comps[k]'(by omega)).cap) from if_pos hg61) un27 rfl ⟨rfl,rfl⟩) ?_
    refine q4 (v:=vI ((((m.comps[k]'(by omega)).code.length : Nat) : Int) % 4)) rfl rfl rfl rfl (fun hg62=>qt (v:=vI ((((m.comps[k]'(by omega)).code.length : Nat) : Int) % 4)) (show ev _ _ = vI (((m.comps[k]'(by omega)).code.length : Nat) : Int) from if_pos hg62) rfl rfl (b_rem (by omega) (rem_nn (by omega) (by omega))) ⟨rfl,rfl⟩) ?_
    refine q4 (v:=.bool (decide (((((m.comps[k]'(by omega)).code.length : Nat) : Int) % 4) ≠ 0))) rfl rfl rfl rfl (fun hg63=>qt (k:=.i64) (k':=.i64) (a:=((((m.comps[k]'(by omega)).code.length : Nat) : Int) % 4)) (b:=0) (show ev _ _ = vI ((((m.comps[k]'(by omega)).code.length : Nat) : Int) % 4) from if_pos hg63) rfl rfl yd ⟨rfl,rfl⟩) ?_
    obtain ⟨B64,hB64⟩ : ∃ b : Bool,b = ((!(qd (((m.comps[k]'(by omega)).code.length : Nat) : Int) 4 4096)) || (decide (((((m.comps[k]'(by omega)).code.length : Nat) : Int) % 4) ≠ 0))):=⟨_,rfl⟩
    refine qa rfl (ka (v:=.bool B64) rfl (Eq.trans (jk _ _) (congrArg Value.bool hB64.symm)) rfl ?_)
    refine qa rfl (qj (v:=.bool B64) rfl rfl ?_)
    refine q4 (v:=.pointer (some ⟨b50,1,none⟩)) rfl rfl rfl rfl (fun hg65=>qg rfl fd53_1 rfl (o':=1) rfl rfl ⟨rfl,rfl⟩) ?_
    refine q4 (v:=vI ((m.comps[k]'(by omega)).data)) rfl rfl rfl rfl (fun hg66=>qq (v:=vI ((m.comps[k]'(by omega)).data)) (show ev _ _ = .pointer (some ⟨b50,1,none⟩) from if_pos hg66) ag3 (qh (hs57.get 0 rfl) rfl) rfl ⟨rfl,rfl⟩) ?_
    refine L_guard_f (v:=.bool (qd ((m.comps[k]'(by omega)).data) 1 8)) rfl rfl rfl rfl hs57 (fun hg67=>?_) (fun w71 hs72=>?_)
    ·refine zi (args:=[vI ((m.comps[k]'(by omega)).data),vI 1,vI 8]) rfl (cons2 (if_pos hg67) (cons2 rfl (cons2 rfl rfl))) rfl en59 (yb ((m.comps[k]'(by omega)).data) 1 8 _) ?_
     rintro _ w68 ⟨rfl,hk70⟩
     have hs69:=hs57.keep hk70
     exact ⟨rfl,hs69⟩
    refine q4 (v:=.bool (!(qd ((m.comps[k]'(by omega)).data) 1 8))) rfl rfl rfl rfl (fun hg73=>j0 (b:=(qd ((m.comps[k]'(by omega)).data) 1 8)) (show ev _ _ = .bool (qd ((m.comps[k]'(by omega)).data) 1 8) from if_pos hg73) rfl ⟨rfl,rfl⟩) ?_
    obtain ⟨B74,hB74⟩ : ∃ b : Bool,b = (B64 || (!(qd ((m.comps[k]'(by omega)).data) 1 8))):=⟨_,rfl⟩
    refine qa rfl (ka (v:=.bool B74) rfl (Eq.trans (jk _ _) (congrArg Value.bool hB74.symm)) rfl ?_)
    subst hB74
    subst hB64
    refine ql (qb ?_)
    refine k5 (t:=(((!(qd (((m.comps[k]'(by omega)).code.length : Nat) : Int) 4 4096)) || (decide (((((m.comps[k]'(by omega)).code.length : Nat) : Int) % 4) ≠ 0))) || (!(qd ((m.comps[k]'(by omega)).data) 1 8)))) rfl (fun hc75=>?_) (fun hc75=>?_)
    ·refine qi (qc ?_)
     refine qa rfl (qf (v:=.bool false) rfl rfl ?_)
     refine ql (qb (zo (zk (q9 (q9 (zk (q9 ?_)))))))
     refine ⟨.bool false,res1 rfl,?_⟩
     exact ⟨congrArg Value.bool (rf_nc (List.getElem_mem (by omega : k < m.comps.length)) (by have:=hc75; rw [rf_comp] at this; simpa using this)).symm,hs72.base⟩
    ·refine zn (z7 (qb (qc ?_)))
     refine qa rfl (qj (v:=vI ((k : Nat) : Int)) rfl rfl ?_)
     refine qa rfl (qt (v:=vI ((k + 1 : Nat) : Int)) rfl rfl rfl (ki (qz (by omega) (by omega))) ?_)
     refine qa rfl (qf (v:=vI ((k + 1 : Nat) : Int)) rfl rfl ?_)
     refine ql (qb ?_)
     refine ⟨_,?_,k + 1,rfl,by omega,rf_snoc hk1 (by omega) (by have:=hc75; rw [rf_comp] at this; simpa using this),rfl,rfl,rfl,hs72.popR.popM⟩
     omega
   ·refine ja (z0 (z0 (ke (qb (qi (qi (qc ?_)))))))
    refine qa rfl (qf (v:=vI 0) rfl rfl ?_)
    refine ql (qb (zy ?_))
    refine kw (fun m_ f_ w_=>∃ i : Nat,m_ = m.links.length - i ∧ (i ≤ m.links.length) ∧ (∀ l ∈ m.links.take i,km m l = true) ∧ (∀ f : Nat,cntL (m.links.take i) f ≤ 8) ∧ f_ 1 = .pointer (some ⟨b1,0,none⟩) ∧ f_ 3 = vI ((m.comps.length : Nat) : Int) ∧ f_ 6 = vI ((i : Nat) : Int) ∧ St w (fun _=>False) w_ [blk b1 (qn m) 26] (kh m)) ?_ ?_
    ·exact ⟨_,0,rfl,Nat.zero_le _,(fun _ h=>by simp at h),(fun f=>by simp [cntL]),rfl,rfl,rfl,hs40⟩
    ·intro m79 f76 w77; rintro ⟨i,rfl,hl0,hl1,hl2,e80,e81,e82,hs78⟩
     rewrite [qm e80]
     rewrite [qm e81]
     rewrite [qm e82]
     refine qi (qi (qc ?_))
     refine qa rfl (qj (v:=vI ((i : Nat) : Int)) rfl rfl ?_)
     refine qa rfl (qg rfl xx rfl (o':=4) rfl rfl ?_)
     refine qa rfl (qq (v:=.slice m.la m.links.length m.lcap) rfl ag23 (qh (hs78.get 0 rfl) rfl) rfl ?_)
     refine qa rfl (qx (len:=m.links.length) rfl un23 rfl ?_)
     refine qa rfl (qt (k:=.i64) (k':=.i64) (a:=((i : Nat) : Int)) (b:=((m.links.length : Nat) : Int)) rfl rfl rfl jg ?_)
     refine ql (qb ?_)
     refine zd rfl (fun hc83=>?_) (fun hc83=>?_)
     ·refine zn (qb (qi (zy (qi (qc ?_)))))
      refine qa rfl (qg rfl xx rfl (o':=4) rfl rfl ?_)
      refine qa rfl (qq (v:=.slice m.la m.links.length m.lcap) rfl ag23 (qh (hs78.get 0 rfl) rfl) rfl ?_)
      refine qa rfl (qj (v:=vI ((i : Nat) : Int)) rfl rfl ?_)
      obtain ⟨b84,o85,ha86,hs87⟩:=hs78.elem 1 rfl i (by omega)
      refine qa rfl (qs rfl ha86 rfl un23 sz68 (by omega) (by omega) (o':=o85 + i * 3) (by omega) rfl ?_)
      refine qa rfl (qw (vs:=[vI ((m.links[i]'(by omega)).fr),vI ((m.links[i]'(by omega)).to),vI ((m.links[i]'(by omega)).ad)]) rfl ag68 sz68 ((hs87.getR 0 rfl).2) rfl rfl ?_)
      refine qa rfl (kk (cs:=[vI 0,vI 0,vI 0]) hs87 zv68 rfl rfl ?_)
      intro b88 w89 hb91 hs90
      refine qa rfl (zx (v:=.agg #[vI ((m.links[i]'(by omega)).fr),vI ((m.links[i]'(by omega)).to),vI ((m.links[i]'(by omega)).ad)]) (vs:=[vI ((m.links[i]'(by omega)).fr),vI ((m.links[i]'(by omega)).to),vI ((m.links[i]'(by omega)).ad)]) (cs':=[vI ((m.links[i]'(by omega)).fr),vI ((m.links[i]'(by omega)).to),vI ((m.links[i]'(by omega)).ad)]) hs90 0 rfl rfl rfl sz68 rfl rfl rfl rfl rfl ?_)
      intro w92 hs93
      refine ql (qb (qi (qi ?_)))
      by_cases hto : 0 ≤ (m.links[i]'(by omega)).to ∧ (m.links[i]'(by omega)).to < m.comps.length
      ·have hco:=hb.co _ (List.getElem_mem (by omega : (m.links[i]'(by omega)).to.toNat < m.comps.length))
       obtain ⟨b94,o95,ha96,hs97⟩:=hs93.elem 1 rfl (((m.links[i]'(by omega)).to).toNat) (by omega)
       obtain ⟨B110,hB110⟩ : ∃ b : Bool,b = ((!(qd ((m.links[i]'(by omega)).fr) 0 (((m.comps.length : Nat) : Int) - 1))) || (!(qd ((m.links[i]'(by omega)).to) 0 (((m.comps.length : Nat) : Int) - 1)))):=⟨_,rfl⟩
       obtain ⟨B116,hB116⟩ : ∃ b : Bool,b = (B110 || (decide (((m.links[i]'(by omega)).fr) = ((m.links[i]'(by omega)).to)))):=⟨_,rfl⟩
       obtain ⟨B120,hB120⟩ : ∃ b : Bool,b = (B116 || (decide (((m.links[i]'(by omega)).ad) < 0))):=⟨_,rfl⟩
       obtain ⟨B133,hB133⟩ : ∃ b : Bool,b = (B120 || (decide (((((m.comps[((m.links[i]'(by omega)).to).toNat]'(by omega)).code.length : Nat) : Int) / 4) ≤ ((m.links[i]'(by omega)).ad)))):=⟨_,rfl⟩
       refine jc js (show St _ _ _ [blk b88 [vI ((m.links[i]'(by omega)).fr),vI ((m.links[i]'(by omega)).to),vI ((m.links[i]'(by omega)).ad)] 68,blk b1 (qn m) 26] _ from hs97) (fun i_=>match i_ with|_=>none) (fun i_=>match i_ with|_=>[]) (fun i_=>match i_ with|1=>[40]|8=>[40]|16=>[40]|18=>[40]|23=>[40]|28=>[40]|30=>[41]|32=>[40]|_=>[]) (fun i_=>match i_ with|1=>[0]|3=>[2]|4=>[1,3]|5=>[4]|6=>[5]|7=>[6]|8=>[6,7]|9=>[6]|10=>[6,9]|11=>[6,8,10]|12=>[6,11]|13=>[6,12]|14=>[13]|15=>[14]|16=>[14,15]|17=>[14]|18=>[14,17]|19=>[14,16,18]|20=>[14,19]|21=>[20]|22=>[21]|23=>[21,22]|24=>[21,23]|25=>[21,24]|26=>[25]|27=>[26]|28=>[26,27]|29=>[26]|30=>[26,29]|31=>[26]|32=>[26,31]|33=>[26,30,32]|34=>[26,33]|35=>[26,34]|36=>[26,35]|37=>[26,36]|38=>[26,28,37]|39=>[26,38]|_=>[]) [40,41,0,1,2,3,4,5,6,7,8,9,10,11,12,13,14,15,16,17,18,19,20,21,22,23,24,25,26,27,28,29,30,31,32,33,34,35,36,37,38,39,42,43,44,45,46,47,48,49,50,51,52,53,54,55,56,57,58,59,60,61,62,63,64,65,66,67,68,69,70,71,72,73,74,75,76,77,78,79,80,81] [39] (fun i_ v_=>match i_ with|0=>v_ = .pointer (some ⟨b88,0,none⟩)|1=>v_ = vI ((m.links[i]'(by omega)).fr)|2=>v_ = vI ((m.comps.length : Nat) : Int)|3=>v_ = vI (((m.comps.length : Nat) : Int) - 1)|4=>v_ = .bool (qd ((m.links[i]'(by omega)).fr) 0 (((m.comps.length : Nat) : Int) - 1))|5=>v_ = .bool (!(qd ((m.links[i]'(by omega)).fr) 0 (((m.comps.length : Nat) : Int) - 1)))|6=>v_ = .bool (!(qd ((m.links[i]'(by omega)).fr) 0 (((m.comps.length : Nat) : Int) - 1)))|7=>v_ = if (!(qd ((m.links[i]'(by omega)).fr) 0 (((m.comps.length : Nat) : Int) - 1))) = false then .pointer (some ⟨b88,1,none⟩) else undef|8=>v_ = if (!(qd ((m.links[i]'(by omega)).fr) 0 (((m.comps.length : Nat) : Int) - 1))) = false then vI ((m.links[i]'(by omega)).to) else undef|9=>v_ = if (!(qd ((m.links[i]'(by omega)).fr) 0 (((m.comps.length : Nat) : Int) - 1))) = false then vI ((m.comps.length : Nat) : Int) else undef|10=>v_ = if (!(qd ((m.links[i]'(by omega)).fr) 0 (((m.comps.length : Nat) : Int) - 1))) = false then vI (((m.comps.length : Nat) : Int) - 1) else undef|11=>v_ = if (!(qd ((m.links[i]'(by omega)).fr) 0 (((m.comps.length : Nat) : Int) - 1))) = false then .bool (qd ((m.links[i]'(by omega)).to) 0 (((m.comps.length : Nat) : Int) - 1)) else undef|12=>v_ = if (!(qd ((m.links[i]'(by omega)).fr) 0 (((m.comps.length : Nat) : Int) - 1))) = false then .bool (!(qd ((m.links[i]'(by omega)).to) 0 (((m.comps.length : Nat) : Int) - 1))) else undef|13=>v_ = .bool B110|14=>v_ = .bool B110|15=>v_ = if B110 = false then .pointer (some ⟨b88,0,none⟩) else undef|16=>v_ = if B110 = false then vI ((m.links[i]'(by omega)).fr) else undef|17=>v_ = if B110 = false then .pointer (some ⟨b88,1,none⟩) else undef|18=>v_ = if B110 = false then vI ((m.links[i]'(by omega)).to) else undef|19=>v_ = if B110 = false then .bool (decide (((m.links[i]'(by omega)).fr) = ((m.links[i]'(by omega)).to))) else undef|20=>v_ = .bool B116|21=>v_ = .bool B116|22=>v_ = if B116 = false then .pointer (some ⟨b88,2,none⟩) else undef|23=>v_ = if B116 = false then vI ((m.links[i]'(by omega)).ad) else undef|24=>v_ = if B116 = false then .bool (decide (((m.links[i]'(by omega)).ad) < 0)) else undef|25=>v_ = .bool B120|26=>v_ = .bool B120|27=>v_ = if B120 = false then .pointer (some ⟨b88,2,none⟩) else undef|28=>v_ = if B120 = false then vI ((m.links[i]'(by omega)).ad) else undef|29=>v_ = if B120 = false then .pointer (some ⟨b1,3,none⟩) else undef|30=>v_ = if B120 = false then .slice m.ca m.comps.length m.ccap else undef|31=>v_ = if B120 = false then .pointer (some ⟨b88,1,none⟩) else undef|32=>v_ = if B120 = false then vI ((m.links[i]'(by omega)).to) else undef|33=>v_ = if B120 = false then .pointer (some ⟨b94,o95 + (((m.links[i]'(by omega)).to).toNat) * 2,none⟩) else undef|34=>v_ = if B120 = false then .pointer (some ⟨b94,o95 + (((m.links[i]'(by omega)).to).toNat) * 2,none⟩) else undef|35=>v_ = if B120 = false then .slice ((m.comps[((m.links[i]'(by omega)).to).toNat]'(by omega)).a) ((m.comps[((m.links[i]'(by omega)).to).toNat]'(by omega)).code.length) ((m.comps[((m.links[i]'(by omega)).to).toNat]'(by omega)).cap) else undef|36=>v_ = if B120 = false then vI (((m.comps[((m.links[i]'(by omega)).to).toNat]'(by omega)).code.length : Nat) : Int) else undef|37=>v_ = if B120 = false then vI ((((m.comps[((m.links[i]'(by omega)).to).toNat]'(by omega)).code.length : Nat) : Int) / 4) else undef|38=>v_ = if B120 = false then .bool (decide (((((m.comps[((m.links[i]'(by omega)).to).toNat]'(by omega)).code.length : Nat) : Int) / 4) ≤ ((m.links[i]'(by omega)).ad))) else undef|39=>v_ = .bool B133|_=>True) (by kernel_rfl) (by kernel_rfl) ⟨?_,?_,?_,?_,?_,?_,?_,?_,?_,?_,?_,?_,?_,?_,?_,?_,?_,?_,?_,?_,?_,?_,?_,?_,?_,?_,?_,?_,?_,?_,?_,?_,?_,?_,?_,?_,?_,?_,?_,?_,trivial⟩ ?_
       ·intro f0_ w0_ X0_ qp qo qu qk
        have hb7 : f0_ 7 = .pointer (some ⟨b88,0,none⟩):=(qp 7 rfl)
        refine qe rfl (qg hb7 fd68_0 rfl (o':=0) rfl rfl ?_)
        exact ⟨.pointer (some ⟨b88,0,none⟩),rfl,rfl,qk⟩
       ·intro f1_ w1_ X1_ qp qo qu qk
        obtain ⟨hu0,-⟩:=qo
        have hu0 : f1_ 82 = .pointer (some ⟨b88,0,none⟩):=hu0
        obtain ⟨hr40,-⟩:=qu
        have hr40 : Item.φ (blk b88 [vI ((m.links[i]'(by omega)).fr),vI ((m.links[i]'(by omega)).to),vI ((m.links[i]'(by omega)).ad)] 68) w1_:=hr40
        refine qe rfl (qq (v:=vI ((m.links[i]'(by omega)).fr)) hu0 ag3 (qh (hr40) rfl) rfl ?_)
        exact ⟨vI ((m.links[i]'(by omega)).fr),rfl,rfl,qk⟩
       ·intro f2_ w2_ X2_ qp qo qu qk
        have hb3 : f2_ 3 = vI ((m.comps.length : Nat) : Int):=(qp 3 rfl)
        refine qe rfl (qj (v:=vI ((m.comps.length : Nat) : Int)) hb3 rfl ?_)
        exact ⟨vI ((m.comps.length : Nat) : Int),rfl,rfl,qk⟩
       ·intro f3_ w3_ X3_ qp qo qu qk
        obtain ⟨hu2,-⟩:=qo
        have hu2 : f3_ 84 = vI ((m.comps.length : Nat) : Int):=hu2
        refine qe rfl (qt (v:=vI (((m.comps.length : Nat) : Int) - 1)) hu2 rfl rfl (b_sub (qz (by omega) (by omega))) ?_)
        exact ⟨vI (((m.comps.length : Nat) : Int) - 1),rfl,rfl,qk⟩
       ·intro f4_ w4_ X4_ qp qo qu qk
        obtain ⟨hu1,hu3,-⟩:=qo
        have hu1 : f4_ 83 = vI ((m.links[i]'(by omega)).fr):=hu1
        have hu3 : f4_ 85 = vI (((m.comps.length : Nat) : Int) - 1):=hu3
        refine qe rfl (zi (args:=[vI ((m.links[i]'(by omega)).fr),vI 0,vI (((m.comps.length : Nat) : Int) - 1)]) rfl (by simp only [List.map_cons,List.map_nil,List.nil_append,List.cons_append,List.append_nil,ev,Value.cells,hu1,hu3]) rfl en59 (yb ((m.links[i]'(by omega)).fr) 0 (((m.comps.length : Nat) : Int) - 1) _) ?_)
        rintro _ w98 ⟨rfl,hk100⟩
        have hs99:=qk.keep hk100
        exact ⟨.bool (qd ((m.links[i]'(by omega)).fr) 0 (((m.comps.length : Nat) : Int) - 1)),rfl,rfl,hs99⟩
       ·intro f5_ w5_ X5_ qp qo qu qk
        obtain ⟨hu4,-⟩:=qo
        have hu4 : f5_ 86 = .bool (qd ((m.links[i]'(by omega)).fr) 0 (((m.comps.length : Nat) : Int) - 1)):=hu4
        refine qe rfl (j0 (b:=(qd ((m.links[i]'(by omega)).fr) 0 (((m.comps.length : Nat) : Int) - 1))) hu4 rfl ?_)
        exact ⟨.bool (!(qd ((m.links[i]'(by omega)).fr) 0 (((m.comps.length : Nat) : Int) - 1))),rfl,rfl,qk⟩
       ·intro f6_ w6_ X6_ qp qo qu qk
        obtain ⟨hu5,-⟩:=qo
        have hu5 : f6_ 87 = .bool (!(qd ((m.links[i]'(by omega)).fr) 0 (((m.comps.length : Nat) : Int) - 1))):=hu5
        refine qe rfl (qj (v:=.bool (!(qd ((m.links[i]'(by omega)).fr) 0 (((m.comps.length : Nat) : Int) - 1)))) hu5 rfl ?_)
        exact ⟨.bool (!(qd ((m.links[i]'(by omega)).fr) 0 (((m.comps.length : Nat) : Int) - 1))),rfl,rfl,qk⟩
       ·intro f7_ w7_ X7_ qp qo qu qk
        obtain ⟨hu6,-⟩:=qo
        have hu6 : f7_ 88 = .bool (!(qd ((m.links[i]'(by omega)).fr) 0 (((m.comps.length : Nat) : Int) - 1))):=hu6
        have hb7 : f7_ 7 = .pointer (some ⟨b88,0,none⟩):=(qp 7 rfl)
        refine ze rfl (c:=(!(qd ((m.links[i]'(by omega)).fr) 0 (((m.comps.length : Nat) : Int) - 1)))) hu6 (fun hg101=>?_) (fun hg101=>⟨undef,rfl,(if_neg (by rw [hg101]; decide)).symm,qk⟩)
        refine qg hb7 fd68_1 rfl (o':=1) rfl rfl ?_
        exact ⟨.pointer (some ⟨b88,1,none⟩),rfl,(if_pos hg101).symm,qk⟩
       ·intro f8_ w8_ X8_ qp qo qu qk
        obtain ⟨hu6,hu7,-⟩:=qo
        have hu6 : f8_ 88 = .bool (!(qd ((m.links[i]'(by omega)).fr) 0 (((m.comps.length : Nat) : Int) - 1))):=hu6
        have hu7 : f8_ 89 = if (!(qd ((m.links[i]'(by omega)).fr) 0 (((m.comps.length : Nat) : Int) - 1))) = false then .pointer (some ⟨b88,1,none⟩) else undef:=hu7
        obtain ⟨hr40,-⟩:=qu
        have hr40 : Item.φ (blk b88 [vI ((m.links[i]'(by omega)).fr),vI ((m.links[i]'(by omega)).to),vI ((m.links[i]'(by omega)).ad)] 68) w8_:=hr40
        refine ze rfl (c:=(!(qd ((m.links[i]'(by omega)).fr) 0 (((m.comps.length : Nat) : Int) - 1)))) hu6 (fun hg102=>?_) (fun hg102=>⟨undef,rfl,(if_neg (by rw [hg102]; decide)).symm,qk⟩)
        refine qq (v:=vI ((m.links[i]'(by omega)).to)) (Eq.trans hu7 (if_pos hg102)) ag3 (qh (hr40) rfl) rfl ?_
        exact ⟨vI ((m.links[i]'(by omega)).to),rfl,(if_pos hg102).symm,qk⟩
       ·intro f9_ w9_ X9_ qp qo qu qk
        obtain ⟨hu6,-⟩:=qo
        have hu6 : f9_ 88 = .bool (!(qd ((m.links[i]'(by omega)).fr) 0 (((m.comps.length : Nat) : Int) - 1))):=hu6
        have hb3 : f9_ 3 = vI ((m.comps.length : Nat) : Int):=(qp 3 rfl)
        refine ze rfl (c:=(!(qd ((m.links[i]'(by omega)).fr) 0 (((m.comps.length : Nat) : Int) - 1)))) hu6 (fun hg103=>?_) (fun hg103=>⟨undef,rfl,(if_neg (by rw [hg103]; decide)).symm,qk⟩)
        refine qj (v:=vI ((m.comps.length : Nat) : Int)) hb3 rfl ?_
        exact ⟨vI ((m.comps.length : Nat) : Int),rfl,(if_pos hg103).symm,qk⟩
       ·intro f10_ w10_ X10_ qp qo qu qk
        obtain ⟨hu6,hu9,-⟩:=qo
        have hu6 : f10_ 88 = .bool (!(qd ((m.links[i]'(by omega)).fr) 0 (((m.comps.length : Nat) : Int) - 1))):=hu6
        have hu9 : f10_ 91 = if (!(qd ((m.links[i]'(by omega)).fr) 0 (((m.comps.length : Nat) : Int) - 1))) = false then vI ((m.comps.length : Nat) : Int) else undef:=hu9
        refine ze rfl (c:=(!(qd ((m.links[i]'(by omega)).fr) 0 (((m.comps.length : Nat) : Int) - 1)))) hu6 (fun hg104=>?_) (fun hg104=>⟨undef,rfl,(if_neg (by rw [hg104]; decide)).symm,qk⟩)
        refine qt (v:=vI (((m.comps.length : Nat) : Int) - 1)) (Eq.trans hu9 (if_pos hg104)) rfl rfl (b_sub (qz (by omega) (by omega))) ?_
        exact ⟨vI (((m.comps.length : Nat) : Int) - 1),rfl,(if_pos hg104).symm,qk⟩
       ·intro f11_ w11_ X11_ qp qo qu qk
        obtain ⟨hu6,hu8,hu10,-⟩:=qo
        have hu6 : f11_ 88 = .bool (!(qd ((m.links[i]'(by omega)).fr) 0 (((m.comps.length : Nat) : Int) - 1))):=hu6
        have hu8 : f11_ 90 = if (!(qd ((m.links[i]'(by omega)).fr) 0 (((m.comps.length : Nat) : Int) - 1))) = false then vI ((m.links[i]'(by omega)).to) else undef:=hu8
        have hu10 : f11_ 92 = if (!(qd ((m.links[i]'(by omega)).fr) 0 (((m.comps.length : Nat) : Int) - 1))) = false then vI (((m.comps.length : Nat) : Int) - 1) else undef:=hu10
        refine ze rfl (c:=(!(qd ((m.links[i]'(by omega)).fr) 0 (((m.comps.length : Nat) : Int) - 1)))) hu6 (fun hg105=>?_) (fun hg105=>⟨undef,rfl,(if_neg (by rw [hg105]; decide)).symm,qk⟩)
        refine zi (args:=[vI ((m.links[i]'(by omega)).to),vI 0,vI (((m.comps.length : Nat) : Int) - 1)]) rfl (by simp only [List.map_cons,List.map_nil,List.nil_append,List.cons_append,List.append_nil,ev,Value.cells,(Eq.trans hu8 (if_pos hg105)),(Eq.trans hu10 (if_pos hg105))]) rfl en59 (yb ((m.links[i]'(by omega)).to) 0 (((m.comps.length : Nat) : Int) - 1) _) ?_
        rintro _ w106 ⟨rfl,hk108⟩
        have hs107:=qk.keep hk108
        exact ⟨.bool (qd ((m.links[i]'(by omega)).to) 0 (((m.comps.length : Nat) : Int) - 1)),rfl,(if_pos hg105).symm,hs107⟩
       ·intro f12_ w12_ X12_ qp qo qu qk
        obtain ⟨hu6,hu11,-⟩:=qo
        have hu6 : f12_ 88 = .bool (!(qd ((m.links[i]'(by omega)).fr) 0 (((m.comps.length : Nat) : Int) - 1))):=hu6
        have hu11 : f12_ 93 = if (!(qd ((m.links[i]'(by omega)).fr) 0 (((m.comps.length : Nat) : Int) - 1))) = false then .bool (qd ((m.links[i]'(by omega)).to) 0 (((m.comps.length : Nat) : Int) - 1)) else undef:=hu11
        refine ze rfl (c:=(!(qd ((m.links[i]'(by omega)).fr) 0 (((m.comps.length : Nat) : Int) - 1)))) hu6 (fun hg109=>?_) (fun hg109=>⟨undef,rfl,(if_neg (by rw [hg109]; decide)).symm,qk⟩)
        refine j0 (b:=(qd ((m.links[i]'(by omega)).to) 0 (((m.comps.length : Nat) : Int) - 1))) (Eq.trans hu11 (if_pos hg109)) rfl ?_
        exact ⟨.bool (!(qd ((m.links[i]'(by omega)).to) 0 (((m.comps.length : Nat) : Int) - 1))),rfl,(if_pos hg109).symm,qk⟩
       ·intro f13_ w13_ X13_ qp qo qu qk
        obtain ⟨hu6,hu12,-⟩:=qo
        have hu6 : f13_ 88 = .bool (!(qd ((m.links[i]'(by omega)).fr) 0 (((m.comps.length : Nat) : Int) - 1))):=hu6
        have hu12 : f13_ 94 = if (!(qd ((m.links[i]'(by omega)).fr) 0 (((m.comps.length : Nat) : Int) - 1))) = false then .bool (!(qd ((m.links[i]'(by omega)).to) 0 (((m.comps.length : Nat) : Int) - 1))) else undef:=hu12
        refine qe rfl (ka (v:=.bool B110) hu6 (Eq.trans (by simp only [ev,hu12]; exact jk _ _) (congrArg Value.bool hB110.symm)) rfl ?_)
        exact ⟨.bool B110,rfl,rfl,qk⟩
       ·intro f14_ w14_ X14_ qp qo qu qk
        obtain ⟨hu13,-⟩:=qo
        have hu13 : f14_ 95 = .bool B110:=hu13
        refine qe rfl (qj (v:=.bool B110) hu13 rfl ?_)
        exact ⟨.bool B110,rfl,rfl,qk⟩
       ·intro f15_ w15_ X15_ qp qo qu qk
        obtain ⟨hu14,-⟩:=qo
        have hu14 : f15_ 96 = .bool B110:=hu14
        have hb7 : f15_ 7 = .pointer (some ⟨b88,0,none⟩):=(qp 7 rfl)
        refine ze rfl (c:=B110) hu14 (fun hg111=>?_) (fun hg111=>⟨undef,rfl,(if_neg (by rw [hg111]; decide)).symm,qk⟩)
        refine qg hb7 fd68_0 rfl (o':=0) rfl rfl ?_
        exact ⟨.pointer (some ⟨b88,0,none⟩),rfl,(if_pos hg111).symm,qk⟩
       ·intro f16_ w16_ X16_ qp qo qu qk
        obtain ⟨hu14,hu15,-⟩:=qo
        have hu14 : f16_ 96 = .bool B110:=hu14
        have hu15 : f16_ 97 = if B110 = false then .pointer (some ⟨b88,0,none⟩) else undef:=hu15
        obtain ⟨hr40,-⟩:=qu
        have hr40 : Item.φ (blk b88 [vI ((m.links[i]'(by omega)).fr),vI ((m.links[i]'(by omega)).to),vI ((m.links[i]'(by omega)).ad)] 68) w16_:=hr40
        refine ze rfl (c:=B110) hu14 (fun hg112=>?_) (fun hg112=>⟨undef,rfl,(if_neg (by rw [hg112]; decide)).symm,qk⟩)
        refine qq (v:=vI ((m.links[i]'(by omega)).fr)) (Eq.trans hu15 (if_pos hg112)) ag3 (qh (hr40) rfl) rfl ?_
        exact ⟨vI ((m.links[i]'(by omega)).fr),rfl,(if_pos hg112).symm,qk⟩
       ·intro f17_ w17_ X17_ qp qo qu qk
        obtain ⟨hu14,-⟩:=qo
        have hu14 : f17_ 96 = .bool B110:=hu14
        have hb7 : f17_ 7 = .pointer (some ⟨b88,0,none⟩):=(qp 7 rfl)
        refine ze rfl (c:=B110) hu14 (fun hg113=>?_) (fun hg113=>⟨undef,rfl,(if_neg (by rw [hg113]; decide)).symm,qk⟩)
        refine qg hb7 fd68_1 rfl (o':=1) rfl rfl ?_
        exact ⟨.pointer (some ⟨b88,1,none⟩),rfl,(if_pos hg113).symm,qk⟩
       ·intro f18_ w18_ X18_ qp qo qu qk
        obtain ⟨hu14,hu17,-⟩:=qo
        have hu14 : f18_ 96 = .bool B110:=hu14
        have hu17 : f18_ 99 = if B110 = false then .pointer (some ⟨b88,1,none⟩) else undef:=hu17
        obtain ⟨hr40,-⟩:=qu
        have hr40 : Item.φ (blk b88 [vI ((m.links[i]'(by omega)).fr),vI ((m.links[i]'(by omega)).to),vI ((m.links[i]'(by omega)).ad)] 68) w18_:=hr40
        refine ze rfl (c:=B110) hu14 (fun hg114=>?_) (fun hg114=>⟨undef,rfl,(if_neg (by rw [hg114]; decide)).symm,qk⟩)
        refine qq (v:=vI ((m.links[i]'(by omega)).to)) (Eq.trans hu17 (if_pos hg114)) ag3 (qh (hr40) rfl) rfl ?_
        exact ⟨vI ((m.links[i]'(by omega)).to),rfl,(if_pos hg114).symm,qk⟩
       ·intro f19_ w19_ X19_ qp qo qu qk
        obtain ⟨hu14,hu16,hu18,-⟩:=qo
        have hu14 : f19_ 96 = .bool B110:=hu14
        have hu16 : f19_ 98 = if B110 = false then vI ((m.links[i]'(by omega)).fr) else undef:=hu16
        have hu18 : f19_ 100 = if B110 = false then vI ((m.links[i]'(by omega)).to) else undef:=hu18
        refine ze rfl (c:=B110) hu14 (fun hg115=>?_) (fun hg115=>⟨undef,rfl,(if_neg (by rw [hg115]; decide)).symm,qk⟩)
        refine qt (k:=.i64) (k':=.i64) (a:=((m.links[i]'(by omega)).fr)) (b:=((m.links[i]'(by omega)).to)) (Eq.trans hu16 (if_pos hg115)) (Eq.trans hu18 (if_pos hg115)) rfl k8 ?_
        exact ⟨.bool (decide (((m.links[i]'(by omega)).fr) = ((m.links[i]'(by omega)).to))),rfl,(if_pos hg115).symm,qk⟩
       ·intro f20_ w20_ X20_ qp qo qu qk
        obtain ⟨hu14,hu19,-⟩:=qo
        have hu14 : f20_ 96 = .bool B110:=hu14
        have hu19 : f20_ 101 = if B110 = false then .bool (decide (((m.links[i]'(by omega)).fr) = ((m.links[i]'(by omega)).to))) else undef:=hu19
        refine qe rfl (ka (v:=.bool B116) hu14 (Eq.trans (by simp only [ev,hu19]; exact jk _ _) (congrArg Value.bool hB116.symm)) rfl ?_)
        exact ⟨.bool B116,rfl,rfl,qk⟩
       ·intro f21_ w21_ X21_ qp qo qu qk
        obtain ⟨hu20,-⟩:=qo
        have hu20 : f21_ 102 = .bool B116:=hu20
        refine qe rfl (qj (v:=.bool B116) hu20 rfl ?_)
        exact ⟨.bool B116,rfl,rfl,qk⟩
       ·intro f22_ w22_ X22_ qp qo qu qk
        obtain ⟨hu21,-⟩:=qo
        have hu21 : f22_ 103 = .bool B116:=hu21
        have hb7 : f22_ 7 = .pointer (some ⟨b88,0,none⟩):=(qp 7 rfl)
        refine ze rfl (c:=B116) hu21 (fun hg117=>?_) (fun hg117=>⟨undef,rfl,(if_neg (by rw [hg117]; decide)).symm,qk⟩)
        refine qg hb7 fd68_2 rfl (o':=2) rfl rfl ?_
        exact ⟨.pointer (some ⟨b88,2,none⟩),rfl,(if_pos hg117).symm,qk⟩
       ·intro f23_ w23_ X23_ qp qo qu qk
        obtain ⟨hu21,hu22,-⟩:=qo
        have hu21 : f23_ 103 = .bool B116:=hu21
        have hu22 : f23_ 104 = if B116 = false then .pointer (some ⟨b88,2,none⟩) else undef:=hu22
        obtain ⟨hr40,-⟩:=qu
        have hr40 : Item.φ (blk b88 [vI ((m.links[i]'(by omega)).fr),vI ((m.links[i]'(by omega)).to),vI ((m.links[i]'(by omega)).ad)] 68) w23_:=hr40
        refine ze rfl (c:=B116) hu21 (fun hg118=>?_) (fun hg118=>⟨undef,rfl,(if_neg (by rw [hg118]; decide)).symm,qk⟩)
        refine qq (v:=vI ((m.links[i]'(by omega)).ad)) (Eq.trans hu22 (if_pos hg118)) ag3 (qh (hr40) rfl) rfl ?_
        exact ⟨vI ((m.links[i]'(by omega)).ad),rfl,(if_pos hg118).symm,qk⟩
       ·intro f24_ w24_ X24_ qp qo qu qk
        obtain ⟨hu21,hu23,-⟩:=qo
        have hu21 : f24_ 103 = .bool B116:=hu21
        have hu23 : f24_ 105 = if B116 = false then vI ((m.links[i]'(by omega)).ad) else undef:=hu23
        refine ze rfl (c:=B116) hu21 (fun hg119=>?_) (fun hg119=>⟨undef,rfl,(if_neg (by rw [hg119]; decide)).symm,qk⟩)
        refine qt (k:=.i64) (k':=.i64) (a:=((m.links[i]'(by omega)).ad)) (b:=0) (Eq.trans hu23 (if_pos hg119)) rfl rfl jg ?_
        exact ⟨.bool (decide (((m.links[i]'(by omega)).ad) < 0)),rfl,(if_pos hg119).symm,qk⟩
       ·intro f25_ w25_ X25_ qp qo qu qk
        obtain ⟨hu21,hu24,-⟩:=qo
        have hu21 : f25_ 103 = .bool B116:=hu21
        have hu24 : f25_ 106 = if B116 = false then .bool (decide (((m.links[i]'(by omega)).ad) < 0)) else undef:=hu24
        refine qe rfl (ka (v:=.bool B120) hu21 (Eq.trans (by simp only [ev,hu24]; exact jk _ _) (congrArg Value.bool hB120.symm)) rfl ?_)
        exact ⟨.bool B120,rfl,rfl,qk⟩
       ·intro f26_ w26_ X26_ qp qo qu qk
        obtain ⟨hu25,-⟩:=qo
        have hu25 : f26_ 107 = .bool B120:=hu25
        refine qe rfl (qj (v:=.bool B120) hu25 rfl ?_)
        exact ⟨.bool B120,rfl,rfl,qk⟩
       ·intro f27_ w27_ X27_ qp qo qu qk
        obtain ⟨hu26,-⟩:=qo
        have hu26 : f27_ 108 = .bool B120:=hu26
        have hb7 : f27_ 7 = .pointer (some ⟨b88,0,none⟩):=(qp 7 rfl)
        refine ze rfl (c:=B120) hu26 (fun hg121=>?_) (fun hg121=>⟨undef,rfl,(if_neg (by rw [hg121]; decide)).symm,qk⟩)
        refine qg hb7 fd68_2 rfl (o':=2) rfl rfl ?_
        exact ⟨.pointer (some ⟨b88,2,none⟩),rfl,(if_pos hg121).symm,qk⟩
       ·intro f28_ w28_ X28_ qp qo qu qk
        obtain ⟨hu26,hu27,-⟩:=qo
        have hu26 : f28_ 108 = .bool B120:=hu26
        have hu27 : f28_ 109 = if B120 = false then .pointer (some ⟨b88,2,none⟩) else undef:=hu27
        obtain ⟨hr40,-⟩:=qu
        have hr40 : Item.φ (blk b88 [vI ((m.links[i]'(by omega)).fr),vI ((m.links[i]'(by omega)).to),vI ((m.links[i]'(by omega)).ad)] 68) w28_:=hr40
        refine ze rfl (c:=B120) hu26 (fun hg122=>?_) (fun hg122=>⟨undef,rfl,(if_neg (by rw [hg122]; decide)).symm,qk⟩)
        refine qq (v:=vI ((m.links[i]'(by omega)).ad)) (Eq.trans hu27 (if_pos hg122)) ag3 (qh (hr40) rfl) rfl ?_
        exact ⟨vI ((m.links[i]'(by omega)).ad),rfl,(if_pos hg122).symm,qk⟩
       ·intro f29_ w29_ X29_ qp qo qu qk
        obtain ⟨hu26,-⟩:=qo
        have hu26 : f29_ 108 = .bool B120:=hu26
        have hb1 : f29_ 1 = .pointer (some ⟨b1,0,none⟩):=(qp 1 rfl)
        refine ze rfl (c:=B120) hu26 (fun hg123=>?_) (fun hg123=>⟨undef,rfl,(if_neg (by rw [hg123]; decide)).symm,qk⟩)
        refine qg hb1 jq rfl (o':=3) rfl rfl ?_
        exact ⟨.pointer (some ⟨b1,3,none⟩),rfl,(if_pos hg123).symm,qk⟩
       ·intro f30_ w30_ X30_ qp qo qu qk
        obtain ⟨hu26,hu29,-⟩:=qo
        have hu26 : f30_ 108 = .bool B120:=hu26
        have hu29 : f30_ 111 = if B120 = false then .pointer (some ⟨b1,3,none⟩) else undef:=hu29
        obtain ⟨hr41,-⟩:=qu
        have hr41 : Item.φ (blk b1 (qn m) 26) w30_:=hr41
        refine ze rfl (c:=B120) hu26 (fun hg124=>?_) (fun hg124=>⟨undef,rfl,(if_neg (by rw [hg124]; decide)).symm,qk⟩)
        refine qq (v:=.slice m.ca m.comps.length m.ccap) (Eq.trans hu29 (if_pos hg124)) ag22 (qh (hr41) rfl) rfl ?_
        exact ⟨.slice m.ca m.comps.length m.ccap,rfl,(if_pos hg124).symm,qk⟩
       ·intro f31_ w31_ X31_ qp qo qu qk
        obtain ⟨hu26,-⟩:=qo
        have hu26 : f31_ 108 = .bool B120:=hu26
        have hb7 : f31_ 7 = .pointer (some ⟨b88,0,none⟩):=(qp 7 rfl)
        refine ze rfl (c:=B120) hu26 (fun hg125=>?_) (fun hg125=>⟨undef,rfl,(if_neg (by rw [hg125]; decide)).symm,qk⟩)
        refine qg hb7 fd68_1 rfl (o':=1) rfl rfl ?_
        exact ⟨.pointer (some ⟨b88,1,none⟩),rfl,(if_pos hg125).symm,qk⟩
       ·intro f32_ w32_ X32_ qp qo qu qk
        obtain ⟨hu26,hu31,-⟩:=qo
        have hu26 : f32_ 108 = .bool B120:=hu26
        have hu31 : f32_ 113 = if B120 = false then .pointer (some ⟨b88,1,none⟩) else undef:=hu31
        obtain ⟨hr40,-⟩:=qu
        have hr40 : Item.φ (blk b88 [vI ((m.links[i]'(by omega)).fr),vI ((m.links[i]'(by omega)).to),vI ((m.links[i]'(by omega)).ad)] 68) w32_:=hr40
        refine ze rfl (c:=B120) hu26 (fun hg126=>?_) (fun hg126=>⟨undef,rfl,(if_neg (by rw [hg126]; decide)).symm,qk⟩)
        refine qq (v:=vI ((m.links[i]'(by omega)).to)) (Eq.trans hu31 (if_pos hg126)) ag3 (qh (hr40) rfl) rfl ?_
        exact ⟨vI ((m.links[i]'(by omega)).to),rfl,(if_pos hg126).symm,qk⟩
       ·intro f33_ w33_ X33_ qp qo qu qk
        obtain ⟨hu26,hu30,hu32,-⟩:=qo
        have hu26 : f33_ 108 = .bool B120:=hu26
        have hu30 : f33_ 112 = if B120 = false then .slice m.ca m.comps.length m.ccap else undef:=hu30
        have hu32 : f33_ 114 = if B120 = false then vI ((m.links[i]'(by omega)).to) else undef:=hu32
        refine ze rfl (c:=B120) hu26 (fun hg127=>?_) (fun hg127=>⟨undef,rfl,(if_neg (by rw [hg127]; decide)).symm,qk⟩)
        refine qs (Eq.trans hu30 (if_pos hg127)) ha96 (Eq.trans hu32 (if_pos hg127)) un22 sz53 (hto.1) (hto.2) (o':=o95 + (((m.links[i]'(by omega)).to).toNat) * 2) (by omega) rfl ?_
        exact ⟨.pointer (some ⟨b94,o95 + (((m.links[i]'(by omega)).to).toNat) * 2,none⟩),rfl,(if_pos hg127).symm,qk⟩
       ·intro f34_ w34_ X34_ qp qo qu qk
        obtain ⟨hu26,hu33,-⟩:=qo
        have hu26 : f34_ 108 = .bool B120:=hu26
        have hu33 : f34_ 115 = if B120 = false then .pointer (some ⟨b94,o95 + (((m.links[i]'(by omega)).to).toNat) * 2,none⟩) else undef:=hu33
        refine ze rfl (c:=B120) hu26 (fun hg128=>?_) (fun hg128=>⟨undef,rfl,(if_neg (by rw [hg128]; decide)).symm,qk⟩)
        refine qg (Eq.trans hu33 (if_pos hg128)) ym rfl (o':=o95 + (((m.links[i]'(by omega)).to).toNat) * 2) rfl rfl ?_
        exact ⟨.pointer (some ⟨b94,o95 + (((m.links[i]'(by omega)).to).toNat) * 2,none⟩),rfl,(if_pos hg128).symm,qk⟩
       ·intro f35_ w35_ X35_ qp qo qu qk
        obtain ⟨hu26,hu34,-⟩:=qo
        have hu26 : f35_ 108 = .bool B120:=hu26
        have hu34 : f35_ 116 = if B120 = false then .pointer (some ⟨b94,o95 + (((m.links[i]'(by omega)).to).toNat) * 2,none⟩) else undef:=hu34
        refine ze rfl (c:=B120) hu26 (fun hg129=>?_) (fun hg129=>⟨undef,rfl,(if_neg (by rw [hg129]; decide)).symm,qk⟩)
        refine qq (v:=.slice ((m.comps[((m.links[i]'(by omega)).to).toNat]'(by omega)).a) ((m.comps[((m.links[i]'(by omega)).to).toNat]'(by omega)).code.length) ((m.comps[((m.links[i]'(by omega)).to).toNat]'(by omega)).cap)) (Eq.trans hu34 (if_pos hg129)) ag27 ((qk.getR 0 rfl).2 0 _ rfl) rfl ?_
        exact ⟨.slice ((m.comps[((m.links[i]'(by omega)).to).toNat]'(by omega)).a) ((m.comps[((m.links[i]'(by omega)).to).toNat]'(by omega)).code.length) ((m.comps[((m.links[i]'(by omega)).to).toNat]'(by omega)).cap),rfl,(if_pos hg129).symm,qk⟩
       ·intro f36_ w36_ X36_ qp qo qu qk
        obtain ⟨hu26,hu35,-⟩:=qo
        have hu26 : f36_ 108 = .bool B120:=hu26
        have hu35 : f36_ 117 = if B120 = false then .slice ((m.comps[((m.links[i]'(by omega)).to).toNat]'(by omega)).a) ((m.comps[((m.links[i]'(by omega)).to).toNat]'(by omega)).code.length) ((m.comps[((m.links[i]'(by omega)).to).toNat]'(by omega)).cap) else undef:=hu35
        refine ze rfl (c:=B120) hu26 (fun hg130=>?_) (fun hg130=>⟨undef,rfl,(if_neg (by rw [hg130]; decide)).symm,qk⟩)
        refine qx (len:=((m.comps[((m.links[i]'(by omega)).to).toNat]'(by omega)).code.length)) (Eq.trans hu35 (if_pos hg130)) un27 rfl ?_
        exact ⟨vI (((m.comps[((m.links[i]'(by omega)).to).toNat]'(by omega)).code.length : Nat) : Int),rfl,(if_pos hg130).symm,qk⟩
       ·intro f37_ w37_ X37_ qp qo qu qk
        obtain ⟨hu26,hu36,-⟩:=qo
        have hu26 : f37_ 108 = .bool B120:=hu26
        have hu36 : f37_ 118 = if B120 = false then vI (((m.comps[((m.links[i]'(by omega)).to).toNat]'(by omega)).code.length : Nat) : Int) else undef:=hu36
        refine ze rfl (c:=B120) hu26 (fun hg131=>?_) (fun hg131=>⟨undef,rfl,(if_neg (by rw [hg131]; decide)).symm,qk⟩)
        refine qt (v:=vI ((((m.comps[((m.links[i]'(by omega)).to).toNat]'(by omega)).code.length : Nat) : Int) / 4)) (Eq.trans hu36 (if_pos hg131)) rfl rfl (b_quo (by omega) (quo_i64 (by omega) (by omega) (by omega))) ?_
        exact ⟨vI ((((m.comps[((m.links[i]'(by omega)).to).toNat]'(by omega)).code.length : Nat) : Int) / 4),rfl,(if_pos hg131).symm,qk⟩
       ·intro f38_ w38_ X38_ qp qo qu qk
        obtain ⟨hu26,hu28,hu37,-⟩:=qo
        have hu26 : f38_ 108 = .bool B120:=hu26
        have hu28 : f38_ 110 = if B120 = false then vI ((m.links[i]'(by omega)).ad) else undef:=hu28
        have hu37 : f38_ 119 = if B120 = false then vI ((((m.comps[((m.links[i]'(by omega)).to).toNat]'(by omega)).code.length : Nat) : Int) / 4) else undef:=hu37
        refine ze rfl (c:=B120) hu26 (fun hg132=>?_) (fun hg132=>⟨undef,rfl,(if_neg (by rw [hg132]; decide)).symm,qk⟩)
        refine qt (k:=.i64) (k':=.i64) (a:=((m.links[i]'(by omega)).ad)) (b:=((((m.comps[((m.links[i]'(by omega)).to).toNat]'(by omega)).code.length : Nat) : Int) / 4)) (Eq.trans hu28 (if_pos hg132)) (Eq.trans hu37 (if_pos hg132)) rfl b_geq ?_
        exact ⟨.bool (decide (((((m.comps[((m.links[i]'(by omega)).to).toNat]'(by omega)).code.length : Nat) : Int) / 4) ≤ ((m.links[i]'(by omega)).ad))),rfl,(if_pos hg132).symm,qk⟩
       ·intro f39_ w39_ X39_ qp qo qu qk
        obtain ⟨hu26,hu38,-⟩:=qo
        have hu26 : f39_ 108 = .bool B120:=hu26
        have hu38 : f39_ 120 = if B120 = false then .bool (decide (((((m.comps[((m.links[i]'(by omega)).to).toNat]'(by omega)).code.length : Nat) : Int) / 4) ≤ ((m.links[i]'(by omega)).ad))) else undef:=hu38
        refine qe rfl (ka (v:=.bool B133) hu26 (Eq.trans (by simp only [ev,hu38]; exact jk _ _) (congrArg Value.bool hB133.symm)) rfl ?_)
        exact ⟨.bool B133,rfl,rfl,qk⟩
       intro f134 w135 qp qo hs136
       obtain ⟨hu39,-⟩:=qo
       have hu39 : f134 121 = .bool B133:=hu39
       have hs136 : St _ _ _ [blk b88 [vI ((m.links[i]'(by omega)).fr),vI ((m.links[i]'(by omega)).to),vI ((m.links[i]'(by omega)).ad)] 68,blk b1 (qn m) 26] _:=hs136
       have e137 : f134 1 = .pointer (some ⟨b1,0,none⟩):=(qp 1 rfl)
       rewrite [qm e137]
       have e138 : f134 3 = vI ((m.comps.length : Nat) : Int):=(qp 3 rfl)
       rewrite [qm e138]
       have e139 : f134 6 = vI ((i : Nat) : Int):=(qp 6 rfl)
       rewrite [qm e139]
       have e140 : f134 7 = .pointer (some ⟨b88,0,none⟩):=(qp 7 rfl)
       rewrite [qm e140]
       rewrite [qm hu39]
       subst hB133
       subst hB120
       subst hB116
       subst hB110
       refine qb ?_
       refine k5 (t:=(((((!(qd ((m.links[i]'(by omega)).fr) 0 (((m.comps.length : Nat) : Int) - 1))) || (!(qd ((m.links[i]'(by omega)).to) 0 (((m.comps.length : Nat) : Int) - 1)))) || (decide (((m.links[i]'(by omega)).fr) = ((m.links[i]'(by omega)).to)))) || (decide (((m.links[i]'(by omega)).ad) < 0))) || (decide (((((m.comps[((m.links[i]'(by omega)).to).toNat]'(by omega)).code.length : Nat) : Int) / 4) ≤ ((m.links[i]'(by omega)).ad))))) rfl (fun hc141=>?_) (fun hc141=>?_)
       ·refine qi (qc ?_)
        refine qa rfl (qf (v:=.bool false) rfl rfl ?_)
        refine ql (qb (zo (q9 (zk (q9 (q9 (zk (q9 ?_))))))))
        refine ⟨.bool false,res1 rfl,?_⟩
        exact ⟨congrArg Value.bool (rf_nl (List.getElem_mem (by omega : i < m.links.length)) (by have:=hc141; rw [rf_link hto.1 hto.2] at this; simpa using this)).symm,hs136.base⟩
       ·refine zn (qb (qi ?_))
        have hlink : km m (m.links[i]'(by omega)) = true:=by have:=hc141; rw [rf_link hto.1 hto.2] at this; simpa using this
        refine qc ?_
        refine qa rfl (qf (v:=vI 0) rfl rfl ?_)
        refine ql (qb (qi (qi (qc ?_))))
        refine qa rfl (qf (v:=vI 0) rfl rfl ?_)
        refine ql (qb (zy ?_))
        refine kw (fun m_ f_ w_=>∃ j : Nat,m_ = i + 1 - j ∧ (j ≤ i + 1) ∧ f_ 1 = .pointer (some ⟨b1,0,none⟩) ∧ f_ 3 = vI ((m.comps.length : Nat) : Int) ∧ f_ 6 = vI ((i : Nat) : Int) ∧ f_ 7 = .pointer (some ⟨b88,0,none⟩) ∧ f_ 8 = vI ((cntI (m.links.take j) (m.links[i]'(by omega)).fr : Nat) : Int) ∧ f_ 9 = vI ((j : Nat) : Int) ∧ St w (fun _=>False) w_ [blk b88 [vI ((m.links[i]'(by omega)).fr),vI ((m.links[i]'(by omega)).to),vI ((m.links[i]'(by omega)).ad)] 68,blk b1 (qn m) 26] [rdI b94 (o95 + (((m.links[i]'(by omega)).to).toNat) * 2) (zu (m.comps[((m.links[i]'(by omega)).to).toNat]'(by omega))),rdI b84 (o85 + i * 3) (z1 (m.links[i]'(by omega))),arrI zu 2 m.ca m.comps,arrI z1 3 m.la m.links,arrI zw 2 m.sa m.shares,ko m.comps]) ?_ ?_
        ·exact ⟨_,0,rfl,by omega,rfl,rfl,rfl,rfl,rfl,rfl,hs136⟩
        ·intro m145 f142 w143; rintro ⟨j,rfl,hj0,e146,e147,e148,e149,e150,e151,hs144⟩
         rewrite [qm e146]
         rewrite [qm e147]
         rewrite [qm e148]
         rewrite [qm e149]
         rewrite [qm e150]
         rewrite [qm e151]
         refine qi (qi (qc ?_))
         refine qa rfl (qj (v:=vI ((j : Nat) : Int)) rfl rfl ?_)
         refine qa rfl (qj (v:=vI ((i : Nat) : Int)) rfl rfl ?_)
         refine qa rfl (qt (k:=.i64) (k':=.i64) (a:=((j : Nat) : Int)) (b:=((i : Nat) : Int)) rfl rfl rfl b_leq ?_)
         refine ql (qb ?_)
         refine zd rfl (fun hc152=>?_) (fun hc152=>?_)
         ·refine zn (qb (qi (zy (qi ?_))))
          obtain ⟨b153,o154,ha155,hs156⟩:=hs144.elem 3 rfl j (by omega)
          refine jc js (show St _ _ _ [blk b88 [vI ((m.links[i]'(by omega)).fr),vI ((m.links[i]'(by omega)).to),vI ((m.links[i]'(by omega)).ad)] 68,blk b1 (qn m) 26] _ from hs156) (fun i_=>match i_ with|_=>none) (fun i_=>match i_ with|_=>[]) (fun i_=>match i_ with|1=>[10]|7=>[9]|_=>[]) (fun i_=>match i_ with|1=>[0]|3=>[1,2]|4=>[3]|5=>[4]|7=>[6]|8=>[5,7]|_=>[]) [9,10,0,1,2,3,4,5,6,7,8,11,12,13,14,15,16,17,18,19] [8] (fun i_ v_=>match i_ with|0=>v_ = .pointer (some ⟨b1,4,none⟩)|1=>v_ = .slice m.la m.links.length m.lcap|2=>v_ = vI ((j : Nat) : Int)|3=>v_ = .pointer (some ⟨b153,o154 + j * 3,none⟩)|4=>v_ = .pointer (some ⟨b153,o154 + j * 3,none⟩)|5=>v_ = vI ((m.links[j]'(by omega)).fr)|6=>v_ = .pointer (some ⟨b88,0,none⟩)|7=>v_ = vI ((m.links[i]'(by omega)).fr)|8=>v_ = .bool (decide (((m.links[j]'(by omega)).fr) = ((m.links[i]'(by omega)).fr)))|_=>True) (by kernel_rfl) (by kernel_rfl) ⟨?_,?_,?_,?_,?_,?_,?_,?_,?_,trivial⟩ ?_
          ·intro f0_ w0_ X0_ qp qo qu qk
           have hb1 : f0_ 1 = .pointer (some ⟨b1,0,none⟩):=(qp 1 rfl)
           refine qe rfl (qg hb1 xx rfl (o':=4) rfl rfl ?_)
           exact ⟨.pointer (some ⟨b1,4,none⟩),rfl,rfl,qk⟩
          ·intro f1_ w1_ X1_ qp qo qu qk
           obtain ⟨hu0,-⟩:=qo
           have hu0 : f1_ 127 = .pointer (some ⟨b1,4,none⟩):=hu0
           obtain ⟨hr10,-⟩:=qu
           have hr10 : Item.φ (blk b1 (qn m) 26) w1_:=hr10
           refine qe rfl (qq (v:=.slice m.la m.links.length m.lcap) hu0 ag23 (qh (hr10) rfl) rfl ?_)
           exact ⟨.slice m.la m.links.length m.lcap,rfl,rfl,qk⟩
          ·intro f2_ w2_ X2_ qp qo qu qk
           have hb9 : f2_ 9 = vI ((j : Nat) : Int):=(qp 9 rfl)
           refine qe rfl (qj (v:=vI ((j : Nat) : Int)) hb9 rfl ?_)
           exact ⟨vI ((j : Nat) : Int),rfl,rfl,qk⟩
          ·intro f3_ w3_ X3_ qp qo qu qk
           obtain ⟨hu1,hu2,-⟩:=qo
           have hu1 : f3_ 128 = .slice m.la m.links.length m.lcap:=hu1
           have hu2 : f3_ 129 = vI ((j : Nat) : Int):=hu2
           refine qe rfl (qs hu1 ha155 hu2 un23 sz68 (by omega) (by omega) (o':=o154 + j * 3) (by omega) rfl ?_)
           exact ⟨.pointer (some ⟨b153,o154 + j * 3,none⟩),rfl,rfl,qk⟩
          ·intro f4_ w4_ X4_ qp qo qu qk
           obtain ⟨hu3,-⟩:=qo
           have hu3 : f4_ 130 = .pointer (some ⟨b153,o154 + j * 3,none⟩):=hu3
           refine qe rfl (qg hu3 fd68_0 rfl (o':=o154 + j * 3) rfl rfl ?_)
           exact ⟨.pointer (some ⟨b153,o154 + j * 3,none⟩),rfl,rfl,qk⟩
          ·intro f5_ w5_ X5_ qp qo qu qk
           obtain ⟨hu4,-⟩:=qo
           have hu4 : f5_ 131 = .pointer (some ⟨b153,o154 + j * 3,none⟩):=hu4
           refine qe rfl (qq (v:=vI ((m.links[j]'(by omega)).fr)) hu4 ag3 ((qk.getR 0 rfl).2 0 _ rfl) rfl ?_)
           exact ⟨vI ((m.links[j]'(by omega)).fr),rfl,rfl,qk⟩
          ·intro f6_ w6_ X6_ qp qo qu qk
           have hb7 : f6_ 7 = .pointer (some ⟨b88,0,none⟩):=(qp 7 rfl)
           refine qe rfl (qg hb7 fd68_0 rfl (o':=0) rfl rfl ?_)
           exact ⟨.pointer (some ⟨b88,0,none⟩),rfl,rfl,qk⟩
          ·intro f7_ w7_ X7_ qp qo qu qk
           obtain ⟨hu6,-⟩:=qo
           have hu6 : f7_ 133 = .pointer (some ⟨b88,0,none⟩):=hu6
           obtain ⟨hr9,-⟩:=qu
           have hr9 : Item.φ (blk b88 [vI ((m.links[i]'(by omega)).fr),vI ((m.links[i]'(by omega)).to),vI ((m.links[i]'(by omega)).ad)] 68) w7_:=hr9
           refine qe rfl (qq (v:=vI ((m.links[i]'(by omega)).fr)) hu6 ag3 (qh (hr9) rfl) rfl ?_)
           exact ⟨vI ((m.links[i]'(by omega)).fr),rfl,rfl,qk⟩
          ·intro f8_ w8_ X8_ qp qo qu qk
           obtain ⟨hu5,hu7,-⟩:=qo
           have hu5 : f8_ 132 = vI ((m.links[j]'(by omega)).fr):=hu5
           have hu7 : f8_ 134 = vI ((m.links[i]'(by omega)).fr):=hu7
           refine qe rfl (qt (k:=.i64) (k':=.i64) (a:=((m.links[j]'(by omega)).fr)) (b:=((m.links[i]'(by omega)).fr)) hu5 hu7 rfl k8 ?_)
           exact ⟨.bool (decide (((m.links[j]'(by omega)).fr) = ((m.links[i]'(by omega)).fr))),rfl,rfl,qk⟩
          intro f157 w158 qp qo hs159
          obtain ⟨hu8,-⟩:=qo
          have hu8 : f157 135 = .bool (decide (((m.links[j]'(by omega)).fr) = ((m.links[i]'(by omega)).fr))):=hu8
          have hs159 : St _ _ _ [blk b88 [vI ((m.links[i]'(by omega)).fr),vI ((m.links[i]'(by omega)).to),vI ((m.links[i]'(by omega)).ad)] 68,blk b1 (qn m) 26] _:=hs159
          have e160 : f157 1 = .pointer (some ⟨b1,0,none⟩):=(qp 1 rfl)
          rewrite [qm e160]
          have e161 : f157 3 = vI ((m.comps.length : Nat) : Int):=(qp 3 rfl)
          rewrite [qm e161]
          have e162 : f157 6 = vI ((i : Nat) : Int):=(qp 6 rfl)
          rewrite [qm e162]
          have e163 : f157 7 = .pointer (some ⟨b88,0,none⟩):=(qp 7 rfl)
          rewrite [qm e163]
          have e164 : f157 8 = vI ((cntI (m.links.take j) (m.links[i]'(by omega)).fr : Nat) : Int):=(qp 8 rfl)
          rewrite [qm e164]
          have e165 : f157 9 = vI ((j : Nat) : Int):=(qp 9 rfl)
          rewrite [qm e165]
          rewrite [qm hu8]
          refine qb ?_
          refine zd rfl (fun hc166=>?_) (fun hc166=>?_)
          ·have hcl:=cntI_le2 m.links j (m.links[i]'(by omega)).fr
           refine qc ?_
           refine qa rfl (qj (v:=vI ((cntI (m.links.take j) (m.links[i]'(by omega)).fr : Nat) : Int)) rfl rfl ?_)
           refine qa rfl (qt (v:=vI ((cntI (m.links.take j) (m.links[i]'(by omega)).fr + 1 : Nat) : Int)) rfl rfl rfl (ki (qz (by omega) (by omega))) ?_)
           refine qa rfl (qf (v:=vI ((cntI (m.links.take j) (m.links[i]'(by omega)).fr + 1 : Nat) : Int)) rfl rfl ?_)
           refine ql (z7 (qb (qc ?_)))
           refine qa rfl (qj (v:=vI ((j : Nat) : Int)) rfl rfl ?_)
           refine qa rfl (qt (v:=vI ((j + 1 : Nat) : Int)) rfl rfl rfl (ki (qz (by omega) (by omega))) ?_)
           refine qa rfl (qf (v:=vI ((j + 1 : Nat) : Int)) rfl rfl ?_)
           refine ql (qb ?_)
           refine ⟨_,?_,j + 1,rfl,by omega,rfl,rfl,rfl,rfl,(congrArg (fun z : Nat=>Value.int .i64 (z : Int)) (cntI_y (by omega) hc166)),rfl,hs159.popR⟩
           omega
          ·refine zn (z7 (qb (qc ?_)))
           refine qa rfl (qj (v:=vI ((j : Nat) : Int)) rfl rfl ?_)
           refine qa rfl (qt (v:=vI ((j + 1 : Nat) : Int)) rfl rfl rfl (ki (qz (by omega) (by omega))) ?_)
           refine qa rfl (qf (v:=vI ((j + 1 : Nat) : Int)) rfl rfl ?_)
           refine ql (qb ?_)
           refine ⟨_,?_,j + 1,rfl,by omega,rfl,rfl,rfl,rfl,(congrArg (fun z : Nat=>Value.int .i64 (z : Int)) (cntI_n (by omega) (by simpa using hc166))),rfl,hs159.popR⟩
           omega
         ·refine ja (z0 (z0 (ke (qb (qi (qc ?_))))))
          refine qa rfl (qj (v:=vI ((cntI (m.links.take j) (m.links[i]'(by omega)).fr : Nat) : Int)) rfl rfl ?_)
          refine qa rfl (qt (k:=.i64) (k':=.i64) (a:=((cntI (m.links.take j) (m.links[i]'(by omega)).fr : Nat) : Int)) (b:=8) rfl rfl rfl b_gtr ?_)
          refine ql (qb ?_)
          refine zd rfl (fun hc167=>?_) (fun hc167=>?_)
          ·refine qi (qc ?_)
           refine qa rfl (qf (v:=.bool false) rfl rfl ?_)
           refine ql (qb (zo (zk (q9 (q9 (zk (q9 ?_)))))))
           refine ⟨.bool false,res1 rfl,?_⟩
           exact ⟨congrArg Value.bool (rf_nm (i:=i) (j:=j) (by omega) (linkS_ok hlink).1 (by have:=(linkS_ok hlink).2.1; omega) (by omega) (by have:=hc167; omega)).symm,hs144.base⟩
          ·refine zn (z7 (qb (qc ?_)))
           refine qa rfl (qj (v:=vI ((i : Nat) : Int)) rfl rfl ?_)
           refine qa rfl (qt (v:=vI ((i + 1 : Nat) : Int)) rfl rfl rfl (ki (qz (by omega) (by omega))) ?_)
           refine qa rfl (qf (v:=vI ((i + 1 : Nat) : Int)) rfl rfl ?_)
           refine ql (qb ?_)
           refine ⟨_,?_,i + 1,rfl,by omega,rf_snoc hl1 (by omega) hlink,rf_cnt (j:=j) hl2 (by omega) (linkS_ok hlink).1 (by omega) (by have:=hc167; omega),rfl,rfl,rfl,hs144.popR.popR.popM⟩
           omega
      ·refine jc js (show St _ _ _ [blk b88 [vI ((m.links[i]'(by omega)).fr),vI ((m.links[i]'(by omega)).to),vI ((m.links[i]'(by omega)).ad)] 68,blk b1 (qn m) 26] _ from hs93) (fun i_=>match i_ with|_=>none) (fun i_=>match i_ with|_=>[]) (fun i_=>match i_ with|1=>[40]|8=>[40]|_=>[]) (fun i_=>match i_ with|1=>[0]|3=>[2]|4=>[1,3]|5=>[4]|6=>[5]|7=>[6]|8=>[6,7]|9=>[6]|10=>[6,9]|11=>[6,8,10]|12=>[6,11]|13=>[6,12]|14=>[13]|15=>[14]|16=>[14]|17=>[14]|18=>[14]|19=>[14]|20=>[14,19]|21=>[20]|22=>[21]|23=>[21]|24=>[21]|25=>[21,24]|26=>[25]|27=>[26]|28=>[26]|29=>[26]|30=>[26]|31=>[26]|32=>[26]|33=>[26]|34=>[26]|35=>[26]|36=>[26]|37=>[26]|38=>[26]|39=>[26,38]|_=>[]) [40,41,0,1,2,3,4,5,6,7,8,9,10,11,12,13,14,15,16,17,18,19,20,21,22,23,24,25,26,27,28,29,30,31,32,33,34,35,36,37,38,39,42,43,44,45,46,47,48,49,50,51,52,53,54,55,56,57,58,59,60,61,62,63,64,65,66,67,68,69,70,71,72,73,74,75,76,77,78,79,80,81] [39] (fun i_ v_=>match i_ with|0=>v_ = .pointer (some ⟨b88,0,none⟩)|1=>v_ = vI ((m.links[i]'(by omega)).fr)|2=>v_ = vI ((m.comps.length : Nat) : Int)|3=>v_ = vI (((m.comps.length : Nat) : Int) - 1)|4=>v_ = .bool (qd ((m.links[i]'(by omega)).fr) 0 (((m.comps.length : Nat) : Int) - 1))|5=>v_ = .bool (!(qd ((m.links[i]'(by omega)).fr) 0 (((m.comps.length : Nat) : Int) - 1)))|6=>v_ = .bool (!(qd ((m.links[i]'(by omega)).fr) 0 (((m.comps.length : Nat) : Int) - 1)))|7=>v_ = if (!(qd ((m.links[i]'(by omega)).fr) 0 (((m.comps.length : Nat) : Int) - 1))) = false then .pointer (some ⟨b88,1,none⟩) else undef|8=>v_ = if (!(qd ((m.links[i]'(by omega)).fr) 0 (((m.comps.length : Nat) : Int) - 1))) = false then vI ((m.links[i]'(by omega)).to) else undef|9=>v_ = if (!(qd ((m.links[i]'(by omega)).fr) 0 (((m.comps.length : Nat) : Int) - 1))) = false then vI ((m.comps.length : Nat) : Int) else undef|10=>v_ = if (!(qd ((m.links[i]'(by omega)).fr) 0 (((m.comps.length : Nat) : Int) - 1))) = false then vI (((m.comps.length : Nat) : Int) - 1) else undef|11=>v_ = if (!(qd ((m.links[i]'(by omega)).fr) 0 (((m.comps.length : Nat) : Int) - 1))) = false then .bool false else undef|12=>v_ = if (!(qd ((m.links[i]'(by omega)).fr) 0 (((m.comps.length : Nat) : Int) - 1))) = false then .bool true else undef|13=>v_ = .bool true|14=>v_ = .bool true|15=>v_ = undef|16=>v_ = undef|17=>v_ = undef|18=>v_ = undef|19=>v_ = undef|20=>v_ = .bool true|21=>v_ = .bool true|22=>v_ = undef|23=>v_ = undef|24=>v_ = undef|25=>v_ = .bool true|26=>v_ = .bool true|27=>v_ = undef|28=>v_ = undef|29=>v_ = undef|30=>v_ = undef|31=>v_ = undef|32=>v_ = undef|33=>v_ = undef|34=>v_ = undef|35=>v_ = undef|36=>v_ = undef|37=>v_ = undef|38=>v_ = undef|39=>v_ = .bool true|_=>True) (by kernel_rfl) (by kernel_rfl) ⟨?_,?_,?_,?_,?_,?_,?_,?_,?_,?_,?_,?_,?_,?_,?_,?_,?_,?_,?_,?_,?_,?_,?_,?_,?_,?_,?_,?_,?_,?_,?_,?_,?_,?_,?_,?_,?_,?_,?_,?_,trivial⟩ ?_
       ·intro f0_ w0_ X0_ qp qo qu qk
        have hb7 : f0_ 7 = .pointer (some ⟨b88,0,none⟩):=(qp 7 rfl)
        refine qe rfl (qg hb7 fd68_0 rfl (o':=0) rfl rfl ?_)
        exact ⟨.pointer (some ⟨b88,0,none⟩),rfl,rfl,qk⟩
       ·intro f1_ w1_ X1_ qp qo qu qk
        obtain ⟨hu0,-⟩:=qo
        have hu0 : f1_ 82 = .pointer (some ⟨b88,0,none⟩):=hu0
        obtain ⟨hr40,-⟩:=qu
        have hr40 : Item.φ (blk b88 [vI ((m.links[i]'(by omega)).fr),vI ((m.links[i]'(by omega)).to),vI ((m.links[i]'(by omega)).ad)] 68) w1_:=hr40
        refine qe rfl (qq (v:=vI ((m.links[i]'(by omega)).fr)) hu0 ag3 (qh (hr40) rfl) rfl ?_)
        exact ⟨vI ((m.links[i]'(by omega)).fr),rfl,rfl,qk⟩
       ·intro f2_ w2_ X2_ qp qo qu qk
        have hb3 : f2_ 3 = vI ((m.comps.length : Nat) : Int):=(qp 3 rfl)
        refine qe rfl (qj (v:=vI ((m.comps.length : Nat) : Int)) hb3 rfl ?_)
        exact ⟨vI ((m.comps.length : Nat) : Int),rfl,rfl,qk⟩
       ·intro f3_ w3_ X3_ qp qo qu qk
        obtain ⟨hu2,-⟩:=qo
        have hu2 : f3_ 84 = vI ((m.comps.length : Nat) : Int):=hu2
        refine qe rfl (qt (v:=vI (((m.comps.length : Nat) : Int) - 1)) hu2 rfl rfl (b_sub (qz (by omega) (by omega))) ?_)
        exact ⟨vI (((m.comps.length : Nat) : Int) - 1),rfl,rfl,qk⟩
       ·intro f4_ w4_ X4_ qp qo qu qk
        obtain ⟨hu1,hu3,-⟩:=qo
        have hu1 : f4_ 83 = vI ((m.links[i]'(by omega)).fr):=hu1
        have hu3 : f4_ 85 = vI (((m.comps.length : Nat) : Int) - 1):=hu3
        refine qe rfl (zi (args:=[vI ((m.links[i]'(by omega)).fr),vI 0,vI (((m.comps.length : Nat) : Int) - 1)]) rfl (by simp only [List.map_cons,List.map_nil,List.nil_append,List.cons_append,List.append_nil,ev,Value.cells,hu1,hu3]) rfl en59 (yb ((m.links[i]'(by omega)).fr) 0 (((m.comps.length : Nat) : Int) - 1) _) ?_)
        rintro _ w168 ⟨rfl,hk170⟩
        have hs169:=qk.keep hk170
        exact ⟨.bool (qd ((m.links[i]'(by omega)).fr) 0 (((m.comps.length : Nat) : Int) - 1)),rfl,rfl,hs169⟩
       ·intro f5_ w5_ X5_ qp qo qu qk
        obtain ⟨hu4,-⟩:=qo
        have hu4 : f5_ 86 = .bool (qd ((m.links[i]'(by omega)).fr) 0 (((m.comps.length : Nat) : Int) - 1)):=hu4
        refine qe rfl (j0 (b:=(qd ((m.links[i]'(by omega)).fr) 0 (((m.comps.length : Nat) : Int) - 1))) hu4 rfl ?_)
        exact ⟨.bool (!(qd ((m.links[i]'(by omega)).fr) 0 (((m.comps.length : Nat) : Int) - 1))),rfl,rfl,qk⟩
       ·intro f6_ w6_ X6_ qp qo qu qk
        obtain ⟨hu5,-⟩:=qo
        have hu5 : f6_ 87 = .bool (!(qd ((m.links[i]'(by omega)).fr) 0 (((m.comps.length : Nat) : Int) - 1))):=hu5
        refine qe rfl (qj (v:=.bool (!(qd ((m.links[i]'(by omega)).fr) 0 (((m.comps.length : Nat) : Int) - 1)))) hu5 rfl ?_)
        exact ⟨.bool (!(qd ((m.links[i]'(by omega)).fr) 0 (((m.comps.length : Nat) : Int) - 1))),rfl,rfl,qk⟩
       ·intro f7_ w7_ X7_ qp qo qu qk
        obtain ⟨hu6,-⟩:=qo
        have hu6 : f7_ 88 = .bool (!(qd ((m.links[i]'(by omega)).fr) 0 (((m.comps.length : Nat) : Int) - 1))):=hu6
        have hb7 : f7_ 7 = .pointer (some ⟨b88,0,none⟩):=(qp 7 rfl)
        refine ze rfl (c:=(!(qd ((m.links[i]'(by omega)).fr) 0 (((m.comps.length : Nat) : Int) - 1)))) hu6 (fun hg171=>?_) (fun hg171=>⟨undef,rfl,(if_neg (by rw [hg171]; decide)).symm,qk⟩)
        refine qg hb7 fd68_1 rfl (o':=1) rfl rfl ?_
        exact ⟨.pointer (some ⟨b88,1,none⟩),rfl,(if_pos hg171).symm,qk⟩
       ·intro f8_ w8_ X8_ qp qo qu qk
        obtain ⟨hu6,hu7,-⟩:=qo
        have hu6 : f8_ 88 = .bool (!(qd ((m.links[i]'(by omega)).fr) 0 (((m.comps.length : Nat) : Int) - 1))):=hu6
        have hu7 : f8_ 89 = if (!(qd ((m.links[i]'(by omega)).fr) 0 (((m.comps.length : Nat) : Int) - 1))) = false then .pointer (some ⟨b88,1,none⟩) else undef:=hu7
        obtain ⟨hr40,-⟩:=qu
        have hr40 : Item.φ (blk b88 [vI ((m.links[i]'(by omega)).fr),vI ((m.links[i]'(by omega)).to),vI ((m.links[i]'(by omega)).ad)] 68) w8_:=hr40
        refine ze rfl (c:=(!(qd ((m.links[i]'(by omega)).fr) 0 (((m.comps.length : Nat) : Int) - 1)))) hu6 (fun hg172=>?_) (fun hg172=>⟨undef,rfl,(if_neg (by rw [hg172]; decide)).symm,qk⟩)
        refine qq (v:=vI ((m.links[i]'(by omega)).to)) (Eq.trans hu7 (if_pos hg172)) ag3 (qh (hr40) rfl) rfl ?_
        exact ⟨vI ((m.links[i]'(by omega)).to),rfl,(if_pos hg172).symm,qk⟩
       ·intro f9_ w9_ X9_ qp qo qu qk
        obtain ⟨hu6,-⟩:=qo
        have hu6 : f9_ 88 = .bool (!(qd ((m.links[i]'(by omega)).fr) 0 (((m.comps.length : Nat) : Int) - 1))):=hu6
        have hb3 : f9_ 3 = vI ((m.comps.length : Nat) : Int):=(qp 3 rfl)
        refine ze rfl (c:=(!(qd ((m.links[i]'(by omega)).fr) 0 (((m.comps.length : Nat) : Int) - 1)))) hu6 (fun hg173=>?_) (fun hg173=>⟨undef,rfl,(if_neg (by rw [hg173]; decide)).symm,qk⟩)
        refine qj (v:=vI ((m.comps.length : Nat) : Int)) hb3 rfl ?_
        exact ⟨vI ((m.comps.length : Nat) : Int),rfl,(if_pos hg173).symm,qk⟩
       ·intro f10_ w10_ X10_ qp qo qu qk
        obtain ⟨hu6,hu9,-⟩:=qo
        have hu6 : f10_ 88 = .bool (!(qd ((m.links[i]'(by omega)).fr) 0 (((m.comps.length : Nat) : Int) - 1))):=hu6
        have hu9 : f10_ 91 = if (!(qd ((m.links[i]'(by omega)).fr) 0 (((m.comps.length : Nat) : Int) - 1))) = false then vI ((m.comps.length : Nat) : Int) else undef:=hu9
        refine ze rfl (c:=(!(qd ((m.links[i]'(by omega)).fr) 0 (((m.comps.length : Nat) : Int) - 1)))) hu6 (fun hg174=>?_) (fun hg174=>⟨undef,rfl,(if_neg (by rw [hg174]; decide)).symm,qk⟩)
        refine qt (v:=vI (((m.comps.length : Nat) : Int) - 1)) (Eq.trans hu9 (if_pos hg174)) rfl rfl (b_sub (qz (by omega) (by omega))) ?_
        exact ⟨vI (((m.comps.length : Nat) : Int) - 1),rfl,(if_pos hg174).symm,qk⟩
       ·intro f11_ w11_ X11_ qp qo qu qk
        obtain ⟨hu6,hu8,hu10,-⟩:=qo
        have hu6 : f11_ 88 = .bool (!(qd ((m.links[i]'(by omega)).fr) 0 (((m.comps.length : Nat) : Int) - 1))):=hu6
        have hu8 : f11_ 90 = if (!(qd ((m.links[i]'(by omega)).fr) 0 (((m.comps.length : Nat) : Int) - 1))) = false then vI ((m.links[i]'(by omega)).to) else undef:=hu8
        have hu10 : f11_ 92 = if (!(qd ((m.links[i]'(by omega)).fr) 0 (((m.comps.length : Nat) : Int) - 1))) = false then vI (((m.comps.length : Nat) : Int) - 1) else undef:=hu10
        refine ze rfl (c:=(!(qd ((m.links[i]'(by omega)).fr) 0 (((m.comps.length : Nat) : Int) - 1)))) hu6 (fun hg175=>?_) (fun hg175=>⟨undef,rfl,(if_neg (by rw [hg175]; decide)).symm,qk⟩)
        refine zi (args:=[vI ((m.links[i]'(by omega)).to),vI 0,vI (((m.comps.length : Nat) : Int) - 1)]) rfl (by simp only [List.map_cons,List.map_nil,List.nil_append,List.cons_append,List.append_nil,ev,Value.cells,(Eq.trans hu8 (if_pos hg175)),(Eq.trans hu10 (if_pos hg175))]) rfl en59 (C.vb (yb ((m.links[i]'(by omega)).to) 0 (((m.comps.length : Nat) : Int) - 1) _) (b':=false) (rf_wn hto)) ?_
        rintro _ w176 ⟨rfl,hk178⟩
        have hs177:=qk.keep hk178
        exact ⟨.bool false,rfl,(if_pos hg175).symm,hs177⟩
       ·intro f12_ w12_ X12_ qp qo qu qk
        obtain ⟨hu6,hu11,-⟩:=qo
        have hu6 : f12_ 88 = .bool (!(qd ((m.links[i]'(by omega)).fr) 0 (((m.comps.length : Nat) : Int) - 1))):=hu6
        have hu11 : f12_ 93 = if (!(qd ((m.links[i]'(by omega)).fr) 0 (((m.comps.length : Nat) : Int) - 1))) = false then .bool false else undef:=hu11
        refine ze rfl (c:=(!(qd ((m.links[i]'(by omega)).fr) 0 (((m.comps.length : Nat) : Int) - 1)))) hu6 (fun hg179=>?_) (fun hg179=>⟨undef,rfl,(if_neg (by rw [hg179]; decide)).symm,qk⟩)
        refine j0 (b:=false) (Eq.trans hu11 (if_pos hg179)) rfl ?_
        exact ⟨.bool true,rfl,(if_pos hg179).symm,qk⟩
       ·intro f13_ w13_ X13_ qp qo qu qk
        obtain ⟨hu6,hu12,-⟩:=qo
        have hu6 : f13_ 88 = .bool (!(qd ((m.links[i]'(by omega)).fr) 0 (((m.comps.length : Nat) : Int) - 1))):=hu6
        have hu12 : f13_ 94 = if (!(qd ((m.links[i]'(by omega)).fr) 0 (((m.comps.length : Nat) : Int) - 1))) = false then .bool true else undef:=hu12
        refine qe rfl (ka (v:=.bool true) hu6 (Eq.trans (by simp only [ev,hu12]; exact jk _ _) (congrArg Value.bool (Bool.or_true _))) rfl ?_)
        exact ⟨.bool true,rfl,rfl,qk⟩
       ·intro f14_ w14_ X14_ qp qo qu qk
        obtain ⟨hu13,-⟩:=qo
        have hu13 : f14_ 95 = .bool true:=hu13
        refine qe rfl (qj (v:=.bool true) hu13 rfl ?_)
        exact ⟨.bool true,rfl,rfl,qk⟩
       ·intro f15_ w15_ X15_ qp qo qu qk
        obtain ⟨hu14,-⟩:=qo
        have hu14 : f15_ 96 = .bool true:=hu14
        exact ze rfl (c:=true) hu14 (fun h=>absurd h (by decide)) (fun _=>⟨undef,rfl,rfl,qk⟩)
       ·intro f16_ w16_ X16_ qp qo qu qk
        obtain ⟨hu14,-⟩:=qo
        have hu14 : f16_ 96 = .bool true:=hu14
        exact ze rfl (c:=true) hu14 (fun h=>absurd h (by decide)) (fun _=>⟨undef,rfl,rfl,qk⟩)
       ·intro f17_ w17_ X17_ qp qo qu qk
        obtain ⟨hu14,-⟩:=qo
        have hu14 : f17_ 96 = .bool true:=hu14
        exact ze rfl (c:=true) hu14 (fun h=>absurd h (by decide)) (fun _=>⟨undef,rfl,rfl,qk⟩)
       ·intro f18_ w18_ X18_ qp qo qu qk
        obtain ⟨hu14,-⟩:=qo
        have hu14 : f18_ 96 = .bool true:=hu14
        exact ze rfl (c:=true) hu14 (fun h=>absurd h (by decide)) (fun _=>⟨undef,rfl,rfl,qk⟩)
       ·intro f19_ w19_ X19_ qp qo qu qk
        obtain ⟨hu14,-⟩:=qo
        have hu14 : f19_ 96 = .bool true:=hu14
        exact ze rfl (c:=true) hu14 (fun h=>absurd h (by decide)) (fun _=>⟨undef,rfl,rfl,qk⟩)
       ·intro f20_ w20_ X20_ qp qo qu qk
        obtain ⟨hu14,hu19,-⟩:=qo
        have hu14 : f20_ 96 = .bool true:=hu14
        have hu19 : f20_ 101 = undef:=hu19
        refine qe rfl (ka (v:=.bool true) hu14 rfl rfl ?_)
        exact ⟨.bool true,rfl,rfl,qk⟩
       ·intro f21_ w21_ X21_ qp qo qu qk
        obtain ⟨hu20,-⟩:=qo
        have hu20 : f21_ 102 = .bool true:=hu20
        refine qe rfl (qj (v:=.bool true) hu20 rfl ?_)
        exact ⟨.bool true,rfl,rfl,qk⟩
       ·intro f22_ w22_ X22_ qp qo qu qk
        obtain ⟨hu21,-⟩:=qo
        have hu21 : f22_ 103 = .bool true:=hu21
        exact ze rfl (c:=true) hu21 (fun h=>absurd h (by decide)) (fun _=>⟨undef,rfl,rfl,qk⟩)
       ·intro f23_ w23_ X23_ qp qo qu qk
        obtain ⟨hu21,-⟩:=qo
        have hu21 : f23_ 103 = .bool true:=hu21
        exact ze rfl (c:=true) hu21 (fun h=>absurd h (by decide)) (fun _=>⟨undef,rfl,rfl,qk⟩)
       ·intro f24_ w24_ X24_ qp qo qu qk
        obtain ⟨hu21,-⟩:=qo
        have hu21 : f24_ 103 = .bool true:=hu21
        exact ze rfl (c:=true) hu21 (fun h=>absurd h (by decide)) (fun _=>⟨undef,rfl,rfl,qk⟩)
       ·intro f25_ w25_ X25_ qp qo qu qk
        obtain ⟨hu21,hu24,-⟩:=qo
        have hu21 : f25_ 103 = .bool true:=hu21
        have hu24 : f25_ 106 = undef:=hu24
        refine qe rfl (ka (v:=.bool true) hu21 rfl rfl ?_)
        exact ⟨.bool true,rfl,rfl,qk⟩
       ·intro f26_ w26_ X26_ qp qo qu qk
        obtain ⟨hu25,-⟩:=qo
        have hu25 : f26_ 107 = .bool true:=hu25
        refine qe rfl (qj (v:=.bool true) hu25 rfl ?_)
        exact ⟨.bool true,rfl,rfl,qk⟩
       ·intro f27_ w27_ X27_ qp qo qu qk
        obtain ⟨hu26,-⟩:=qo
        have hu26 : f27_ 108 = .bool true:=hu26
        exact ze rfl (c:=true) hu26 (fun h=>absurd h (by decide)) (fun _=>⟨undef,rfl,rfl,qk⟩)
       ·intro f28_ w28_ X28_ qp qo qu qk
        obtain ⟨hu26,-⟩:=qo
        have hu26 : f28_ 108 = .bool true:=hu26
        exact ze rfl (c:=true) hu26 (fun h=>absurd h (by decide)) (fun _=>⟨undef,rfl,rfl,qk⟩)
       ·intro f29_ w29_ X29_ qp qo qu qk
        obtain ⟨hu26,-⟩:=qo
        have hu26 : f29_ 108 = .bool true:=hu26
        exact ze rfl (c:=true) hu26 (fun h=>absurd h (by decide)) (fun _=>⟨undef,rfl,rfl,qk⟩)
       ·intro f30_ w30_ X30_ qp qo qu qk
        obtain ⟨hu26,-⟩:=qo
        have hu26 : f30_ 108 = .bool true:=hu26
        exact ze rfl (c:=true) hu26 (fun h=>absurd h (by decide)) (fun _=>⟨undef,rfl,rfl,qk⟩)
       ·intro f31_ w31_ X31_ qp qo qu qk
        obtain ⟨hu26,-⟩:=qo
        have hu26 : f31_ 108 = .bool true:=hu26
        exact ze rfl (c:=true) hu26 (fun h=>absurd h (by decide)) (fun _=>⟨undef,rfl,rfl,qk⟩)
       ·intro f32_ w32_ X32_ qp qo qu qk
        obtain ⟨hu26,-⟩:=qo
        have hu26 : f32_ 108 = .bool true:=hu26
        exact ze rfl (c:=true) hu26 (fun h=>absurd h (by decide)) (fun _=>⟨undef,rfl,rfl,qk⟩)
       ·intro f33_ w33_ X33_ qp qo qu qk
        obtain ⟨hu26,-⟩:=qo
        have hu26 : f33_ 108 = .bool true:=hu26
        exact ze rfl (c:=true) hu26 (fun h=>absurd h (by decide)) (fun _=>⟨undef,rfl,rfl,qk⟩)
       ·intro f34_ w34_ X34_ qp qo qu qk
        obtain ⟨hu26,-⟩:=qo
        have hu26 : f34_ 108 = .bool true:=hu26
        exact ze rfl (c:=true) hu26 (fun h=>absurd h (by decide)) (fun _=>⟨undef,rfl,rfl,qk⟩)
       ·intro f35_ w35_ X35_ qp qo qu qk
        obtain ⟨hu26,-⟩:=qo
        have hu26 : f35_ 108 = .bool true:=hu26
        exact ze rfl (c:=true) hu26 (fun h=>absurd h (by decide)) (fun _=>⟨undef,rfl,rfl,qk⟩)
       ·intro f36_ w36_ X36_ qp qo qu qk
        obtain ⟨hu26,-⟩:=qo
        have hu26 : f36_ 108 = .bool true:=hu26
        exact ze rfl (c:=true) hu26 (fun h=>absurd h (by decide)) (fun _=>⟨undef,rfl,rfl,qk⟩)
       ·intro f37_ w37_ X37_ qp qo qu qk
        obtain ⟨hu26,-⟩:=qo
        have hu26 : f37_ 108 = .bool true:=hu26
        exact ze rfl (c:=true) hu26 (fun h=>absurd h (by decide)) (fun _=>⟨undef,rfl,rfl,qk⟩)
       ·intro f38_ w38_ X38_ qp qo qu qk
        obtain ⟨hu26,-⟩:=qo
        have hu26 : f38_ 108 = .bool true:=hu26
        exact ze rfl (c:=true) hu26 (fun h=>absurd h (by decide)) (fun _=>⟨undef,rfl,rfl,qk⟩)
       ·intro f39_ w39_ X39_ qp qo qu qk
        obtain ⟨hu26,hu38,-⟩:=qo
        have hu26 : f39_ 108 = .bool true:=hu26
        have hu38 : f39_ 120 = undef:=hu38
        refine qe rfl (ka (v:=.bool true) hu26 rfl rfl ?_)
        exact ⟨.bool true,rfl,rfl,qk⟩
       intro f200 w201 qp qo hs202
       obtain ⟨hu39,-⟩:=qo
       have hu39 : f200 121 = .bool true:=hu39
       have hs202 : St _ _ _ [blk b88 [vI ((m.links[i]'(by omega)).fr),vI ((m.links[i]'(by omega)).to),vI ((m.links[i]'(by omega)).ad)] 68,blk b1 (qn m) 26] _:=hs202
       have e203 : f200 1 = .pointer (some ⟨b1,0,none⟩):=(qp 1 rfl)
       rewrite [qm e203]
       have e204 : f200 3 = vI ((m.comps.length : Nat) : Int):=(qp 3 rfl)
       rewrite [qm e204]
       have e205 : f200 6 = vI ((i : Nat) : Int):=(qp 6 rfl)
       rewrite [qm e205]
       have e206 : f200 7 = .pointer (some ⟨b88,0,none⟩):=(qp 7 rfl)
       rewrite [qm e206]
       rewrite [qm hu39]
       refine qb ?_
       refine jj rfl ?_
       refine qi (qc ?_)
       refine qa rfl (qf (v:=.bool false) rfl rfl ?_)
       refine ql (qb (zo (q9 (zk (q9 (q9 (zk (q9 ?_))))))))
       refine ⟨.bool false,res1 rfl,?_⟩
       exact ⟨congrArg Value.bool (rf_nl (List.getElem_mem (by omega : i < m.links.length)) (rf_linkn hto)).symm,hs202.base⟩
     ·refine ja (z0 (z0 (ke (qb (qi (qi (qc ?_)))))))
      refine qa rfl (qf (v:=vI 0) rfl rfl ?_)
      refine ql (qb (zy ?_))
      refine kw (fun m_ f_ w_=>∃ j : Nat,m_ = m.shares.length - j ∧ (j ≤ m.shares.length) ∧ (∀ s ∈ m.shares.take j,jm m s = true) ∧ f_ 1 = .pointer (some ⟨b1,0,none⟩) ∧ f_ 3 = vI ((m.comps.length : Nat) : Int) ∧ f_ 10 = vI ((j : Nat) : Int) ∧ St w (fun _=>False) w_ [blk b1 (qn m) 26] (kh m)) ?_ ?_
      ·exact ⟨_,0,rfl,Nat.zero_le _,(fun _ h=>by simp at h),rfl,rfl,rfl,hs78⟩
      ·intro m210 f207 w208; rintro ⟨j,rfl,hs00,hs1,e211,e212,e213,hs209⟩
       rewrite [qm e211]
       rewrite [qm e212]
       rewrite [qm e213]
       refine qi (qi (qc ?_))
       refine qa rfl (qj (v:=vI ((j : Nat) : Int)) rfl rfl ?_)
       refine qa rfl (qg rfl xo rfl (o':=5) rfl rfl ?_)
       refine qa rfl (qq (v:=.slice m.sa m.shares.length m.scap) rfl ag24 (qh (hs209.get 0 rfl) rfl) rfl ?_)
       refine qa rfl (qx (len:=m.shares.length) rfl un24 rfl ?_)
       refine qa rfl (qt (k:=.i64) (k':=.i64) (a:=((j : Nat) : Int)) (b:=((m.shares.length : Nat) : Int)) rfl rfl rfl jg ?_)
       refine ql (qb ?_)
       refine zd rfl (fun hc214=>?_) (fun hc214=>?_)
       ·refine zn (qb (qi (zy (qi (qc ?_)))))
        refine qa rfl (qg rfl xo rfl (o':=5) rfl rfl ?_)
        refine qa rfl (qq (v:=.slice m.sa m.shares.length m.scap) rfl ag24 (qh (hs209.get 0 rfl) rfl) rfl ?_)
        refine qa rfl (qj (v:=vI ((j : Nat) : Int)) rfl rfl ?_)
        obtain ⟨b215,o216,ha217,hs218⟩:=hs209.elem 2 rfl j (by omega)
        refine qa rfl (qs rfl ha217 rfl un24 sz70 (by omega) (by omega) (o':=o216 + j * 2) (by omega) rfl ?_)
        refine qa rfl (qw (vs:=[vI ((m.shares[j]'(by omega)).rd),vI ((m.shares[j]'(by omega)).wr)]) rfl ag70 sz70 ((hs218.getR 0 rfl).2) rfl rfl ?_)
        refine qa rfl (kk (cs:=[vI 0,vI 0]) hs218 zv70 rfl rfl ?_)
        intro b219 w220 hb222 hs221
        refine qa rfl (zx (v:=.agg #[vI ((m.shares[j]'(by omega)).rd),vI ((m.shares[j]'(by omega)).wr)]) (vs:=[vI ((m.shares[j]'(by omega)).rd),vI ((m.shares[j]'(by omega)).wr)]) (cs':=[vI ((m.shares[j]'(by omega)).rd),vI ((m.shares[j]'(by omega)).wr)]) hs221 0 rfl rfl rfl sz70 rfl rfl rfl rfl rfl ?_)
        intro w223 hs224
        refine ql (qb (qi ?_))
        have hp:=pow_small h4
        obtain ⟨B231,hB231⟩ : ∃ b : Bool,b = ((!(qd ((m.shares[j]'(by omega)).rd) 0 (((2 : Int) ^ m.comps.length) - 1))) || (decide (((m.shares[j]'(by omega)).wr) < 0))):=⟨_,rfl⟩
        obtain ⟨B240,hB240⟩ : ∃ b : Bool,b = (B231 || (decide ((jf .and .i64 ((m.shares[j]'(by omega)).wr) ((m.shares[j]'(by omega)).rd)) ≠ ((m.shares[j]'(by omega)).wr)))):=⟨_,rfl⟩
        refine jc js (show St _ _ _ [blk b219 [vI ((m.shares[j]'(by omega)).rd),vI ((m.shares[j]'(by omega)).wr)] 70,blk b1 (qn m) 26] _ from hs224) (fun i_=>match i_ with|_=>none) (fun i_=>match i_ with|_=>[]) (fun i_=>match i_ with|1=>[22]|9=>[22]|14=>[22]|16=>[22]|19=>[22]|_=>[]) (fun i_=>match i_ with|1=>[0]|3=>[2]|4=>[3]|5=>[1,4]|6=>[5]|7=>[6]|8=>[7]|9=>[7,8]|10=>[7,9]|11=>[7,10]|12=>[11]|13=>[12]|14=>[12,13]|15=>[12]|16=>[12,15]|17=>[12,14,16]|18=>[12]|19=>[12,18]|20=>[12,17,19]|21=>[12,20]|_=>[]) [22,23,0,1,2,3,4,5,6,7,8,9,10,11,12,13,14,15,16,17,18,19,20,21,24,25,26,27,28,29,30,31,32,33,34,35,36,37,38,39,40,41,42,43,44,45] [21] (fun i_ v_=>match i_ with|0=>v_ = .pointer (some ⟨b219,0,none⟩)|1=>v_ = vI ((m.shares[j]'(by omega)).rd)|2=>v_ = vI ((m.comps.length : Nat) : Int)|3=>v_ = vI ((2 : Int) ^ m.comps.length)|4=>v_ = vI (((2 : Int) ^ m.comps.length) - 1)|5=>v_ = .bool (qd ((m.shares[j]'(by omega)).rd) 0 (((2 : Int) ^ m.comps.length) - 1))|6=>v_ = .bool (!(qd ((m.shares[j]'(by omega)).rd) 0 (((2 : Int) ^ m.comps.length) - 1)))|7=>v_ = .bool (!(qd ((m.shares[j]'(by omega)).rd) 0 (((2 : Int) ^ m.comps.length) - 1)))|8=>v_ = if (!(qd ((m.shares[j]'(by omega)).rd) 0 (((2 : Int) ^ m.comps.length) - 1))) = false then .pointer (some ⟨b219,1,none⟩) else undef|9=>v_ = if (!(qd ((m.shares[j]'(by omega)).rd) 0 (((2 : Int) ^ m.comps.length) - 1))) = false then vI ((m.shares[j]'(by omega)).wr) else undef|10=>v_ = if (!(qd ((m.shares[j]'(by omega)).rd) 0 (((2 : Int) ^ m.comps.length) - 1))) = false then .bool (decide (((m.shares[j]'(by omega)).wr) < 0)) else undef|11=>v_ = .bool B231|12=>v_ = .bool B231|13=>v_ = if B231 = false then .pointer (some ⟨b219,1,none⟩) else undef|14=>v_ = if B231 = false then vI ((m.shares[j]'(by omega)).wr) else undef|15=>v_ = if B231 = false then .pointer (some ⟨b219,0,none⟩) else undef|16=>v_ = if B231 = false then vI ((m.shares[j]'(by omega)).rd) else undef|17=>v_ = if B231 = false then vI (jf .and .i64 ((m.shares[j]'(by omega)).wr) ((m.shares[j]'(by omega)).rd)) else undef|18=>v_ = if B231 = false then .pointer (some ⟨b219,1,none⟩) else undef|19=>v_ = if B231 = false then vI ((m.shares[j]'(by omega)).wr) else undef|20=>v_ = if B231 = false then .bool (decide ((jf .and .i64 ((m.shares[j]'(by omega)).wr) ((m.shares[j]'(by omega)).rd)) ≠ ((m.shares[j]'(by omega)).wr))) else undef|21=>v_ = .bool B240|_=>True) (by kernel_rfl) (by kernel_rfl) ⟨?_,?_,?_,?_,?_,?_,?_,?_,?_,?_,?_,?_,?_,?_,?_,?_,?_,?_,?_,?_,?_,?_,trivial⟩ ?_
        ·intro f0_ w0_ X0_ qp qo qu qk
         have hb11 : f0_ 11 = .pointer (some ⟨b219,0,none⟩):=(qp 11 rfl)
         refine qe rfl (qg hb11 fd70_0 rfl (o':=0) rfl rfl ?_)
         exact ⟨.pointer (some ⟨b219,0,none⟩),rfl,rfl,qk⟩
        ·intro f1_ w1_ X1_ qp qo qu qk
         obtain ⟨hu0,-⟩:=qo
         have hu0 : f1_ 152 = .pointer (some ⟨b219,0,none⟩):=hu0
         obtain ⟨hr22,-⟩:=qu
         have hr22 : Item.φ (blk b219 [vI ((m.shares[j]'(by omega)).rd),vI ((m.shares[j]'(by omega)).wr)] 70) w1_:=hr22
         refine qe rfl (qq (v:=vI ((m.shares[j]'(by omega)).rd)) hu0 ag3 (qh (hr22) rfl) rfl ?_)
         exact ⟨vI ((m.shares[j]'(by omega)).rd),rfl,rfl,qk⟩
        ·intro f2_ w2_ X2_ qp qo qu qk
         have hb3 : f2_ 3 = vI ((m.comps.length : Nat) : Int):=(qp 3 rfl)
         refine qe rfl (qj (v:=vI ((m.comps.length : Nat) : Int)) hb3 rfl ?_)
         exact ⟨vI ((m.comps.length : Nat) : Int),rfl,rfl,qk⟩
        ·intro f3_ w3_ X3_ qp qo qu qk
         obtain ⟨hu2,-⟩:=qo
         have hu2 : f3_ 154 = vI ((m.comps.length : Nat) : Int):=hu2
         refine qe rfl (qt (v:=vI ((2 : Int) ^ m.comps.length)) rfl hu2 rfl (b_shl (by omega) (shl_small h4)) ?_)
         exact ⟨vI ((2 : Int) ^ m.comps.length),rfl,rfl,qk⟩
        ·intro f4_ w4_ X4_ qp qo qu qk
         obtain ⟨hu3,-⟩:=qo
         have hu3 : f4_ 155 = vI ((2 : Int) ^ m.comps.length):=hu3
         refine qe rfl (qt (v:=vI (((2 : Int) ^ m.comps.length) - 1)) hu3 rfl rfl (b_sub (qz (by omega) (by omega))) ?_)
         exact ⟨vI (((2 : Int) ^ m.comps.length) - 1),rfl,rfl,qk⟩
        ·intro f5_ w5_ X5_ qp qo qu qk
         obtain ⟨hu1,hu4,-⟩:=qo
         have hu1 : f5_ 153 = vI ((m.shares[j]'(by omega)).rd):=hu1
         have hu4 : f5_ 156 = vI (((2 : Int) ^ m.comps.length) - 1):=hu4
         refine qe rfl (zi (args:=[vI ((m.shares[j]'(by omega)).rd),vI 0,vI (((2 : Int) ^ m.comps.length) - 1)]) rfl (by simp only [List.map_cons,List.map_nil,List.nil_append,List.cons_append,List.append_nil,ev,Value.cells,hu1,hu4]) rfl en59 (yb ((m.shares[j]'(by omega)).rd) 0 (((2 : Int) ^ m.comps.length) - 1) _) ?_)
         rintro _ w225 ⟨rfl,hk227⟩
         have hs226:=qk.keep hk227
         exact ⟨.bool (qd ((m.shares[j]'(by omega)).rd) 0 (((2 : Int) ^ m.comps.length) - 1)),rfl,rfl,hs226⟩
        ·intro f6_ w6_ X6_ qp qo qu qk
         obtain ⟨hu5,-⟩:=qo
         have hu5 : f6_ 157 = .bool (qd ((m.shares[j]'(by omega)).rd) 0 (((2 : Int) ^ m.comps.length) - 1)):=hu5
         refine qe rfl (j0 (b:=(qd ((m.shares[j]'(by omega)).rd) 0 (((2 : Int) ^ m.comps.length) - 1))) hu5 rfl ?_)
         exact ⟨.bool (!(qd ((m.shares[j]'(by omega)).rd) 0 (((2 : Int) ^ m.comps.length) - 1))),rfl,rfl,qk⟩
        ·intro f7_ w7_ X7_ qp qo qu qk
         obtain ⟨hu6,-⟩:=qo
         have hu6 : f7_ 158 = .bool (!(qd ((m.shares[j]'(by omega)).rd) 0 (((2 : Int) ^ m.comps.length) - 1))):=hu6
         refine qe rfl (qj (v:=.bool (!(qd ((m.shares[j]'(by omega)).rd) 0 (((2 : Int) ^ m.comps.length) - 1)))) hu6 rfl ?_)
         exact ⟨.bool (!(qd ((m.shares[j]'(by omega)).rd) 0 (((2 : Int) ^ m.comps.length) - 1))),rfl,rfl,qk⟩
        ·intro f8_ w8_ X8_ qp qo qu qk
         obtain ⟨hu7,-⟩:=qo
         have hu7 : f8_ 159 = .bool (!(qd ((m.shares[j]'(by omega)).rd) 0 (((2 : Int) ^ m.comps.length) - 1))):=hu7
         have hb11 : f8_ 11 = .pointer (some ⟨b219,0,none⟩):=(qp 11 rfl)
         refine ze rfl (c:=(!(qd ((m.shares[j]'(by omega)).rd) 0 (((2 : Int) ^ m.comps.length) - 1)))) hu7 (fun hg228=>?_) (fun hg228=>⟨undef,rfl,(if_neg (by rw [hg228]; decide)).symm,qk⟩)
         refine qg hb11 fd70_1 rfl (o':=1) rfl rfl ?_
         exact ⟨.pointer (some ⟨b219,1,none⟩),rfl,(if_pos hg228).symm,qk⟩
        ·intro f9_ w9_ X9_ qp qo qu qk
         obtain ⟨hu7,hu8,-⟩:=qo
         have hu7 : f9_ 159 = .bool (!(qd ((m.shares[j]'(by omega)).rd) 0 (((2 : Int) ^ m.comps.length) - 1))):=hu7
         have hu8 : f9_ 160 = if (!(qd ((m.shares[j]'(by omega)).rd) 0 (((2 : Int) ^ m.comps.length) - 1))) = false then .pointer (some ⟨b219,1,none⟩) else undef:=hu8
         obtain ⟨hr22,-⟩:=qu
         have hr22 : Item.φ (blk b219 [vI ((m.shares[j]'(by omega)).rd),vI ((m.shares[j]'(by omega)).wr)] 70) w9_:=hr22
         refine ze rfl (c:=(!(qd ((m.shares[j]'(by omega)).rd) 0 (((2 : Int) ^ m.comps.length) - 1)))) hu7 (fun hg229=>?_) (fun hg229=>⟨undef,rfl,(if_neg (by rw [hg229]; decide)).symm,qk⟩)
         refine qq (v:=vI ((m.shares[j]'(by omega)).wr)) (Eq.trans hu8 (if_pos hg229)) ag3 (qh (hr22) rfl) rfl ?_
         exact ⟨vI ((m.shares[j]'(by omega)).wr),rfl,(if_pos hg229).symm,qk⟩
        ·intro f10_ w10_ X10_ qp qo qu qk
         obtain ⟨hu7,hu9,-⟩:=qo
         have hu7 : f10_ 159 = .bool (!(qd ((m.shares[j]'(by omega)).rd) 0 (((2 : Int) ^ m.comps.length) - 1))):=hu7
         have hu9 : f10_ 161 = if (!(qd ((m.shares[j]'(by omega)).rd) 0 (((2 : Int) ^ m.comps.length) - 1))) = false then vI ((m.shares[j]'(by omega)).wr) else undef:=hu9
         refine ze rfl (c:=(!(qd ((m.shares[j]'(by omega)).rd) 0 (((2 : Int) ^ m.comps.length) - 1)))) hu7 (fun hg230=>?_) (fun hg230=>⟨undef,rfl,(if_neg (by rw [hg230]; decide)).symm,qk⟩)
         refine qt (k:=.i64) (k':=.i64) (a:=((m.shares[j]'(by omega)).wr)) (b:=0) (Eq.trans hu9 (if_pos hg230)) rfl rfl jg ?_
         exact ⟨.bool (decide (((m.shares[j]'(by omega)).wr) < 0)),rfl,(if_pos hg230).symm,qk⟩
        ·intro f11_ w11_ X11_ qp qo qu qk
         obtain ⟨hu7,hu10,-⟩:=qo
         have hu7 : f11_ 159 = .bool (!(qd ((m.shares[j]'(by omega)).rd) 0 (((2 : Int) ^ m.comps.length) - 1))):=hu7
         have hu10 : f11_ 162 = if (!(qd ((m.shares[j]'(by omega)).rd) 0 (((2 : Int) ^ m.comps.length) - 1))) = false then .bool (decide (((m.shares[j]'(by omega)).wr) < 0)) else undef:=hu10
         refine qe rfl (ka (v:=.bool B231) hu7 (Eq.trans (by simp only [ev,hu10]; exact jk _ _) (congrArg Value.bool hB231.symm)) rfl ?_)
         exact ⟨.bool B231,rfl,rfl,qk⟩
        ·intro f12_ w12_ X12_ qp qo qu qk
         obtain ⟨hu11,-⟩:=qo
         have hu11 : f12_ 163 = .bool B231:=hu11
         refine qe rfl (qj (v:=.bool B231) hu11 rfl ?_)
         exact ⟨.bool B231,rfl,rfl,qk⟩
        ·intro f13_ w13_ X13_ qp qo qu qk
         obtain ⟨hu12,-⟩:=qo
         have hu12 : f13_ 164 = .bool B231:=hu12
         have hb11 : f13_ 11 = .pointer (some ⟨b219,0,none⟩):=(qp 11 rfl)
         refine ze rfl (c:=B231) hu12 (fun hg232=>?_) (fun hg232=>⟨undef,rfl,(if_neg (by rw [hg232]; decide)).symm,qk⟩)
         refine qg hb11 fd70_1 rfl (o':=1) rfl rfl ?_
         exact ⟨.pointer (some ⟨b219,1,none⟩),rfl,(if_pos hg232).symm,qk⟩
        ·intro f14_ w14_ X14_ qp qo qu qk
         obtain ⟨hu12,hu13,-⟩:=qo
         have hu12 : f14_ 164 = .bool B231:=hu12
         have hu13 : f14_ 165 = if B231 = false then .pointer (some ⟨b219,1,none⟩) else undef:=hu13
         obtain ⟨hr22,-⟩:=qu
         have hr22 : Item.φ (blk b219 [vI ((m.shares[j]'(by omega)).rd),vI ((m.shares[j]'(by omega)).wr)] 70) w14_:=hr22
         refine ze rfl (c:=B231) hu12 (fun hg233=>?_) (fun hg233=>⟨undef,rfl,(if_neg (by rw [hg233]; decide)).symm,qk⟩)
         refine qq (v:=vI ((m.shares[j]'(by omega)).wr)) (Eq.trans hu13 (if_pos hg233)) ag3 (qh (hr22) rfl) rfl ?_
         exact ⟨vI ((m.shares[j]'(by omega)).wr),rfl,(if_pos hg233).symm,qk⟩
        ·intro f15_ w15_ X15_ qp qo qu qk
         obtain ⟨hu12,-⟩:=qo
         have hu12 : f15_ 164 = .bool B231:=hu12
         have hb11 : f15_ 11 = .pointer (some ⟨b219,0,none⟩):=(qp 11 rfl)
         refine ze rfl (c:=B231) hu12 (fun hg234=>?_) (fun hg234=>⟨undef,rfl,(if_neg (by rw [hg234]; decide)).symm,qk⟩)
         refine qg hb11 fd70_0 rfl (o':=0) rfl rfl ?_
         exact ⟨.pointer (some ⟨b219,0,none⟩),rfl,(if_pos hg234).symm,qk⟩
        ·intro f16_ w16_ X16_ qp qo qu qk
         obtain ⟨hu12,hu15,-⟩:=qo
         have hu12 : f16_ 164 = .bool B231:=hu12
         have hu15 : f16_ 167 = if B231 = false then .pointer (some ⟨b219,0,none⟩) else undef:=hu15
         obtain ⟨hr22,-⟩:=qu
         have hr22 : Item.φ (blk b219 [vI ((m.shares[j]'(by omega)).rd),vI ((m.shares[j]'(by omega)).wr)] 70) w16_:=hr22
         refine ze rfl (c:=B231) hu12 (fun hg235=>?_) (fun hg235=>⟨undef,rfl,(if_neg (by rw [hg235]; decide)).symm,qk⟩)
         refine qq (v:=vI ((m.shares[j]'(by omega)).rd)) (Eq.trans hu15 (if_pos hg235)) ag3 (qh (hr22) rfl) rfl ?_
         exact ⟨vI ((m.shares[j]'(by omega)).rd),rfl,(if_pos hg235).symm,qk⟩
        ·intro f17_ w17_ X17_ qp qo qu qk
         obtain ⟨hu12,hu14,hu16,-⟩:=qo
         have hu12 : f17_ 164 = .bool B231:=hu12
         have hu14 : f17_ 166 = if B231 = false then vI ((m.shares[j]'(by omega)).wr) else undef:=hu14
         have hu16 : f17_ 168 = if B231 = false then vI ((m.shares[j]'(by omega)).rd) else undef:=hu16
         refine ze rfl (c:=B231) hu12 (fun hg236=>?_) (fun hg236=>⟨undef,rfl,(if_neg (by rw [hg236]; decide)).symm,qk⟩)
         refine qt (v:=vI (jf .and .i64 ((m.shares[j]'(by omega)).wr) ((m.shares[j]'(by omega)).rd))) (Eq.trans hu14 (if_pos hg236)) (Eq.trans hu16 (if_pos hg236)) rfl (b_and (rfl)) ?_
         exact ⟨vI (jf .and .i64 ((m.shares[j]'(by omega)).wr) ((m.shares[j]'(by omega)).rd)),rfl,(if_pos hg236).symm,qk⟩
        ·intro f18_ w18_ X18_ qp qo qu qk
         obtain ⟨hu12,-⟩:=qo
         have hu12 : f18_ 164 = .bool B231:=hu12
         have hb11 : f18_ 11 = .pointer (some ⟨b219,0,none⟩):=(qp 11 rfl)
         refine ze rfl (c:=B231) hu12 (fun hg237=>?_) (fun hg237=>⟨undef,rfl,(if_neg (by rw [hg237]; decide)).symm,qk⟩)
         refine qg hb11 fd70_1 rfl (o':=1) rfl rfl ?_
         exact ⟨.pointer (some ⟨b219,1,none⟩),rfl,(if_pos hg237).symm,qk⟩
        ·intro f19_ w19_ X19_ qp qo qu qk
         obtain ⟨hu12,hu18,-⟩:=qo
         have hu12 : f19_ 164 = .bool B231:=hu12
         have hu18 : f19_ 170 = if B231 = false then .pointer (some ⟨b219,1,none⟩) else undef:=hu18
         obtain ⟨hr22,-⟩:=qu
         have hr22 : Item.φ (blk b219 [vI ((m.shares[j]'(by omega)).rd),vI ((m.shares[j]'(by omega)).wr)] 70) w19_:=hr22
         refine ze rfl (c:=B231) hu12 (fun hg238=>?_) (fun hg238=>⟨undef,rfl,(if_neg (by rw [hg238]; decide)).symm,qk⟩)
         refine qq (v:=vI ((m.shares[j]'(by omega)).wr)) (Eq.trans hu18 (if_pos hg238)) ag3 (qh (hr22) rfl) rfl ?_
         exact ⟨vI ((m.shares[j]'(by omega)).wr),rfl,(if_pos hg238).symm,qk⟩
        ·intro f20_ w20_ X20_ qp qo qu qk
         obtain ⟨hu12,hu17,hu19,-⟩:=qo
         have hu12 : f20_ 164 = .bool B231:=hu12
         have hu17 : f20_ 169 = if B231 = false then vI (jf .and .i64 ((m.shares[j]'(by omega)).wr) ((m.shares[j]'(by omega)).rd)) else undef:=hu17
         have hu19 : f20_ 171 = if B231 = false then vI ((m.shares[j]'(by omega)).wr) else undef:=hu19
         refine ze rfl (c:=B231) hu12 (fun hg239=>?_) (fun hg239=>⟨undef,rfl,(if_neg (by rw [hg239]; decide)).symm,qk⟩)
         refine qt (k:=.i64) (k':=.i64) (a:=(jf .and .i64 ((m.shares[j]'(by omega)).wr) ((m.shares[j]'(by omega)).rd))) (b:=((m.shares[j]'(by omega)).wr)) (Eq.trans hu17 (if_pos hg239)) (Eq.trans hu19 (if_pos hg239)) rfl yd ?_
         exact ⟨.bool (decide ((jf .and .i64 ((m.shares[j]'(by omega)).wr) ((m.shares[j]'(by omega)).rd)) ≠ ((m.shares[j]'(by omega)).wr))),rfl,(if_pos hg239).symm,qk⟩
        ·intro f21_ w21_ X21_ qp qo qu qk
         obtain ⟨hu12,hu20,-⟩:=qo
         have hu12 : f21_ 164 = .bool B231:=hu12
         have hu20 : f21_ 172 = if B231 = false then .bool (decide ((jf .and .i64 ((m.shares[j]'(by omega)).wr) ((m.shares[j]'(by omega)).rd)) ≠ ((m.shares[j]'(by omega)).wr))) else undef:=hu20
         refine qe rfl (ka (v:=.bool B240) hu12 (Eq.trans (by simp only [ev,hu20]; exact jk _ _) (congrArg Value.bool hB240.symm)) rfl ?_)
         exact ⟨.bool B240,rfl,rfl,qk⟩
        intro f241 w242 qp qo hs243
        obtain ⟨hu21,-⟩:=qo
        have hu21 : f241 173 = .bool B240:=hu21
        have hs243 : St _ _ _ [blk b219 [vI ((m.shares[j]'(by omega)).rd),vI ((m.shares[j]'(by omega)).wr)] 70,blk b1 (qn m) 26] _:=hs243
        have e244 : f241 1 = .pointer (some ⟨b1,0,none⟩):=(qp 1 rfl)
        rewrite [qm e244]
        have e245 : f241 3 = vI ((m.comps.length : Nat) : Int):=(qp 3 rfl)
        rewrite [qm e245]
        have e246 : f241 10 = vI ((j : Nat) : Int):=(qp 10 rfl)
        rewrite [qm e246]
        rewrite [qm hu21]
        subst hB240
        subst hB231
        refine qb ?_
        refine k5 (t:=(((!(qd ((m.shares[j]'(by omega)).rd) 0 (((2 : Int) ^ m.comps.length) - 1))) || (decide (((m.shares[j]'(by omega)).wr) < 0))) || (decide ((jf .and .i64 ((m.shares[j]'(by omega)).wr) ((m.shares[j]'(by omega)).rd)) ≠ ((m.shares[j]'(by omega)).wr))))) rfl (fun hc247=>?_) (fun hc247=>?_)
        ·refine qi (qc ?_)
         refine qa rfl (qf (v:=.bool false) rfl rfl ?_)
         refine ql (qb (zo (zk (q9 (q9 (zk (q9 ?_)))))))
         refine ⟨.bool false,res1 rfl,?_⟩
         exact ⟨congrArg Value.bool (rf_ns (List.getElem_mem (by omega : j < m.shares.length)) (by have:=hc247; rw [rf_share (hwr _ (List.getElem_mem _))] at this; simpa using this)).symm,hs243.base⟩
        ·refine zn (z7 (qb (qc ?_)))
         refine qa rfl (qj (v:=vI ((j : Nat) : Int)) rfl rfl ?_)
         refine qa rfl (qt (v:=vI ((j + 1 : Nat) : Int)) rfl rfl rfl (ki (qz (by omega) (by omega))) ?_)
         refine qa rfl (qf (v:=vI ((j + 1 : Nat) : Int)) rfl rfl ?_)
         refine ql (qb ?_)
         refine ⟨_,?_,j + 1,rfl,by omega,rf_snoc hs1 (by omega) (by have:=hc247; rw [rf_share (hwr _ (List.getElem_mem _))] at this; simpa using this),rfl,rfl,rfl,hs243.popR.popM⟩
         omega
       ·refine ja (z0 (z0 (ke (qb (qi (qc ?_))))))
        refine qa rfl (qf (v:=.bool true) rfl rfl ?_)
        refine ql (qb (zo ?_))
        refine ⟨.bool true,res1 rfl,?_⟩
        exact ⟨congrArg Value.bool (rf_yes h0 (rf_all hk1 (by omega)) (rf_all hl1 (by omega)) (rf_many hl2 (by omega)) (rf_all hs1 (by omega))).symm,hs209.base⟩

set_option maxHeartbeats 2000000 in
/-- seizin/seizinref17.Right -/
theorem rrightI_c (m : ImageV) (w : World) (hm : ∀ i ∈ kh m,i.φ w) (hb : ImgB m) (hwr : ∀ s ∈ m.shares,s.wr ≤ 9223372036854775807) :
  C Try.prog 15 [.agg (qn m).toArray] w fun v w'=>v = .bool (z2 m) ∧ Grow w w':=by
 have hs0 : St w (fun _=>False) w [] (kh m):=St.start w _ hm
 refine z8 [.tmp 2] 47 Try.func15 rfl Try.ntmps15 rfl rfl ?_
 refine qi (qc ?_)
 refine qa rfl (jw (v:=.agg (qn m).toArray) (cs:=(qn m)) hs0 rfl rfl rfl ?_)
 intro b1 w2 hb4 hs3
 refine qa rfl (qf (v:=.bool false) rfl rfl ?_)
 refine ql (qb (qi (qi (qc ?_))))
 refine qa rfl (qw (vs:=(qn m)) rfl ag26 sz26 (Rd.of_blk (hs3.get 0 rfl) 0 6) rfl rfl ?_)
 refine qa rfl (zi (args:=[.agg (qn m).toArray]) rfl rfl rfl en35 (rform_c m _ (hs3.r) hb hwr) ?_)
 rintro _ w5 ⟨rfl,hk7⟩
 have hs6:=hs3.keep hk7
 refine qa rfl (j0 (b:=(jo m)) rfl rfl ?_)
 refine ql (qb ?_)
 refine k5 (t:=(!(jo m))) rfl (fun hc8=>?_) (fun hc8=>?_)
 ·refine qi (qc ?_)
  refine qa rfl (qf (v:=.bool false) rfl rfl ?_)
  refine ql (qb (zo (q9 ?_)))
  refine ⟨.bool false,res1 rfl,?_⟩
  exact ⟨congrArg Value.bool (rr_0 (by simpa using hc8)).symm,hs6.base⟩
 ·refine zn (qb (qi (qi ?_)))
  have hform : jo m = true:=by simpa using hc8
  have hsm:=rf_small ((formS_split m).1 hform).1
  refine qc ?_
  refine qa rfl (qf (v:=vI 0) rfl rfl ?_)
  refine ql (qb (zy ?_))
  refine kw (fun m_ f_ w_=>∃ k : Nat,m_ = m.comps.length - k ∧ (k ≤ m.comps.length) ∧ (∀ c ∈ m.comps.take k,xl c m.strict = true) ∧ f_ 1 = .pointer (some ⟨b1,0,none⟩) ∧ f_ 3 = vI ((k : Nat) : Int) ∧ St w (fun _=>False) w_ [blk b1 (qn m) 26] (kh m)) ?_ ?_
  ·exact ⟨_,0,rfl,Nat.zero_le _,(fun _ h=>by simp at h),rfl,rfl,hs6⟩
  ·intro m12 f9 w10; rintro ⟨k,rfl,hk0,hk1,e13,e14,hs11⟩
   rewrite [qm e13]
   rewrite [qm e14]
   refine qi (qi (qc ?_))
   refine qa rfl (qj (v:=vI ((k : Nat) : Int)) rfl rfl ?_)
   refine qa rfl (qg rfl jq rfl (o':=3) rfl rfl ?_)
   refine qa rfl (qq (v:=.slice m.ca m.comps.length m.ccap) rfl ag22 (qh (hs11.get 0 rfl) rfl) rfl ?_)
   refine qa rfl (qx (len:=m.comps.length) rfl un22 rfl ?_)
   refine qa rfl (qt (k:=.i64) (k':=.i64) (a:=((k : Nat) : Int)) (b:=((m.comps.length : Nat) : Int)) rfl rfl rfl jg ?_)
   refine ql (qb ?_)
   refine zd rfl (fun hc15=>?_) (fun hc15=>?_)
   ·refine zn (qb (qi (zy (qi ?_))))
    have hco:=hb.co _ (List.getElem_mem (by omega : k < m.comps.length))
    have hs16:=hs11.addRsub 3 rfl (arrI encB 1 ((m.comps[k]'(by omega)).a) ((m.comps[k]'(by omega)).code)) (hs11.getR 3 rfl _ (List.getElem_mem (by omega))) (fun b hb=>⟨_,List.getElem_mem (by omega),hb⟩)
    refine qc ?_
    refine qa rfl (qg rfl jq rfl (o':=3) rfl rfl ?_)
    refine qa rfl (qq (v:=.slice m.ca m.comps.length m.ccap) rfl ag22 (qh (hs16.get 0 rfl) rfl) rfl ?_)
    refine qa rfl (qj (v:=vI ((k : Nat) : Int)) rfl rfl ?_)
    obtain ⟨b17,o18,ha19,hs20⟩:=hs16.elem 1 rfl k (by omega)
    refine qa rfl (qs rfl ha19 rfl un22 sz53 (by omega) (by omega) (o':=o18 + k * 2) (by omega) rfl ?_)
    refine qa rfl (qg rfl ym rfl (o':=o18 + k * 2) rfl rfl ?_)
    refine qa rfl (qq (v:=.slice ((m.comps[k]'(by omega)).a) ((m.comps[k]'(by omega)).code.length) ((m.comps[k]'(by omega)).cap)) rfl ag27 ((hs20.getR 0 rfl).2 0 _ rfl) rfl ?_)
    refine qa rfl (zi (args:=[.slice ((m.comps[k]'(by omega)).a) ((m.comps[k]'(by omega)).code.length) ((m.comps[k]'(by omega)).cap)]) rfl rfl rfl en40 (rall_c ((m.comps[k]'(by omega)).a) ((m.comps[k]'(by omega)).cap) ((m.comps[k]'(by omega)).code) _ (hs20.getR 1 rfl) (hco.1) (hco.2.1)) ?_)
    rintro _ w24 ⟨⟨a21,c22,n23,rfl,ha26,hn27⟩,hk28⟩
    have hs25:=hs20.addRn hk28 _ ha26 hn27
    refine qa rfl (qj (v:=.tuple #[.slice a21 ((allS (m.comps[k]'(by omega)).code).1.length) c22,vI n23,vI ((allS (m.comps[k]'(by omega)).code).2.2)]) rfl rfl ?_)
    refine qa rfl (jh (v:=.slice a21 ((allS (m.comps[k]'(by omega)).code).1.length) c22) rfl rfl rfl ?_)
    refine qa rfl (jh (v:=vI n23) rfl rfl rfl ?_)
    refine qa rfl (jh (v:=vI ((allS (m.comps[k]'(by omega)).code).2.2)) rfl rfl rfl ?_)
    refine qa rfl (qf (v:=.slice a21 ((allS (m.comps[k]'(by omega)).code).1.length) c22) rfl rfl ?_)
    refine qa rfl (qf (v:=vI n23) rfl rfl ?_)
    refine qa rfl (qf (v:=vI ((allS (m.comps[k]'(by omega)).code).2.2)) rfl rfl ?_)
    refine ql (qb (qi (qi (qc ?_))))
    refine qa rfl (qj (v:=vI ((allS (m.comps[k]'(by omega)).code).2.2)) rfl rfl ?_)
    refine qa rfl (qt (k:=.i64) (k':=.i64) (a:=((allS (m.comps[k]'(by omega)).code).2.2)) (b:=0) rfl rfl rfl yd ?_)
    refine ql (qb ?_)
    refine zd rfl (fun hc29=>?_) (fun hc29=>?_)
    ·refine qi (qc ?_)
     refine qa rfl (qf (v:=.bool false) rfl rfl ?_)
     refine ql (qb (zo (q9 (zk (q9 (q9 (zk (q9 ?_))))))))
     refine ⟨.bool false,res1 rfl,?_⟩
     exact ⟨congrArg Value.bool (rr_n (List.getElem_mem (by omega : k < m.comps.length)) (rr_bad hc29)).symm,hs25.base⟩
    ·refine zn (qb (qi ?_))
     have he0 : (allS (m.comps[k]'(by omega)).code).2.2 = 0:=by simpa using hc29
     have hal:=allS_len (m.comps[k]'(by omega)).code (by have:=hco.1; omega)
     refine qc ?_
     refine qa rfl (qf (v:=vI 0) rfl rfl ?_)
     refine ql (qb (zy ?_))
     refine kw (fun m_ f_ w_=>∃ j : Nat,m_ = (allS (m.comps[k]'(by omega)).code).1.length - j ∧ (j ≤ (allS (m.comps[k]'(by omega)).code).1.length) ∧ (∀ x ∈ (allS (m.comps[k]'(by omega)).code).1.take j,(m.strict && decide (x.op = 28)) = false) ∧ f_ 1 = .pointer (some ⟨b1,0,none⟩) ∧ f_ 3 = vI ((k : Nat) : Int) ∧ f_ 4 = .slice a21 ((allS (m.comps[k]'(by omega)).code).1.length) c22 ∧ f_ 7 = vI ((j : Nat) : Int) ∧ St w (fun _=>False) w_ [blk b1 (qn m) 26] [arrI xi 4 a21 ((allS (m.comps[k]'(by omega)).code).1),rdI b17 (o18 + k * 2) (zu (m.comps[k]'(by omega))),arrI encB 1 ((m.comps[k]'(by omega)).a) ((m.comps[k]'(by omega)).code),arrI zu 2 m.ca m.comps,arrI z1 3 m.la m.links,arrI zw 2 m.sa m.shares,ko m.comps]) ?_ ?_
     ·exact ⟨_,0,rfl,Nat.zero_le _,(fun _ h=>by simp at h),rfl,rfl,rfl,rfl,hs25⟩
     ·intro m33 f30 w31; rintro ⟨j,rfl,hj0,hj1,e34,e35,e36,e37,hs32⟩
      rewrite [qm e34]
      rewrite [qm e35]
      rewrite [qm e36]
      rewrite [qm e37]
      refine qi (qi (qc ?_))
      refine qa rfl (qj (v:=vI ((j : Nat) : Int)) rfl rfl ?_)
      refine qa rfl (qj (v:=.slice a21 ((allS (m.comps[k]'(by omega)).code).1.length) c22) rfl rfl ?_)
      refine qa rfl (qx (len:=((allS (m.comps[k]'(by omega)).code).1.length)) rfl un75 rfl ?_)
      refine qa rfl (qt (k:=.i64) (k':=.i64) (a:=((j : Nat) : Int)) (b:=(((allS (m.comps[k]'(by omega)).code).1.length : Nat) : Int)) rfl rfl rfl jg ?_)
      refine ql (qb ?_)
      refine zd rfl (fun hc38=>?_) (fun hc38=>?_)
      ·refine zn (qb (qi (zy (qi ?_))))
       obtain ⟨b39,o40,ha41,hs42⟩:=hs32.elem 0 rfl j (by omega)
       refine qc ?_
       refine qa rfl (qg rfl fd26_0 rfl (o':=0) rfl rfl ?_)
       refine qa rfl (qq (v:=.bool m.strict) rfl ag4 (qh (hs42.get 0 rfl) rfl) rfl ?_)
       refine qa rfl (qj (v:=.bool m.strict) rfl rfl ?_)
       refine kn (v:=.slice a21 ((allS (m.comps[k]'(by omega)).code).1.length) c22) rfl rfl rfl rfl (fun hg43=>qj (v:=.slice a21 ((allS (m.comps[k]'(by omega)).code).1.length) c22) rfl rfl ⟨rfl,rfl⟩) ?_
       refine kn (v:=vI ((j : Nat) : Int)) rfl rfl rfl rfl (fun hg44=>qj (v:=vI ((j : Nat) : Int)) rfl rfl ⟨rfl,rfl⟩) ?_
       refine kn (v:=.pointer (some ⟨b39,o40 + j * 4,none⟩)) rfl rfl rfl rfl (fun hg45=>qs (show ev _ _ = .slice a21 ((allS (m.comps[k]'(by omega)).code).1.length) c22 from if_pos hg45) ha41 (show ev _ _ = vI ((j : Nat) : Int) from if_pos hg45) un75 sz79 (by omega) (by omega) (o':=o40 + j * 4) (by omega) rfl ⟨rfl,rfl⟩) ?_
       refine kn (v:=.pointer (some ⟨b39,o40 + j * 4,none⟩)) rfl rfl rfl rfl (fun hg46=>qg (show ev _ _ = .pointer (some ⟨b39,o40 + j * 4,none⟩) from if_pos hg46) fd79_0 rfl (o':=o40 + j * 4) rfl rfl ⟨rfl,rfl⟩) ?_
       refine kn (v:=vI ((((allS (m.comps[k]'(by omega)).code).1)[j]'(by omega)).op)) rfl rfl rfl rfl (fun hg47=>qq (v:=vI ((((allS (m.comps[k]'(by omega)).code).1)[j]'(by omega)).op)) (show ev _ _ = .pointer (some ⟨b39,o40 + j * 4,none⟩) from if_pos hg47) ag3 ((hs42.getR 0 rfl).2 0 _ rfl) rfl ⟨rfl,rfl⟩) ?_
       refine kn (v:=.bool (decide (((((allS (m.comps[k]'(by omega)).code).1)[j]'(by omega)).op) = 28))) rfl rfl rfl rfl (fun hg48=>qt (k:=.i64) (k':=.i64) (a:=((((allS (m.comps[k]'(by omega)).code).1)[j]'(by omega)).op)) (b:=28) (show ev _ _ = vI ((((allS (m.comps[k]'(by omega)).code).1)[j]'(by omega)).op) from if_pos hg48) rfl rfl k8 ⟨rfl,rfl⟩) ?_
       obtain ⟨B49,hB49⟩ : ∃ b : Bool,b = (m.strict && (decide (((((allS (m.comps[k]'(by omega)).code).1)[j]'(by omega)).op) = 28))):=⟨_,rfl⟩
       refine qa rfl (ka (v:=.bool B49) rfl (Eq.trans (j1 _ _) (congrArg Value.bool hB49.symm)) rfl ?_)
       subst hB49
       refine ql (qb ?_)
       refine k5 (t:=(m.strict && (decide (((((allS (m.comps[k]'(by omega)).code).1)[j]'(by omega)).op) = 28)))) rfl (fun hc50=>?_) (fun hc50=>?_)
       ·refine qi (qc ?_)
        refine qa rfl (qf (v:=.bool false) rfl rfl ?_)
        refine ql (qb (zo (zk (q9 (q9 (zk (zk (q9 (q9 (zk (q9 ?_)))))))))))
        refine ⟨.bool false,res1 rfl,?_⟩
        exact ⟨congrArg Value.bool (rr_n (List.getElem_mem (by omega : k < m.comps.length)) (rr_ask (List.getElem_mem (by omega : j < (allS (m.comps[k]'(by omega)).code).1.length)) hc50)).symm,hs42.base⟩
       ·refine zn (z7 (qb (qc ?_)))
        refine qa rfl (qj (v:=vI ((j : Nat) : Int)) rfl rfl ?_)
        refine qa rfl (qt (v:=vI ((j + 1 : Nat) : Int)) rfl rfl rfl (ki (qz (by omega) (by omega))) ?_)
        refine qa rfl (qf (v:=vI ((j + 1 : Nat) : Int)) rfl rfl ?_)
        refine ql (qb ?_)
        refine ⟨_,?_,j + 1,rfl,by omega,rf_snocF hj1 (by omega) hc50,rfl,rfl,rfl,rfl,hs42.popR⟩
        omega
      ·refine ja (z0 (z0 (ke (z7 (qb (qc ?_))))))
       refine qa rfl (qj (v:=vI ((k : Nat) : Int)) rfl rfl ?_)
       refine qa rfl (qt (v:=vI ((k + 1 : Nat) : Int)) rfl rfl rfl (ki (qz (by omega) (by omega))) ?_)
       refine qa rfl (qf (v:=vI ((k + 1 : Nat) : Int)) rfl rfl ?_)
       refine ql (qb ?_)
       refine ⟨_,?_,k + 1,rfl,by omega,rf_snoc hk1 (by omega) (rr_run he0 (rf_all hj1 (by omega))),rfl,rfl,hs32.popR.popR.popR⟩
       omega
   ·refine ja (z0 (z0 (ke (qb (qi (qc ?_))))))
    refine qa rfl (qf (v:=.bool true) rfl rfl ?_)
    refine ql (qb (zo ?_))
    refine ⟨.bool true,res1 rfl,?_⟩
    exact ⟨congrArg Value.bool (rr_yes hform (rf_all hk1 (by omega))).symm,hs11.base⟩


end Go.Proofs.Ytgddigkdldnmdaa
