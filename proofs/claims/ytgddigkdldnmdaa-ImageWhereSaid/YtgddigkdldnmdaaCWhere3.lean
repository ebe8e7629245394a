import Derived.Test.YtgddigkdldnmdaaCWhere2
namespace Go.Proofs.Ytgddigkdldnmdaa
open Go Go.Vg Go.Img
set_option linter.unusedSimpArgs false
set_option maxHeartbeats 4000000


theorem allS_len (l : List UInt8) (h : l.length ≤ 20000:=by assumption) : (allS l).1.length ≤ 20000:=by
 unfold allS
 split
 ·simp
 ·simp [nch]; omega
theorem runs_ways (c : CompV) (strict : Bool) : ((allS c.code).2.2 ≠ 0 ∧ xl c strict = false) ∨ ((allS c.code).2.2 = 0 ∧ strict = false ∧ xl c false = true) ∨ ((allS c.code).2.2 = 0 ∧ strict = true ∧ xl c true = !((allS c.code).1.any fun x=>decide (x.op = 28))):=by
 by_cases h : (allS c.code).2.2 = 0 <;> cases strict <;> simp [xl,h]
theorem link_no {m : ImageV} {k : LinkV} (h : ¬ (0 ≤ k.to ∧ k.to < m.comps.length)) : qd k.to 0 (m.comps.length - 1) = false:=by
 rw [Bool.eq_false_iff]; intro e; rw [jx] at e; omega
theorem max_first {l : List Int} (h : 0 < l.length) : l[0] ∈ l.take 1:=by
 cases l with
|nil=>simp at h
|cons=>simp
theorem max_first2 {l : List Int} (h : 0 < l.length) : ∀ x ∈ l.take 1,x ≤ l[0]:=by
 cases l with
|nil=>simp at h
|cons=>simp
theorem max_step {l : List Int} {k : Nat} {mx : Int} (hk : k < l.length) (h1 : mx ∈ l.take k) (h2 : ∀ x ∈ l.take k,x ≤ mx) : (if mx < l[k] then l[k] else mx) ∈ l.take (k + 1) ∧ ∀ x ∈ l.take (k + 1),x ≤ if mx < l[k] then l[k] else mx:=by
 rw [List.take_succ_eq_append_getElem hk]
 simp only [List.mem_append,List.mem_singleton]
 split
 ·refine ⟨.inr rfl,?_⟩
  rintro x (hx|rfl)
  ·have:=h2 x hx; omega
  ·omega
 ·refine ⟨.inl h1,?_⟩
  rintro x (hx|rfl)
  ·exact h2 x hx
  ·omega
theorem many_eq {l : List LinkV} {mx : Int} (h1 : mx ∈ (List.range 4).map fun i=>((cntL l i : Nat) : Int)) (h2 : ∀ x ∈ (List.range 4).map (fun i=>((cntL l i : Nat) : Int)),x ≤ mx) : decide (mx ≤ 8) = jr l:=by
 rw [Bool.eq_iff_iff]
 simp only [decide_eq_true_eq,jr,List.all_eq_true,List.mem_range]
 constructor
 ·intro h i hi
  have:=h2 _ (List.mem_map.2 ⟨i,List.mem_range.2 hi,rfl⟩)
  omega
 ·intro h
  obtain ⟨i,hi,rfl⟩:=List.mem_map.1 h1
  have:=h i (List.mem_range.1 hi)
  omega
theorem form_n {m : ImageV} {a b c d : Bool} {P : Bool} (h : (((a && (b && (qd m.comps.length 1 4 && (c && d)))) && P) = true)) : 1 ≤ m.comps.length ∧ m.comps.length ≤ 4:=by
 simp only [Bool.and_eq_true] at h
 have:=(jx _ _ _).1 h.1.2.2.1
 omega
theorem form_n2 {m : ImageV} {a b c d : Bool} {P Q T : Bool} (h : (((((a && (b && (qd m.comps.length 1 4 && (c && d)))) && P) && Q) && T) = true)) : m.comps.length ≤ 4:=by
 simp only [Bool.and_eq_true] at h
 have:=(jx _ _ _).1 h.1.1.1.2.2.1
 omega
theorem form_fr {m : ImageV} {a b c d : Bool} {P : Bool} (h : (((a && (b && (qd m.comps.length 1 4 && (c && d)))) && P) && m.links.all (km m)) = true) : ∀ k ∈ m.links,0 ≤ k.fr ∧ k.fr < 4:=by
 intro k hk
 simp only [Bool.and_eq_true,List.all_eq_true] at h
 have h1:=(jx _ _ _).1 h.1.1.2.2.1
 have h2:=h.2 k hk
 simp only [km,Bool.and_eq_true] at h2
 have h3:=(jx _ _ _).1 h2.1.1
 omega

/-- seizin/image.runs$1 -/
theorem asks_c (x : InsV) (w : World)  :
  C Try.prog 63 [.agg #[vI x.op,vI x.a,vI x.b,vI x.c]] w fun v w'=>v = .bool (decide (x.op = 28)) ∧ Grow w w':=by
 have hs0 : St w (fun _=>False) w [] []:=St.start w _ (by simp)
 refine z8 [.tmp 2] 6 Try.func63 rfl Try.ntmps63 rfl rfl ?_
 refine qi (qc ?_)
 refine qa rfl (jw (v:=.agg #[vI x.op,vI x.a,vI x.b,vI x.c]) (cs:=[vI x.op,vI x.a,vI x.b,vI x.c]) hs0 rfl rfl rfl ?_)
 intro b1 w2 hb4 hs3
 refine qa rfl (qf (v:=.bool false) rfl rfl ?_)
 refine ql (qb (qi (qc ?_)))
 refine qa rfl (qg rfl fd79_0 rfl (o':=0) rfl rfl ?_)
 refine qa rfl (qq (v:=vI x.op) rfl ag3 (qh (hs3.get 0 rfl) rfl) rfl ?_)
 refine qa rfl (qt (k:=.i64) (k':=.i64) (a:=x.op) (b:=28) rfl rfl rfl k8 ?_)
 refine qa rfl (qf (v:=.bool (decide (x.op = 28))) rfl rfl ?_)
 refine ql (qb (zo ?_))
 refine ⟨.bool (decide (x.op = 28)),res1 rfl,?_⟩
 exact ⟨rfl,hs3.base⟩

/-- seizin/image.runs -/
theorem runs_c (c : CompV) (strict : Bool) (w : World) (h : (arrI encB 1 c.a c.code).φ w) (hl : c.code.length ≤ 20000) (hcap : c.code.length ≤ c.cap) :
  C Try.prog 39 [.agg #[.slice c.a c.code.length c.cap,vI c.data],.bool strict] w fun v w'=>v = .bool (xl c strict) ∧ Grow w w':=by
 have hs0 : St w (fun _=>False) w [] [arrI encB 1 c.a c.code]:=St.start w _ (by simpa using h)
 refine z8 [.tmp 4] 28 Try.func39 rfl Try.ntmps39 rfl rfl ?_
 refine qi (qc ?_)
 refine qa rfl (jw (v:=.agg #[.slice c.a c.code.length c.cap,vI c.data]) (cs:=[.slice c.a c.code.length c.cap,vI c.data]) hs0 rfl rfl rfl ?_)
 intro b1 w2 hb4 hs3
 refine qa rfl (qf (v:=.bool false) rfl rfl ?_)
 refine ql (qb (qi (qc ?_)))
 refine qa rfl (qg rfl ym rfl (o':=0) rfl rfl ?_)
 refine qa rfl (qq (v:=.slice c.a c.code.length c.cap) rfl ag27 (qh (hs3.get 0 rfl) rfl) rfl ?_)
 refine qa rfl (zi (args:=[.slice c.a c.code.length c.cap]) rfl rfl rfl en62 (all_c c.a c.cap c.code _ (hs3.getR 0 rfl) (hl) (hcap)) ?_)
 rintro _ w7 ⟨⟨a5,c6,rfl,ha9,hn10⟩,hk11⟩
 have hs8:=hs3.addRn hk11 _ ha9 hn10
 refine qa rfl (qj (v:=.tuple #[.slice a5 ((allS c.code).1.length) c6,vI ((allS c.code).2.1),vI ((allS c.code).2.2)]) rfl rfl ?_)
 refine qa rfl (jh (v:=.slice a5 ((allS c.code).1.length) c6) rfl rfl rfl ?_)
 refine qa rfl (jh (v:=vI ((allS c.code).2.1)) rfl rfl rfl ?_)
 refine qa rfl (jh (v:=vI ((allS c.code).2.2)) rfl rfl rfl ?_)
 refine qa rfl (qf (v:=.slice a5 ((allS c.code).1.length) c6) rfl rfl ?_)
 refine qa rfl (qf (v:=vI ((allS c.code).2.1)) rfl rfl ?_)
 refine qa rfl (qf (v:=vI ((allS c.code).2.2)) rfl rfl ?_)
 refine ql (qb (qi (qc ?_)))
 refine qa rfl (qf (v:=.func (.func 63) #[] #[]) rfl rfl ?_)
 refine ql (qb (qi ?_))
 rcases runs_ways c strict with ⟨he,hq⟩|⟨he,rfl,hq⟩|⟨he,rfl,hq⟩
 ·refine qc ?_
  refine qa rfl (qj (v:=vI ((allS c.code).2.2)) rfl rfl ?_)
  refine qa rfl (qt (k:=.i64) (k':=.i64) (a:=((allS c.code).2.2)) (b:=0) (v:=.bool false) rfl rfl rfl (fun w=>(k8 w).trans (by rw [show decide (((allS c.code).2.2) = 0) = false from by simpa using he])) ?_)
  refine qa rfl (qj (v:=.bool false) rfl rfl ?_)
  refine j8 rfl rfl rfl rfl ?_
  refine j8 rfl rfl rfl rfl ?_
  refine j8 rfl rfl rfl rfl ?_
  refine L_guard_x rfl rfl rfl rfl ?_
  refine L_guard_x rfl rfl rfl rfl ?_
  refine L_guard_x rfl rfl rfl rfl ?_
  refine L_guard_x rfl rfl rfl rfl ?_
  refine j8 rfl rfl rfl rfl ?_
  refine qa rfl (ka (v:=.bool false) rfl rfl rfl ?_)
  refine qa rfl (qf (v:=.bool false) rfl rfl ?_)
  refine ql (qb (zo ?_))
  refine ⟨.bool false,res1 rfl,?_⟩
  exact ⟨congrArg Value.bool (by rw [hq]),hs8.base⟩
 ·refine qc ?_
  refine qa rfl (qj (v:=vI ((allS c.code).2.2)) rfl rfl ?_)
  refine qa rfl (qt (k:=.i64) (k':=.i64) (a:=((allS c.code).2.2)) (b:=0) (v:=.bool true) rfl rfl rfl (fun w=>(k8 w).trans (by rw [show decide (((allS c.code).2.2) = 0) = true from by simpa using he])) ?_)
  refine qa rfl (qj (v:=.bool true) rfl rfl ?_)
  refine zq rfl rfl (qj (v:=.bool false) rfl rfl ?_)
  refine zq rfl rfl (j0 (b:=false) rfl rfl ?_)
  refine zq rfl rfl (qj (v:=.bool true) rfl rfl ?_)
  refine j8 rfl rfl rfl rfl ?_
  refine j8 rfl rfl rfl rfl ?_
  refine j8 rfl rfl rfl rfl ?_
  refine j8 rfl rfl rfl rfl ?_
  refine zq rfl rfl (ka (v:=.bool true) rfl rfl rfl ?_)
  refine qa rfl (ka (v:=.bool true) rfl rfl rfl ?_)
  refine qa rfl (qf (v:=.bool true) rfl rfl ?_)
  refine ql (qb (zo ?_))
  refine ⟨.bool true,res1 rfl,?_⟩
  exact ⟨congrArg Value.bool (by rw [hq]),hs8.base⟩
 ·refine qc ?_
  refine qa rfl (qj (v:=vI ((allS c.code).2.2)) rfl rfl ?_)
  refine qa rfl (qt (k:=.i64) (k':=.i64) (a:=((allS c.code).2.2)) (b:=0) (v:=.bool true) rfl rfl rfl (fun w=>(k8 w).trans (by rw [show decide (((allS c.code).2.2) = 0) = true from by simpa using he])) ?_)
  refine qa rfl (qj (v:=.bool true) rfl rfl ?_)
  refine zq rfl rfl (qj (v:=.bool true) rfl rfl ?_)
  refine zq rfl rfl (j0 (b:=true) rfl rfl ?_)
  refine zq rfl rfl (qj (v:=.bool false) rfl rfl ?_)
  refine zq rfl rfl (qj (v:=.slice a5 ((allS c.code).1.length) c6) rfl rfl ?_)
  refine zq rfl rfl (qj (v:=.func (.func 63) #[] #[]) rfl rfl ?_)
  refine zq rfl rfl (zi (args:=[.slice a5 ((allS c.code).1.length) c6,.func (.func 63) #[] #[]]) rfl rfl rfl en64 (containsF_ins a5 c6 (allS c.code).1 63 [] (fun x=>decide (x.op = 28)) _ (hs8.getR 0 rfl) (by have:=allS_len c.code; omega) en63 (fun W hW x hx=>asks_c x W)) ?_)
  rintro _ w12 ⟨rfl,hk14⟩
  have hs13:=hs8.keep hk14
  refine zq rfl rfl (j0 (b:=((allS c.code).1.any fun x=>decide (x.op = 28))) rfl rfl ?_)
  refine zq rfl rfl (ka (v:=.bool (!((allS c.code).1.any fun x=>decide (x.op = 28)))) rfl rfl rfl ?_)
  refine qa rfl (ka (v:=.bool (!((allS c.code).1.any fun x=>decide (x.op = 28)))) rfl rfl rfl ?_)
  refine qa rfl (qf (v:=.bool (!((allS c.code).1.any fun x=>decide (x.op = 28)))) rfl rfl ?_)
  refine ql (qb (zo ?_))
  refine ⟨.bool (!((allS c.code).1.any fun x=>decide (x.op = 28))),res1 rfl,?_⟩
  exact ⟨congrArg Value.bool (by rw [hq]),hs13.base⟩

/-- seizin/image.link -/
theorem link_c (m : ImageV) (k : LinkV) (w : World) (hm : ∀ i ∈ kh m,i.φ w) (hb : ImgB m) (h1 : 1 ≤ m.comps.length) :
  C Try.prog 54 [.agg (qn m).toArray,.agg #[vI k.fr,vI k.to,vI k.ad]] w fun v w'=>v = .bool (km m k) ∧ Grow w w':=by
 have hs0 : St w (fun _=>False) w [] (kh m):=St.start w _ hm
 refine z8 [.tmp 4] 41 Try.func54 rfl Try.ntmps54 rfl rfl ?_
 refine qi (qc ?_)
 refine qa rfl (jw (v:=.agg (qn m).toArray) (cs:=(qn m)) hs0 rfl rfl rfl ?_)
 intro b1 w2 hb4 hs3
 refine qa rfl (jw (v:=.agg #[vI k.fr,vI k.to,vI k.ad]) (cs:=[vI k.fr,vI k.to,vI k.ad]) hs3 rfl rfl rfl ?_)
 intro b5 w6 hb8 hs7
 refine qa rfl (qf (v:=.bool false) rfl rfl ?_)
 refine ql (qb (qi (qc ?_)))
 refine qa rfl (qg rfl jq rfl (o':=3) rfl rfl ?_)
 refine qa rfl (qq (v:=.slice m.ca m.comps.length m.ccap) rfl ag22 (qh (hs7.get 1 rfl) rfl) rfl ?_)
 refine qa rfl (qx (len:=m.comps.length) rfl un22 rfl ?_)
 refine qa rfl (qf (v:=vI ((m.comps.length : Nat) : Int)) rfl rfl ?_)
 refine ql (qb (qi ?_))
 have:=hb.cl; by_cases hto : 0 ≤ k.to ∧ k.to < m.comps.length
 ·have hco:=hb.co _ (List.getElem_mem (by omega : k.to.toNat < m.comps.length))
  have hco:=hb.co _ (List.getElem_mem (by omega : k.to.toNat < m.comps.length))
  obtain ⟨b9,o10,ha11,hs12⟩:=hs7.elem 0 rfl k.to.toNat (by omega)
  obtain ⟨B42,hB42⟩ : ∃ b : Bool,b = (((qd k.fr 0 (((m.comps.length : Nat) : Int) - 1)) && ((qd k.to 0 (((m.comps.length : Nat) : Int) - 1)) && (decide (k.fr ≠ k.to) && true))) && (qd k.ad 0 (((((m.comps[k.to.toNat]'(by omega)).code.length : Nat) : Int) / 4) - 1))):=⟨_,rfl⟩
  refine jc js (show St _ _ _ [blk b5 [vI k.fr,vI k.to,vI k.ad] 68,blk b1 (qn m) 26] _ from hs12) (fun i_=>match i_ with|15=>some ([24],fun vs_=>match vs_ with|[x24]=>blk (vblk x24) [.bool (qd k.fr 0 (((m.comps.length : Nat) : Int) - 1)),.bool (qd k.to 0 (((m.comps.length : Nat) : Int) - 1)),.bool (decide (k.fr ≠ k.to))] 4|_=>emp)|_=>none) (fun i_=>match i_ with|_=>[]) (fun i_=>match i_ with|1=>[33]|6=>[33]|11=>[33]|13=>[33]|16=>[15]|19=>[33]|21=>[34]|23=>[33]|_=>[]) (fun i_=>match i_ with|1=>[0]|3=>[2]|4=>[1,3]|6=>[5]|8=>[7]|9=>[6,8]|11=>[10]|13=>[12]|14=>[11,13]|15=>[4,9,14]|16=>[15]|17=>[16]|18=>[17]|19=>[17,18]|20=>[17]|21=>[17,20]|22=>[17]|23=>[17,22]|24=>[17,21,23]|25=>[17,24]|26=>[17,25]|27=>[17,26]|28=>[17,27]|29=>[17,28]|30=>[17,19,29]|31=>[17,30]|32=>[31]|_=>[]) [15,33,34,0,1,2,3,4,5,6,7,8,9,10,11,12,13,14,16,17,18,19,20,21,22,23,24,25,26,27,28,29,30,31,32,35,36,37,38,39,40,41,42,43,44,45,46,47,48,49,50,51,52,53,54,55,56,57,58,59,60,61,62,63,64,65,66,67] [15,32] (fun i_ v_=>match i_ with|0=>v_ = .pointer (some ⟨b5,0,none⟩)|1=>v_ = vI k.fr|2=>v_ = vI ((m.comps.length : Nat) : Int)|3=>v_ = vI (((m.comps.length : Nat) : Int) - 1)|4=>v_ = .bool (qd k.fr 0 (((m.comps.length : Nat) : Int) - 1))|5=>v_ = .pointer (some ⟨b5,1,none⟩)|6=>v_ = vI k.to|7=>v_ = vI ((m.comps.length : Nat) : Int)|8=>v_ = vI (((m.comps.length : Nat) : Int) - 1)|9=>v_ = .bool (qd k.to 0 (((m.comps.length : Nat) : Int) - 1))|10=>v_ = .pointer (some ⟨b5,0,none⟩)|11=>v_ = vI k.fr|12=>v_ = .pointer (some ⟨b5,1,none⟩)|13=>v_ = vI k.to|14=>v_ = .bool (decide (k.fr ≠ k.to))|15=>∃ b19 : Nat,v_ = .slice (some ⟨b19,0,none⟩) 3 3|16=>v_ = .bool ((qd k.fr 0 (((m.comps.length : Nat) : Int) - 1)) && ((qd k.to 0 (((m.comps.length : Nat) : Int) - 1)) && (decide (k.fr ≠ k.to) && true)))|17=>v_ = .bool ((qd k.fr 0 (((m.comps.length : Nat) : Int) - 1)) && ((qd k.to 0 (((m.comps.length : Nat) : Int) - 1)) && (decide (k.fr ≠ k.to) && true)))|18=>v_ = if ((qd k.fr 0 (((m.comps.length : Nat) : Int) - 1)) && ((qd k.to 0 (((m.comps.length : Nat) : Int) - 1)) && (decide (k.fr ≠ k.to) && true))) = true then .pointer (some ⟨b5,2,none⟩) else undef|19=>v_ = if ((qd k.fr 0 (((m.comps.length : Nat) : Int) - 1)) && ((qd k.to 0 (((m.comps.length : Nat) : Int) - 1)) && (decide (k.fr ≠ k.to) && true))) = true then vI k.ad else undef|20=>v_ = if ((qd k.fr 0 (((m.comps.length : Nat) : Int) - 1)) && ((qd k.to 0 (((m.comps.length : Nat) : Int) - 1)) && (decide (k.fr ≠ k.to) && true))) = true then .pointer (some ⟨b1,3,none⟩) else undef|21=>v_ = if ((qd k.fr 0 (((m.comps.length : Nat) : Int) - 1)) && ((qd k.to 0 (((m.comps.length : Nat) : Int) - 1)) && (decide (k.fr ≠ k.to) && true))) = true then .slice m.ca m.comps.length m.ccap else undef|22=>v_ = if ((qd k.fr 0 (((m.comps.length : Nat) : Int) - 1)) && ((qd k.to 0 (((m.comps.length : Nat) : Int) - 1)) && (decide (k.fr ≠ k.to) && true))) = true then .pointer (some ⟨b5,1,none⟩) else undef|23=>v_ = if ((qd k.fr 0 (((m.comps.length : Nat) : Int) - 1)) && ((qd k.to 0 (((m.comps.length : Nat) : Int) - 1)) && (decide (k.fr ≠ k.to) && true))) = true then vI k.to else undef|24=>v_ = if ((qd k.fr 0 (((m.comps.length : Nat) : Int) - 1)) && ((qd k.to 0 (((m.comps.length : Nat) : Int) - 1)) && (decide (k.fr ≠ k.to) && true))) = true then .pointer (some ⟨b9,o10 + k.to.toNat * 2,none⟩) else undef|25=>v_ = if ((qd k.fr 0 (((m.comps.length : Nat) : Int) - 1)) && ((qd k.to 0 (((m.comps.length : Nat) : Int) - 1)) && (decide (k.fr ≠ k.to) && true))) = true then .pointer (some ⟨b9,o10 + k.to.toNat * 2,none⟩) else undef|26=>v_ = if ((qd k.fr 0 (((m.comps.length : Nat) : Int) - 1)) && ((qd k.to 0 (((m.comps.length : Nat) : Int) - 1)) && (decide (k.fr ≠ k.to) && true))) = true then .slice ((m.comps[k.to.toNat]'(by omega)).a) ((m.comps[k.to.toNat]'(by omega)).code.length) ((m.comps[k.to.toNat]'(by omega)).cap) else undef|27=>v_ = if ((qd k.fr 0 (((m.comps.length : Nat) : Int) - 1)) && ((qd k.to 0 (((m.comps.length : Nat) : Int) - 1)) && (decide (k.fr ≠ k.to) && true))) = true then vI (((m.comps[k.to.toNat]'(by omega)).code.length : Nat) : Int) else undef|28=>v_ = if ((qd k.fr 0 (((m.comps.length : Nat) : Int) - 1)) && ((qd k.to 0 (((m.comps.length : Nat) : Int) - 1)) && (decide (k.fr ≠ k.to) && true))) = true then vI ((((m.comps[k.to.toNat]'(by omega)).code.length : Nat) : Int) / 4) else undef|29=>v_ = if ((qd k.fr 0 (((m.comps.length : Nat) : Int) - 1)) && ((qd k.to 0 (((m.comps.length : Nat) : Int) - 1)) && (decide (k.fr ≠ k.to) && true))) = true then vI (((((m.comps[k.to.toNat]'(by omega)).code.length : Nat) : Int) / 4) - 1) else undef|30=>v_ = if ((qd k.fr 0 (((m.comps.length : Nat) : Int) - 1)) && ((qd k.to 0 (((m.comps.length : Nat) : Int) - 1)) && (decide (k.fr ≠ k.to) && true))) = true then .bool (qd k.ad 0 (((((m.comps[k.to.toNat]'(by omega)).code.length : Nat) : Int) / 4) - 1)) else undef|31=>v_ = .bool B42|32=>v_ = .bool B42|_=>True) (by kernel_rfl) (by kernel_rfl) ⟨?_,?_,?_,?_,?_,?_,?_,?_,?_,?_,?_,?_,?_,?_,?_,?_,?_,?_,?_,?_,?_,?_,?_,?_,?_,?_,?_,?_,?_,?_,?_,?_,?_,trivial⟩ ?_
  ·intro f0_ w0_ X0_ qp qo qu qk
   have hb3 : f0_ 3 = .pointer (some ⟨b5,0,none⟩):=(qp 3 rfl)
   refine qe rfl (qg hb3 fd68_0 rfl (o':=0) rfl rfl ?_)
   exact ⟨.pointer (some ⟨b5,0,none⟩),rfl,rfl,qk⟩
  ·intro f1_ w1_ X1_ qp qo qu qk
   obtain ⟨hu0,-⟩:=qo
   have hu0 : f1_ 9 = .pointer (some ⟨b5,0,none⟩):=hu0
   obtain ⟨hr33,-⟩:=qu
   have hr33 : Item.φ (blk b5 [vI k.fr,vI k.to,vI k.ad] 68) w1_:=hr33
   refine qe rfl (qq (v:=vI k.fr) hu0 ag3 (qh (hr33) rfl) rfl ?_)
   exact ⟨vI k.fr,rfl,rfl,qk⟩
  ·intro f2_ w2_ X2_ qp qo qu qk
   have hb5 : f2_ 5 = vI ((m.comps.length : Nat) : Int):=(qp 5 rfl)
   refine qe rfl (qj (v:=vI ((m.comps.length : Nat) : Int)) hb5 rfl ?_)
   exact ⟨vI ((m.comps.length : Nat) : Int),rfl,rfl,qk⟩
  ·intro f3_ w3_ X3_ qp qo qu qk
   obtain ⟨hu2,-⟩:=qo
   have hu2 : f3_ 11 = vI ((m.comps.length : Nat) : Int):=hu2
   refine qe rfl (qt (v:=vI (((m.comps.length : Nat) : Int) - 1)) hu2 rfl rfl (b_sub (qz (by omega) (by omega))) ?_)
   exact ⟨vI (((m.comps.length : Nat) : Int) - 1),rfl,rfl,qk⟩
  ·intro f4_ w4_ X4_ qp qo qu qk
   obtain ⟨hu1,hu3,-⟩:=qo
   have hu1 : f4_ 10 = vI k.fr:=hu1
   have hu3 : f4_ 12 = vI (((m.comps.length : Nat) : Int) - 1):=hu3
   refine qe rfl (zi (args:=[vI k.fr,vI 0,vI (((m.comps.length : Nat) : Int) - 1)]) rfl (by simp only [List.map_cons,List.map_nil,List.nil_append,List.cons_append,List.append_nil,ev,Value.cells,hu1,hu3]) rfl en50 (yn k.fr 0 (((m.comps.length : Nat) : Int) - 1) _) ?_)
   rintro _ w13 ⟨rfl,hk15⟩
   have hs14:=qk.keep hk15
   exact ⟨.bool (qd k.fr 0 (((m.comps.length : Nat) : Int) - 1)),rfl,rfl,hs14⟩
  ·intro f5_ w5_ X5_ qp qo qu qk
   have hb3 : f5_ 3 = .pointer (some ⟨b5,0,none⟩):=(qp 3 rfl)
   refine qe rfl (qg hb3 fd68_1 rfl (o':=1) rfl rfl ?_)
   exact ⟨.pointer (some ⟨b5,1,none⟩),rfl,rfl,qk⟩
  ·intro f6_ w6_ X6_ qp qo qu qk
   obtain ⟨hu5,-⟩:=qo
   have hu5 : f6_ 14 = .pointer (some ⟨b5,1,none⟩):=hu5
   obtain ⟨hr33,-⟩:=qu
   have hr33 : Item.φ (blk b5 [vI k.fr,vI k.to,vI k.ad] 68) w6_:=hr33
   refine qe rfl (qq (v:=vI k.to) hu5 ag3 (qh (hr33) rfl) rfl ?_)
   exact ⟨vI k.to,rfl,rfl,qk⟩
  ·intro f7_ w7_ X7_ qp qo qu qk
   have hb5 : f7_ 5 = vI ((m.comps.length : Nat) : Int):=(qp 5 rfl)
   refine qe rfl (qj (v:=vI ((m.comps.length : Nat) : Int)) hb5 rfl ?_)
   exact ⟨vI ((m.comps.length : Nat) : Int),rfl,rfl,qk⟩
  ·intro f8_ w8_ X8_ qp qo qu qk
   obtain ⟨hu7,-⟩:=qo
   have hu7 : f8_ 16 = vI ((m.comps.length : Nat) : Int):=hu7
   refine qe rfl (qt (v:=vI (((m.comps.length : Nat) : Int) - 1)) hu7 rfl rfl (b_sub (qz (by omega) (by omega))) ?_)
   exact ⟨vI (((m.comps.length : Nat) : Int) - 1),rfl,rfl,qk⟩
  ·intro f9_ w9_ X9_ qp qo qu qk
   obtain ⟨hu6,hu8,-⟩:=qo
   have hu6 : f9_ 15 = vI k.to:=hu6
   have hu8 : f9_ 17 = vI (((m.comps.length : Nat) : Int) - 1):=hu8
   refine qe rfl (zi (args:=[vI k.to,vI 0,vI (((m.comps.length : Nat) : Int) - 1)]) rfl (by simp only [List.map_cons,List.map_nil,List.nil_append,List.cons_append,List.append_nil,ev,Value.cells,hu6,hu8]) rfl en50 (yn k.to 0 (((m.comps.length : Nat) : Int) - 1) _) ?_)
   rintro _ w16 ⟨rfl,hk18⟩
   have hs17:=qk.keep hk18
   exact ⟨.bool (qd k.to 0 (((m.comps.length : Nat) : Int) - 1)),rfl,rfl,hs17⟩
  ·intro f10_ w10_ X10_ qp qo qu qk
   have hb3 : f10_ 3 = .pointer (some ⟨b5,0,none⟩):=(qp 3 rfl)
   refine qe rfl (qg hb3 fd68_0 rfl (o':=0) rfl rfl ?_)
   exact ⟨.pointer (some ⟨b5,0,none⟩),rfl,rfl,qk⟩
  ·intro f11_ w11_ X11_ qp qo qu qk
   obtain ⟨hu10,-⟩:=qo
   have hu10 : f11_ 19 = .pointer (some ⟨b5,0,none⟩):=hu10
   obtain ⟨hr33,-⟩:=qu
   have hr33 : Item.φ (blk b5 [vI k.fr,vI k.to,vI k.ad] 68) w11_:=hr33
   refine qe rfl (qq (v:=vI k.fr) hu10 ag3 (qh (hr33) rfl) rfl ?_)
   exact ⟨vI k.fr,rfl,rfl,qk⟩
  ·intro f12_ w12_ X12_ qp qo qu qk
   have hb3 : f12_ 3 = .pointer (some ⟨b5,0,none⟩):=(qp 3 rfl)
   refine qe rfl (qg hb3 fd68_1 rfl (o':=1) rfl rfl ?_)
   exact ⟨.pointer (some ⟨b5,1,none⟩),rfl,rfl,qk⟩
  ·intro f13_ w13_ X13_ qp qo qu qk
   obtain ⟨hu12,-⟩:=qo
   have hu12 : f13_ 21 = .pointer (some ⟨b5,1,none⟩):=hu12
   obtain ⟨hr33,-⟩:=qu
   have hr33 : Item.φ (blk b5 [vI k.fr,vI k.to,vI k.ad] 68) w13_:=hr33
   refine qe rfl (qq (v:=vI k.to) hu12 ag3 (qh (hr33) rfl) rfl ?_)
   exact ⟨vI k.to,rfl,rfl,qk⟩
  ·intro f14_ w14_ X14_ qp qo qu qk
   obtain ⟨hu11,hu13,-⟩:=qo
   have hu11 : f14_ 20 = vI k.fr:=hu11
   have hu13 : f14_ 22 = vI k.to:=hu13
   refine qe rfl (qt (k:=.i64) (k':=.i64) (a:=k.fr) (b:=k.to) hu11 hu13 rfl yd ?_)
   exact ⟨.bool (decide (k.fr ≠ k.to)),rfl,rfl,qk⟩
  ·intro f15_ w15_ X15_ qp qo qu qk
   obtain ⟨hu4,hu9,hu14,-⟩:=qo
   have hu4 : f15_ 13 = .bool (qd k.fr 0 (((m.comps.length : Nat) : Int) - 1)):=hu4
   have hu9 : f15_ 18 = .bool (qd k.to 0 (((m.comps.length : Nat) : Int) - 1)):=hu9
   have hu14 : f15_ 23 = .bool (decide (k.fr ≠ k.to)):=hu14
   refine qe rfl (zz (zs:=[.bool false,.bool false,.bool false]) (ps:=[(0,[.bool (qd k.fr 0 (((m.comps.length : Nat) : Int) - 1))]),(1,[.bool (qd k.to 0 (((m.comps.length : Nat) : Int) - 1))]),(2,[.bool (decide (k.fr ≠ k.to))])]) (cs:=[.bool (qd k.fr 0 (((m.comps.length : Nat) : Int) - 1)),.bool (qd k.to 0 (((m.comps.length : Nat) : Int) - 1)),.bool (decide (k.fr ≠ k.to))]) qk un102 sz4 zv4 rfl rfl (by simp only [List.map_cons,List.map_nil,List.nil_append,List.cons_append,List.append_nil,ev,Value.cells,hu4,hu9,hu14]) rfl rfl ?_)
   intro b19 w20 hb22 hs21
   refine ⟨.slice (some ⟨b19,0,none⟩) 3 3,rfl,⟨_,rfl⟩,?_⟩
   show St _ _ _ ((blk (vblk ((upd f15_ 24 (.slice (some ⟨b19,0,none⟩) 3 3)) 24)) [.bool (qd k.fr 0 (((m.comps.length : Nat) : Int) - 1)),.bool (qd k.to 0 (((m.comps.length : Nat) : Int) - 1)),.bool (decide (k.fr ≠ k.to))] 4) :: X15_) _
   exact hs21
  ·intro f16_ w16_ X16_ qp qo qu qk
   obtain ⟨hu15,-⟩:=qo
   obtain ⟨b19,hu15⟩:=(show ∃ b19 : Nat,f16_ 24 = .slice (some ⟨b19,0,none⟩) 3 3 from hu15)
   obtain ⟨hr15,-⟩:=qu
   have hr15 : Item.φ (blk (vblk (f16_ 24)) [.bool (qd k.fr 0 (((m.comps.length : Nat) : Int) - 1)),.bool (qd k.to 0 (((m.comps.length : Nat) : Int) - 1)),.bool (decide (k.fr ≠ k.to))] 4) w16_:=hr15
   rw [hu15] at hr15; simp only [vblk,zf,vcap,z3] at hr15
   refine qe rfl (zi (args:=[.slice (some ⟨b19,0,none⟩) 3 3]) rfl (by simp only [List.map_cons,List.map_nil,List.nil_append,List.cons_append,List.append_nil,ev,Value.cells,hu15]) rfl en49 (must_c (some ⟨b19,0,none⟩) 3 [qd k.fr 0 (((m.comps.length : Nat) : Int) - 1),qd k.to 0 (((m.comps.length : Nat) : Int) - 1),decide (k.fr ≠ k.to)] _ (jb (enc:=encBool) (m:=1) (fun _=>rfl) [qd k.fr 0 (((m.comps.length : Nat) : Int) - 1),qd k.to 0 (((m.comps.length : Nat) : Int) - 1),decide (k.fr ≠ k.to)] (hr15) rfl) (by simp)) ?_)
   rintro _ w23 ⟨rfl,hk25⟩
   have hs24:=qk.keep hk25
   exact ⟨.bool ((qd k.fr 0 (((m.comps.length : Nat) : Int) - 1)) && ((qd k.to 0 (((m.comps.length : Nat) : Int) - 1)) && (decide (k.fr ≠ k.to) && true))),rfl,rfl,hs24⟩
  ·intro f17_ w17_ X17_ qp qo qu qk
   obtain ⟨hu16,-⟩:=qo
   have hu16 : f17_ 25 = .bool ((qd k.fr 0 (((m.comps.length : Nat) : Int) - 1)) && ((qd k.to 0 (((m.comps.length : Nat) : Int) - 1)) && (decide (k.fr ≠ k.to) && true))):=hu16
   refine qe rfl (qj (v:=.bool ((qd k.fr 0 (((m.comps.length : Nat) : Int) - 1)) && ((qd k.to 0 (((m.comps.length : Nat) : Int) - 1)) && (decide (k.fr ≠ k.to) && true)))) hu16 rfl ?_)
   exact ⟨.bool ((qd k.fr 0 (((m.comps.length : Nat) : Int) - 1)) && ((qd k.to 0 (((m.comps.length : Nat) : Int) - 1)) && (decide (k.fr ≠ k.to) && true))),rfl,rfl,qk⟩
  ·intro f18_ w18_ X18_ qp qo qu qk
   obtain ⟨hu17,-⟩:=qo
   have hu17 : f18_ 26 = .bool ((qd k.fr 0 (((m.comps.length : Nat) : Int) - 1)) && ((qd k.to 0 (((m.comps.length : Nat) : Int) - 1)) && (decide (k.fr ≠ k.to) && true))):=hu17
   have hb3 : f18_ 3 = .pointer (some ⟨b5,0,none⟩):=(qp 3 rfl)
   refine ze rfl (c:=((qd k.fr 0 (((m.comps.length : Nat) : Int) - 1)) && ((qd k.to 0 (((m.comps.length : Nat) : Int) - 1)) && (decide (k.fr ≠ k.to) && true)))) hu17 (fun hg26=>?_) (fun hg26=>⟨undef,rfl,(if_neg (by rw [hg26]; decide)).symm,qk⟩)
   refine qg hb3 fd68_2 rfl (o':=2) rfl rfl ?_
   exact ⟨.pointer (some ⟨b5,2,none⟩),rfl,(if_pos hg26).symm,qk⟩
  ·intro f19_ w19_ X19_ qp qo qu qk
   obtain ⟨hu17,hu18,-⟩:=qo
   have hu17 : f19_ 26 = .bool ((qd k.fr 0 (((m.comps.length : Nat) : Int) - 1)) && ((qd k.to 0 (((m.comps.length : Nat) : Int) - 1)) && (decide (k.fr ≠ k.to) && true))):=hu17
   have hu18 : f19_ 27 = if ((qd k.fr 0 (((m.comps.length : Nat) : Int) - 1)) && ((qd k.to 0 (((m.comps.length : Nat) : Int) - 1)) && (decide (k.fr ≠ k.to) && true))) = true then .pointer (some ⟨b5,2,none⟩) else undef:=hu18
   obtain ⟨hr33,-⟩:=qu
   have hr33 : Item.φ (blk b5 [vI k.fr,vI k.to,vI k.ad] 68) w19_:=hr33
   refine ze rfl (c:=((qd k.fr 0 (((m.comps.length : Nat) : Int) - 1)) && ((qd k.to 0 (((m.comps.length : Nat) : Int) - 1)) && (decide (k.fr ≠ k.to) && true)))) hu17 (fun hg27=>?_) (fun hg27=>⟨undef,rfl,(if_neg (by rw [hg27]; decide)).symm,qk⟩)
   refine qq (v:=vI k.ad) (Eq.trans hu18 (if_pos hg27)) ag3 (qh (hr33) rfl) rfl ?_
   exact ⟨vI k.ad,rfl,(if_pos hg27).symm,qk⟩
  ·intro f20_ w20_ X20_ qp qo qu qk
   obtain ⟨hu17,-⟩:=qo
   have hu17 : f20_ 26 = .bool ((qd k.fr 0 (((m.comps.length : Nat) : Int) - 1)) && ((qd k.to 0 (((m.comps.length : Nat) : Int) - 1)) && (decide (k.fr ≠ k.to) && true))):=hu17
   have hb2 : f20_ 2 = .pointer (some ⟨b1,0,none⟩):=(qp 2 rfl)
   refine ze rfl (c:=((qd k.fr 0 (((m.comps.length : Nat) : Int) - 1)) && ((qd k.to 0 (((m.comps.length : Nat) : Int) - 1)) && (decide (k.fr ≠ k.to) && true)))) hu17 (fun hg28=>?_) (fun hg28=>⟨undef,rfl,(if_neg (by rw [hg28]; decide)).symm,qk⟩)
   refine qg hb2 jq rfl (o':=3) rfl rfl ?_
   exact ⟨.pointer (some ⟨b1,3,none⟩),rfl,(if_pos hg28).symm,qk⟩
  ·intro f21_ w21_ X21_ qp qo qu qk
   obtain ⟨hu17,hu20,-⟩:=qo
   have hu17 : f21_ 26 = .bool ((qd k.fr 0 (((m.comps.length : Nat) : Int) - 1)) && ((qd k.to 0 (((m.comps.length : Nat) : Int) - 1)) && (decide (k.fr ≠ k.to) && true))):=hu17
   have hu20 : f21_ 29 = if ((qd k.fr 0 (((m.comps.length : Nat) : Int) - 1)) && ((qd k.to 0 (((m.comps.length : Nat) : Int) - 1)) && (decide (k.fr ≠ k.to) && true))) = true then .pointer (some ⟨b1,3,none⟩) else undef:=hu20
   obtain ⟨hr34,-⟩:=qu
   have hr34 : Item.φ (blk b1 (qn m) 26) w21_:=hr34
   refine ze rfl (c:=((qd k.fr 0 (((m.comps.length : Nat) : Int) - 1)) && ((qd k.to 0 (((m.comps.length : Nat) : Int) - 1)) && (decide (k.fr ≠ k.to) && true)))) hu17 (fun hg29=>?_) (fun hg29=>⟨undef,rfl,(if_neg (by rw [hg29]; decide)).symm,qk⟩)
   refine qq (v:=.slice m.ca m.comps.length m.ccap) (Eq.trans hu20 (if_pos hg29)) ag22 (qh (hr34) rfl) rfl ?_
   exact ⟨.slice m.ca m.comps.length m.ccap,rfl,(if_pos hg29).symm,qk⟩
  ·intro f22_ w22_ X22_ qp qo qu qk
   obtain ⟨hu17,-⟩:=qo
   have hu17 : f22_ 26 = .bool ((qd k.fr 0 (((m.comps.length : Nat) : Int) - 1)) && ((qd k.to 0 (((m.comps.length : Nat) : Int) - 1)) && (decide (k.fr ≠ k.to) && true))):=hu17
   have hb3 : f22_ 3 = .pointer (some ⟨b5,0,none⟩):=(qp 3 rfl)
   refine ze rfl (c:=((qd k.fr 0 (((m.comps.length : Nat) : Int) - 1)) && ((qd k.to 0 (((m.comps.length : Nat) : Int) - 1)) && (decide (k.fr ≠ k.to) && true)))) hu17 (fun hg30=>?_) (fun hg30=>⟨undef,rfl,(if_neg (by rw [hg30]; decide)).symm,qk⟩)
   refine qg hb3 fd68_1 rfl (o':=1) rfl rfl ?_
   exact ⟨.pointer (some ⟨b5,1,none⟩),rfl,(if_pos hg30).symm,qk⟩
  ·intro f23_ w23_ X23_ qp qo qu qk
   obtain ⟨hu17,hu22,-⟩:=qo
   have hu17 : f23_ 26 = .bool ((qd k.fr 0 (((m.comps.length : Nat) : Int) - 1)) && ((qd k.to 0 (((m.comps.length : Nat) : Int) - 1)) && (decide (k.fr ≠ k.to) && true))):=hu17
   have hu22 : f23_ 31 = if ((qd k.fr 0 (((m.comps.length : Nat) : Int) - 1)) && ((qd k.to 0 (((m.comps.length : Nat) : Int) - 1)) && (decide (k.fr ≠ k.to) && true))) = true then .pointer (some ⟨b5,1,none⟩) else undef:=hu22
   obtain ⟨hr33,-⟩:=qu
   have hr33 : Item.φ (blk b5 [vI k.fr,vI k.to,vI k.ad] 68) w23_:=hr33
   refine ze rfl (c:=((qd k.fr 0 (((m.comps.length : Nat) : Int) - 1)) && ((qd k.to 0 (((m.comps.length : Nat) : Int) - 1)) && (decide (k.fr ≠ k.to) && true)))) hu17 (fun hg31=>?_) (fun hg31=>⟨undef,rfl,(if_neg (by rw [hg31]; decide)).symm,qk⟩)
   refine qq (v:=vI k.to) (Eq.trans hu22 (if_pos hg31)) ag3 (qh (hr33) rfl) rfl ?_
   exact ⟨vI k.to,rfl,(if_pos hg31).symm,qk⟩
  ·intro f24_ w24_ X24_ qp qo qu qk
   obtain ⟨hu17,hu21,hu23,-⟩:=qo
   have hu17 : f24_ 26 = .bool ((qd k.fr 0 (((m.comps.length : Nat) : Int) - 1)) && ((qd k.to 0 (((m.comps.length : Nat) : Int) - 1)) && (decide (k.fr ≠ k.to) && true))):=hu17
   have hu21 : f24_ 30 = if ((qd k.fr 0 (((m.comps.length : Nat) : Int) - 1)) && ((qd k.to 0 (((m.comps.length : Nat) : Int) - 1)) && (decide (k.fr ≠ k.to) && true))) = true then .slice m.ca m.comps.length m.ccap else undef:=hu21
   have hu23 : f24_ 32 = if ((qd k.fr 0 (((m.comps.length : Nat) : Int) - 1)) && ((qd k.to 0 (((m.comps.length : Nat) : Int) - 1)) && (decide (k.fr ≠ k.to) && true))) = true then vI k.to else undef:=hu23
   refine ze rfl (c:=((qd k.fr 0 (((m.comps.length : Nat) : Int) - 1)) && ((qd k.to 0 (((m.comps.length : Nat) : Int) - 1)) && (decide (k.fr ≠ k.to) && true)))) hu17 (fun hg32=>?_) (fun hg32=>⟨undef,rfl,(if_neg (by rw [hg32]; decide)).symm,qk⟩)
   refine qs (Eq.trans hu21 (if_pos hg32)) ha11 (Eq.trans hu23 (if_pos hg32)) un22 sz53 (hto.1) (hto.2) (o':=o10 + k.to.toNat * 2) (by omega) rfl ?_
   exact ⟨.pointer (some ⟨b9,o10 + k.to.toNat * 2,none⟩),rfl,(if_pos hg32).symm,qk⟩
  ·intro f25_ w25_ X25_ qp qo qu qk
   obtain ⟨hu17,hu24,-⟩:=qo
   have hu17 : f25_ 26 = .bool ((qd k.fr 0 (((m.comps.length : Nat) : Int) - 1)) && ((qd k.to 0 (((m.comps.length : Nat) : Int) - 1)) && (decide (k.fr ≠ k.to) && true))):=hu17
   have hu24 : f25_ 33 = if ((qd k.fr 0 (((m.comps.length : Nat) : Int) - 1)) && ((qd k.to 0 (((m.comps.length : Nat) : Int) - 1)) && (decide (k.fr ≠ k.to) && true))) = true then .pointer (some ⟨b9,o10 + k.to.toNat * 2,none⟩) else undef:=hu24
   refine ze rfl (c:=((qd k.fr 0 (((m.comps.length : Nat) : Int) - 1)) && ((qd k.to 0 (((m.comps.length : Nat) : Int) - 1)) && (decide (k.fr ≠ k.to) && true)))) hu17 (fun hg33=>?_) (fun hg33=>⟨undef,rfl,(if_neg (by rw [hg33]; decide)).symm,qk⟩)
   refine qg (Eq.trans hu24 (if_pos hg33)) ym rfl (o':=o10 + k.to.toNat * 2) rfl rfl ?_
   exact ⟨.pointer (some ⟨b9,o10 + k.to.toNat * 2,none⟩),rfl,(if_pos hg33).symm,qk⟩
  ·intro f26_ w26_ X26_ qp qo qu qk
   obtain ⟨hu17,hu25,-⟩:=qo
   have hu17 : f26_ 26 = .bool ((qd k.fr 0 (((m.comps.length : Nat) : Int) - 1)) && ((qd k.to 0 (((m.comps.length : Nat) : Int) - 1)) && (decide (k.fr ≠ k.to) && true))):=hu17
   have hu25 : f26_ 34 = if ((qd k.fr 0 (((m.comps.length : Nat) : Int) - 1)) && ((qd k.to 0 (((m.comps.length : Nat) : Int) - 1)) && (decide (k.fr ≠ k.to) && true))) = true then .pointer (some ⟨b9,o10 + k.to.toNat * 2,none⟩) else undef:=hu25
   refine ze rfl (c:=((qd k.fr 0 (((m.comps.length : Nat) : Int) - 1)) && ((qd k.to 0 (((m.comps.length : Nat) : Int) - 1)) && (decide (k.fr ≠ k.to) && true)))) hu17 (fun hg34=>?_) (fun hg34=>⟨undef,rfl,(if_neg (by rw [hg34]; decide)).symm,qk⟩)
   refine qq (v:=.slice ((m.comps[k.to.toNat]'(by omega)).a) ((m.comps[k.to.toNat]'(by omega)).code.length) ((m.comps[k.to.toNat]'(by omega)).cap)) (Eq.trans hu25 (if_pos hg34)) ag27 ((qk.getR 0 rfl).2 0 _ rfl) rfl ?_
   exact ⟨.slice ((m.comps[k.to.toNat]'(by omega)).a) ((m.comps[k.to.toNat]'(by omega)).code.length) ((m.comps[k.to.toNat]'(by omega)).cap),rfl,(if_pos hg34).symm,qk⟩
  ·intro f27_ w27_ X27_ qp qo qu qk
   obtain ⟨hu17,hu26,-⟩:=qo
   have hu17 : f27_ 26 = .bool ((qd k.fr 0 (((m.comps.length : Nat) : Int) - 1)) && ((qd k.to 0 (((m.comps.length : Nat) : Int) - 1)) && (decide (k.fr ≠ k.to) && true))):=hu17
   have hu26 : f27_ 35 = if ((qd k.fr 0 (((m.comps.length : Nat) : Int) - 1)) && ((qd k.to 0 (((m.comps.length : Nat) : Int) - 1)) && (decide (k.fr ≠ k.to) && true))) = true then .slice ((m.comps[k.to.toNat]'(by omega)).a) ((m.comps[k.to.toNat]'(by omega)).code.length) ((m.comps[k.to.toNat]'(by omega)).cap) else undef:=hu26
   refine ze rfl (c:=((qd k.fr 0 (((m.comps.length : Nat) : Int) - 1)) && ((qd k.to 0 (((m.comps.length : Nat) : Int) - 1)) && (decide (k.fr ≠ k.to) && true)))) hu17 (fun hg35=>?_) (fun hg35=>⟨undef,rfl,(if_neg (by rw [hg35]; decide)).symm,qk⟩)
   refine qx (len:=((m.comps[k.to.toNat]'(by omega)).code.length)) (Eq.trans hu26 (if_pos hg35)) un27 rfl ?_
   exact ⟨vI (((m.comps[k.to.toNat]'(by omega)).code.length : Nat) : Int),rfl,(if_pos hg35).symm,qk⟩
  ·intro f28_ w28_ X28_ qp qo qu qk
   obtain ⟨hu17,hu27,-⟩:=qo
   have hu17 : f28_ 26 = .bool ((qd k.fr 0 (((m.comps.length : Nat) : Int) - 1)) && ((qd k.to 0 (((m.comps.length : Nat) : Int) - 1)) && (decide (k.fr ≠ k.to) && true))):=hu17
   have hu27 : f28_ 36 = if ((qd k.fr 0 (((m.comps.length : Nat) : Int) - 1)) && ((qd k.to 0 (((m.comps.length : Nat) : Int) - 1)) && (decide (k.fr ≠ k.to) && true))) = true then vI (((m.comps[k.to.toNat]'(by omega)).code.length : Nat) : Int) else undef:=hu27
   refine ze rfl (c:=((qd k.fr 0 (((m.comps.length : Nat) : Int) - 1)) && ((qd k.to 0 (((m.comps.length : Nat) : Int) - 1)) && (decide (k.fr ≠ k.to) && true)))) hu17 (fun hg36=>?_) (fun hg36=>⟨undef,rfl,(if_neg (by rw [hg36]; decide)).symm,qk⟩)
   refine qt (v:=vI ((((m.comps[k.to.toNat]'(by omega)).code.length : Nat) : Int) / 4)) (Eq.trans hu27 (if_pos hg36)) rfl rfl (b_quo (by omega) (quo_i64 (by omega) (by omega) (by omega))) ?_
   exact ⟨vI ((((m.comps[k.to.toNat]'(by omega)).code.length : Nat) : Int) / 4),rfl,(if_pos hg36).symm,qk⟩
  ·intro f29_ w29_ X29_ qp qo qu qk
   obtain ⟨hu17,hu28,-⟩:=qo
   have hu17 : f29_ 26 = .bool ((qd k.fr 0 (((m.comps.length : Nat) : Int) - 1)) && ((qd k.to 0 (((m.comps.length : Nat) : Int) - 1)) && (decide (k.fr ≠ k.to) && true))):=hu17
   have hu28 : f29_ 37 = if ((qd k.fr 0 (((m.comps.length : Nat) : Int) - 1)) && ((qd k.to 0 (((m.comps.length : Nat) : Int) - 1)) && (decide (k.fr ≠ k.to) && true))) = true then vI ((((m.comps[k.to.toNat]'(by omega)).code.length : Nat) : Int) / 4) else undef:=hu28
   refine ze rfl (c:=((qd k.fr 0 (((m.comps.length : Nat) : Int) - 1)) && ((qd k.to 0 (((m.comps.length : Nat) : Int) - 1)) && (decide (k.fr ≠ k.to) && true)))) hu17 (fun hg37=>?_) (fun hg37=>⟨undef,rfl,(if_neg (by rw [hg37]; decide)).symm,qk⟩)
   refine qt (v:=vI (((((m.comps[k.to.toNat]'(by omega)).code.length : Nat) : Int) / 4) - 1)) (Eq.trans hu28 (if_pos hg37)) rfl rfl (b_sub (qz (by omega) (by omega))) ?_
   exact ⟨vI (((((m.comps[k.to.toNat]'(by omega)).code.length : Nat) : Int) / 4) - 1),rfl,(if_pos hg37).symm,qk⟩
  ·intro f30_ w30_ X30_ qp qo qu qk
   obtain ⟨hu17,hu19,hu29,-⟩:=qo
   have hu17 : f30_ 26 = .bool ((qd k.fr 0 (((m.comps.length : Nat) : Int) - 1)) && ((qd k.to 0 (((m.comps.length : Nat) : Int) - 1)) && (decide (k.fr ≠ k.to) && true))):=hu17
   have hu19 : f30_ 28 = if ((qd k.fr 0 (((m.comps.length : Nat) : Int) - 1)) && ((qd k.to 0 (((m.comps.length : Nat) : Int) - 1)) && (decide (k.fr ≠ k.to) && true))) = true then vI k.ad else undef:=hu19
   have hu29 : f30_ 38 = if ((qd k.fr 0 (((m.comps.length : Nat) : Int) - 1)) && ((qd k.to 0 (((m.comps.length : Nat) : Int) - 1)) && (decide (k.fr ≠ k.to) && true))) = true then vI (((((m.comps[k.to.toNat]'(by omega)).code.length : Nat) : Int) / 4) - 1) else undef:=hu29
   refine ze rfl (c:=((qd k.fr 0 (((m.comps.length : Nat) : Int) - 1)) && ((qd k.to 0 (((m.comps.length : Nat) : Int) - 1)) && (decide (k.fr ≠ k.to) && true)))) hu17 (fun hg38=>?_) (fun hg38=>⟨undef,rfl,(if_neg (by rw [hg38]; decide)).symm,qk⟩)
   refine zi (args:=[vI k.ad,vI 0,vI (((((m.comps[k.to.toNat]'(by omega)).code.length : Nat) : Int) / 4) - 1)]) rfl (by simp only [List.map_cons,List.map_nil,List.nil_append,List.cons_append,List.append_nil,ev,Value.cells,(Eq.trans hu19 (if_pos hg38)),(Eq.trans hu29 (if_pos hg38))]) rfl en50 (yn k.ad 0 (((((m.comps[k.to.toNat]'(by omega)).code.length : Nat) : Int) / 4) - 1) _) ?_
   rintro _ w39 ⟨rfl,hk41⟩
   have hs40:=qk.keep hk41
   exact ⟨.bool (qd k.ad 0 (((((m.comps[k.to.toNat]'(by omega)).code.length : Nat) : Int) / 4) - 1)),rfl,(if_pos hg38).symm,hs40⟩
  ·intro f31_ w31_ X31_ qp qo qu qk
   obtain ⟨hu17,hu30,-⟩:=qo
   have hu17 : f31_ 26 = .bool ((qd k.fr 0 (((m.comps.length : Nat) : Int) - 1)) && ((qd k.to 0 (((m.comps.length : Nat) : Int) - 1)) && (decide (k.fr ≠ k.to) && true))):=hu17
   have hu30 : f31_ 39 = if ((qd k.fr 0 (((m.comps.length : Nat) : Int) - 1)) && ((qd k.to 0 (((m.comps.length : Nat) : Int) - 1)) && (decide (k.fr ≠ k.to) && true))) = true then .bool (qd k.ad 0 (((((m.comps[k.to.toNat]'(by omega)).code.length : Nat) : Int) / 4) - 1)) else undef:=hu30
   refine qe rfl (ka (v:=.bool B42) hu17 (Eq.trans (by simp only [ev,hu30]; exact j1 _ _) (congrArg Value.bool hB42.symm)) rfl ?_)
   exact ⟨.bool B42,rfl,rfl,qk⟩
  ·intro f32_ w32_ X32_ qp qo qu qk
   obtain ⟨hu31,-⟩:=qo
   have hu31 : f32_ 40 = .bool B42:=hu31
   refine qe rfl (qf (v:=.bool B42) hu31 rfl ?_)
   exact ⟨.bool B42,rfl,rfl,qk⟩
  intro f43 w44 qp qo hs45
  obtain ⟨hu15,hu32,-⟩:=qo
  obtain ⟨b19,hu15⟩:=(show ∃ b19 : Nat,f43 24 = .slice (some ⟨b19,0,none⟩) 3 3 from hu15)
  have hu32 : f43 4 = .bool B42:=hu32
  have hs45 : St _ _ _ [blk (vblk (f43 24)) [.bool (qd k.fr 0 (((m.comps.length : Nat) : Int) - 1)),.bool (qd k.to 0 (((m.comps.length : Nat) : Int) - 1)),.bool (decide (k.fr ≠ k.to))] 4,blk b5 [vI k.fr,vI k.to,vI k.ad] 68,blk b1 (qn m) 26] _:=hs45
  simp only [hu15,vblk,zf,vcap,z3] at hs45
  have hs45 : St _ _ _ [blk b19 [.bool (qd k.fr 0 (((m.comps.length : Nat) : Int) - 1)),.bool (qd k.to 0 (((m.comps.length : Nat) : Int) - 1)),.bool (decide (k.fr ≠ k.to))] 4,blk b5 [vI k.fr,vI k.to,vI k.ad] 68,blk b1 (qn m) 26] _:=hs45
  rewrite [qm hu32]
  subst hB42
  refine qb (zo ?_)
  refine ⟨.bool (((qd k.fr 0 (((m.comps.length : Nat) : Int) - 1)) && ((qd k.to 0 (((m.comps.length : Nat) : Int) - 1)) && (decide (k.fr ≠ k.to) && true))) && (qd k.ad 0 (((((m.comps[k.to.toNat]'(by omega)).code.length : Nat) : Int) / 4) - 1))),res1 rfl,?_⟩
  exact ⟨congrArg Value.bool (by unfold km; rw [codeLen_at hto.1 hto.2]; simp),hs45.base⟩
 ·refine jc js (show St _ _ _ [blk b5 [vI k.fr,vI k.to,vI k.ad] 68,blk b1 (qn m) 26] _ from hs7) (fun i_=>match i_ with|15=>some ([24],fun vs_=>match vs_ with|[x24]=>blk (vblk x24) [.bool (qd k.fr 0 (((m.comps.length : Nat) : Int) - 1)),.bool (qd k.to 0 (((m.comps.length : Nat) : Int) - 1)),.bool (decide (k.fr ≠ k.to))] 4|_=>emp)|_=>none) (fun i_=>match i_ with|_=>[]) (fun i_=>match i_ with|1=>[33]|6=>[33]|11=>[33]|13=>[33]|16=>[15]|_=>[]) (fun i_=>match i_ with|1=>[0]|3=>[2]|4=>[1,3]|6=>[5]|8=>[7]|9=>[6,8]|11=>[10]|13=>[12]|14=>[11,13]|15=>[4,9,14]|16=>[15]|17=>[16]|18=>[17]|19=>[17]|20=>[17]|21=>[17]|22=>[17]|23=>[17]|24=>[17]|25=>[17]|26=>[17]|27=>[17]|28=>[17]|29=>[17]|30=>[17]|31=>[17,30]|32=>[31]|_=>[]) [15,33,34,0,1,2,3,4,5,6,7,8,9,10,11,12,13,14,16,17,18,19,20,21,22,23,24,25,26,27,28,29,30,31,32,35,36,37,38,39,40,41,42,43,44,45,46,47,48,49,50,51,52,53,54,55,56,57,58,59,60,61,62,63,64,65,66,67] [15,32] (fun i_ v_=>match i_ with|0=>v_ = .pointer (some ⟨b5,0,none⟩)|1=>v_ = vI k.fr|2=>v_ = vI ((m.comps.length : Nat) : Int)|3=>v_ = vI (((m.comps.length : Nat) : Int) - 1)|4=>v_ = .bool (qd k.fr 0 (((m.comps.length : Nat) : Int) - 1))|5=>v_ = .pointer (some ⟨b5,1,none⟩)|6=>v_ = vI k.to|7=>v_ = vI ((m.comps.length : Nat) : Int)|8=>v_ = vI (((m.comps.length : Nat) : Int) - 1)|9=>v_ = .bool (qd k.to 0 (((m.comps.length : Nat) : Int) - 1))|10=>v_ = .pointer (some ⟨b5,0,none⟩)|11=>v_ = vI k.fr|12=>v_ = .pointer (some ⟨b5,1,none⟩)|13=>v_ = vI k.to|14=>v_ = .bool (decide (k.fr ≠ k.to))|15=>∃ b52 : Nat,v_ = .slice (some ⟨b52,0,none⟩) 3 3|16=>v_ = .bool false|17=>v_ = .bool false|18=>v_ = undef|19=>v_ = undef|20=>v_ = undef|21=>v_ = undef|22=>v_ = undef|23=>v_ = undef|24=>v_ = undef|25=>v_ = undef|26=>v_ = undef|27=>v_ = undef|28=>v_ = undef|29=>v_ = undef|30=>v_ = undef|31=>v_ = .bool false|32=>v_ = .bool false|_=>True) (by kernel_rfl) (by kernel_rfl) ⟨?_,?_,?_,?_,?_,?_,?_,?_,?_,?_,?_,?_,?_,?_,?_,?_,?_,?_,?_,?_,?_,?_,?_,?_,?_,?_,?_,?_,?_,?_,?_,?_,?_,trivial⟩ ?_
  ·intro f0_ w0_ X0_ qp qo qu qk
   have hb3 : f0_ 3 = .pointer (some ⟨b5,0,none⟩):=(qp 3 rfl)
   refine qe rfl (qg hb3 fd68_0 rfl (o':=0) rfl rfl ?_)
   exact ⟨.pointer (some ⟨b5,0,none⟩),rfl,rfl,qk⟩
  ·intro f1_ w1_ X1_ qp qo qu qk
   obtain ⟨hu0,-⟩:=qo
   have hu0 : f1_ 9 = .pointer (some ⟨b5,0,none⟩):=hu0
   obtain ⟨hr33,-⟩:=qu
   have hr33 : Item.φ (blk b5 [vI k.fr,vI k.to,vI k.ad] 68) w1_:=hr33
   refine qe rfl (qq (v:=vI k.fr) hu0 ag3 (qh (hr33) rfl) rfl ?_)
   exact ⟨vI k.fr,rfl,rfl,qk⟩
  ·intro f2_ w2_ X2_ qp qo qu qk
   have hb5 : f2_ 5 = vI ((m.comps.length : Nat) : Int):=(qp 5 rfl)
   refine qe rfl (qj (v:=vI ((m.comps.length : Nat) : Int)) hb5 rfl ?_)
   exact ⟨vI ((m.comps.length : Nat) : Int),rfl,rfl,qk⟩
  ·intro f3_ w3_ X3_ qp qo qu qk
   obtain ⟨hu2,-⟩:=qo
   have hu2 : f3_ 11 = vI ((m.comps.length : Nat) : Int):=hu2
   refine qe rfl (qt (v:=vI (((m.comps.length : Nat) : Int) - 1)) hu2 rfl rfl (b_sub (qz (by omega) (by omega))) ?_)
   exact ⟨vI (((m.comps.length : Nat) : Int) - 1),rfl,rfl,qk⟩
  ·intro f4_ w4_ X4_ qp qo qu qk
   obtain ⟨hu1,hu3,-⟩:=qo
   have hu1 : f4_ 10 = vI k.fr:=hu1
   have hu3 : f4_ 12 = vI (((m.comps.length : Nat) : Int) - 1):=hu3
   refine qe rfl (zi (args:=[vI k.fr,vI 0,vI (((m.comps.length : Nat) : Int) - 1)]) rfl (by simp only [List.map_cons,List.map_nil,List.nil_append,List.cons_append,List.append_nil,ev,Value.cells,hu1,hu3]) rfl en50 (yn k.fr 0 (((m.comps.length : Nat) : Int) - 1) _) ?_)
   rintro _ w46 ⟨rfl,hk48⟩
   have hs47:=qk.keep hk48
   exact ⟨.bool (qd k.fr 0 (((m.comps.length : Nat) : Int) - 1)),rfl,rfl,hs47⟩
  ·intro f5_ w5_ X5_ qp qo qu qk
   have hb3 : f5_ 3 = .pointer (some ⟨b5,0,none⟩):=(qp 3 rfl)
   refine qe rfl (qg hb3 fd68_1 rfl (o':=1) rfl rfl ?_)
   exact ⟨.pointer (some ⟨b5,1,none⟩),rfl,rfl,qk⟩
  ·intro f6_ w6_ X6_ qp qo qu qk
   obtain ⟨hu5,-⟩:=qo
   have hu5 : f6_ 14 = .pointer (some ⟨b5,1,none⟩):=hu5
   obtain ⟨hr33,-⟩:=qu
   have hr33 : Item.φ (blk b5 [vI k.fr,vI k.to,vI k.ad] 68) w6_:=hr33
   refine qe rfl (qq (v:=vI k.to) hu5 ag3 (qh (hr33) rfl) rfl ?_)
   exact ⟨vI k.to,rfl,rfl,qk⟩
  ·intro f7_ w7_ X7_ qp qo qu qk
   have hb5 : f7_ 5 = vI ((m.comps.length : Nat) : Int):=(qp 5 rfl)
   refine qe rfl (qj (v:=vI ((m.comps.length : Nat) : Int)) hb5 rfl ?_)
   exact ⟨vI ((m.comps.length : Nat) : Int),rfl,rfl,qk⟩
  ·intro f8_ w8_ X8_ qp qo qu qk
   obtain ⟨hu7,-⟩:=qo
   have hu7 : f8_ 16 = vI ((m.comps.length : Nat) : Int):=hu7
   refine qe rfl (qt (v:=vI (((m.comps.length : Nat) : Int) - 1)) hu7 rfl rfl (b_sub (qz (by omega) (by omega))) ?_)
   exact ⟨vI (((m.comps.length : Nat) : Int) - 1),rfl,rfl,qk⟩
  ·intro f9_ w9_ X9_ qp qo qu qk
   obtain ⟨hu6,hu8,-⟩:=qo
   have hu6 : f9_ 15 = vI k.to:=hu6
   have hu8 : f9_ 17 = vI (((m.comps.length : Nat) : Int) - 1):=hu8
   refine qe rfl (zi (args:=[vI k.to,vI 0,vI (((m.comps.length : Nat) : Int) - 1)]) rfl (by simp only [List.map_cons,List.map_nil,List.nil_append,List.cons_append,List.append_nil,ev,Value.cells,hu6,hu8]) rfl en50 (yn k.to 0 (((m.comps.length : Nat) : Int) - 1) _) ?_)
   rintro _ w49 ⟨rfl,hk51⟩
   have hs50:=qk.keep hk51
   exact ⟨.bool (qd k.to 0 (((m.comps.length : Nat) : Int) - 1)),rfl,rfl,hs50⟩
  ·intro f10_ w10_ X10_ qp qo qu qk
   have hb3 : f10_ 3 = .pointer (some ⟨b5,0,none⟩):=(qp 3 rfl)
   refine qe rfl (qg hb3 fd68_0 rfl (o':=0) rfl rfl ?_)
   exact ⟨.pointer (some ⟨b5,0,none⟩),rfl,rfl,qk⟩
  ·intro f11_ w11_ X11_ qp qo qu qk
   obtain ⟨hu10,-⟩:=qo
   have hu10 : f11_ 19 = .pointer (some ⟨b5,0,none⟩):=hu10
   obtain ⟨hr33,-⟩:=qu
   have hr33 : Item.φ (blk b5 [vI k.fr,vI k.to,vI k.ad] 68) w11_:=hr33
   refine qe rfl (qq (v:=vI k.fr) hu10 ag3 (qh (hr33) rfl) rfl ?_)
   exact ⟨vI k.fr,rfl,rfl,qk⟩
  ·intro f12_ w12_ X12_ qp qo qu qk
   have hb3 : f12_ 3 = .pointer (some ⟨b5,0,none⟩):=(qp 3 rfl)
   refine qe rfl (qg hb3 fd68_1 rfl (o':=1) rfl rfl ?_)
   exact ⟨.pointer (some ⟨b5,1,none⟩),rfl,rfl,qk⟩
  ·intro f13_ w13_ X13_ qp qo qu qk
   obtain ⟨hu12,-⟩:=qo
   have hu12 : f13_ 21 = .pointer (some ⟨b5,1,none⟩):=hu12
   obtain ⟨hr33,-⟩:=qu
   have hr33 : Item.φ (blk b5 [vI k.fr,vI k.to,vI k.ad] 68) w13_:=hr33
   refine qe rfl (qq (v:=vI k.to) hu12 ag3 (qh (hr33) rfl) rfl ?_)
   exact ⟨vI k.to,rfl,rfl,qk⟩
  ·intro f14_ w14_ X14_ qp qo qu qk
   obtain ⟨hu11,hu13,-⟩:=qo
   have hu11 : f14_ 20 = vI k.fr:=hu11
   have hu13 : f14_ 22 = vI k.to:=hu13
   refine qe rfl (qt (k:=.i64) (k':=.i64) (a:=k.fr) (b:=k.to) hu11 hu13 rfl yd ?_)
   exact ⟨.bool (decide (k.fr ≠ k.to)),rfl,rfl,qk⟩
  ·intro f15_ w15_ X15_ qp qo qu qk
   obtain ⟨hu4,hu9,hu14,-⟩:=qo
   have hu4 : f15_ 13 = .bool (qd k.fr 0 (((m.comps.length : Nat) : Int) - 1)):=hu4
   have hu9 : f15_ 18 = .bool (qd k.to 0 (((m.comps.length : Nat) : Int) - 1)):=hu9
   have hu14 : f15_ 23 = .bool (decide (k.fr ≠ k.to)):=hu14
   refine qe rfl (zz (zs:=[.bool false,.bool false,.bool false]) (ps:=[(0,[.bool (qd k.fr 0 (((m.comps.length : Nat) : Int) - 1))]),(1,[.bool (qd k.to 0 (((m.comps.length : Nat) : Int) - 1))]),(2,[.bool (decide (k.fr ≠ k.to))])]) (cs:=[.bool (qd k.fr 0 (((m.comps.length : Nat) : Int) - 1)),.bool (qd k.to 0 (((m.comps.length : Nat) : Int) - 1)),.bool (decide (k.fr ≠ k.to))]) qk un102 sz4 zv4 rfl rfl (by simp only [List.map_cons,List.map_nil,List.nil_append,List.cons_append,List.append_nil,ev,Value.cells,hu4,hu9,hu14]) rfl rfl ?_)
   intro b52 w53 hb55 hs54
   refine ⟨.slice (some ⟨b52,0,none⟩) 3 3,rfl,⟨_,rfl⟩,?_⟩
   show St _ _ _ ((blk (vblk ((upd f15_ 24 (.slice (some ⟨b52,0,none⟩) 3 3)) 24)) [.bool (qd k.fr 0 (((m.comps.length : Nat) : Int) - 1)),.bool (qd k.to 0 (((m.comps.length : Nat) : Int) - 1)),.bool (decide (k.fr ≠ k.to))] 4) :: X15_) _
   exact hs54
  ·intro f16_ w16_ X16_ qp qo qu qk
   obtain ⟨hu15,-⟩:=qo
   obtain ⟨b52,hu15⟩:=(show ∃ b52 : Nat,f16_ 24 = .slice (some ⟨b52,0,none⟩) 3 3 from hu15)
   obtain ⟨hr15,-⟩:=qu
   have hr15 : Item.φ (blk (vblk (f16_ 24)) [.bool (qd k.fr 0 (((m.comps.length : Nat) : Int) - 1)),.bool (qd k.to 0 (((m.comps.length : Nat) : Int) - 1)),.bool (decide (k.fr ≠ k.to))] 4) w16_:=hr15
   rw [hu15] at hr15; simp only [vblk,zf,vcap,z3] at hr15
   refine qe rfl (zi (args:=[.slice (some ⟨b52,0,none⟩) 3 3]) rfl (by simp only [List.map_cons,List.map_nil,List.nil_append,List.cons_append,List.append_nil,ev,Value.cells,hu15]) rfl en49 (C.vb (must_c (some ⟨b52,0,none⟩) 3 [qd k.fr 0 (((m.comps.length : Nat) : Int) - 1),qd k.to 0 (((m.comps.length : Nat) : Int) - 1),decide (k.fr ≠ k.to)] _ (jb (enc:=encBool) (m:=1) (fun _=>rfl) [qd k.fr 0 (((m.comps.length : Nat) : Int) - 1),qd k.to 0 (((m.comps.length : Nat) : Int) - 1),decide (k.fr ≠ k.to)] (hr15) rfl) (by simp)) (b':=false) (by simp [link_no hto])) ?_)
   rintro _ w56 ⟨rfl,hk58⟩
   have hs57:=qk.keep hk58
   exact ⟨.bool false,rfl,rfl,hs57⟩
  ·intro f17_ w17_ X17_ qp qo qu qk
   obtain ⟨hu16,-⟩:=qo
   have hu16 : f17_ 25 = .bool false:=hu16
   refine qe rfl (qj (v:=.bool false) hu16 rfl ?_)
   exact ⟨.bool false,rfl,rfl,qk⟩
  ·intro f18_ w18_ X18_ qp qo qu qk
   obtain ⟨hu17,-⟩:=qo
   have hu17 : f18_ 26 = .bool false:=hu17
   exact ze rfl (c:=false) hu17 (fun h=>absurd h (by decide)) (fun _=>⟨undef,rfl,rfl,qk⟩)
  ·intro f19_ w19_ X19_ qp qo qu qk
   obtain ⟨hu17,-⟩:=qo
   have hu17 : f19_ 26 = .bool false:=hu17
   exact ze rfl (c:=false) hu17 (fun h=>absurd h (by decide)) (fun _=>⟨undef,rfl,rfl,qk⟩)
  ·intro f20_ w20_ X20_ qp qo qu qk
   obtain ⟨hu17,-⟩:=qo
   have hu17 : f20_ 26 = .bool false:=hu17
   exact ze rfl (c:=false) hu17 (fun h=>absurd h (by decide)) (fun _=>⟨undef,rfl,rfl,qk⟩)
  ·intro f21_ w21_ X21_ qp qo qu qk
   obtain ⟨hu17,-⟩:=qo
   have hu17 : f21_ 26 = .bool false:=hu17
   exact ze rfl (c:=false) hu17 (fun h=>absurd h (by decide)) (fun _=>⟨undef,rfl,rfl,qk⟩)
  ·intro f22_ w22_ X22_ qp qo qu qk
   obtain ⟨hu17,-⟩:=qo
   have hu17 : f22_ 26 = .bool false:=hu17
   exact ze rfl (c:=false) hu17 (fun h=>absurd h (by decide)) (fun _=>⟨undef,rfl,rfl,qk⟩)
  ·intro f23_ w23_ X23_ qp qo qu qk
   obtain ⟨hu17,-⟩:=qo
   have hu17 : f23_ 26 = .bool false:=hu17
   exact ze rfl (c:=false) hu17 (fun h=>absurd h (by decide)) (fun _=>⟨undef,rfl,rfl,qk⟩)
  ·intro f24_ w24_ X24_ qp qo qu qk
   obtain ⟨hu17,-⟩:=qo
   have hu17 : f24_ 26 = .bool false:=hu17
   exact ze rfl (c:=false) hu17 (fun h=>absurd h (by decide)) (fun _=>⟨undef,rfl,rfl,qk⟩)
  ·intro f25_ w25_ X25_ qp qo qu qk
   obtain ⟨hu17,-⟩:=qo
   have hu17 : f25_ 26 = .bool false:=hu17
   exact ze rfl (c:=false) hu17 (fun h=>absurd h (by decide)) (fun _=>⟨undef,rfl,rfl,qk⟩)
  ·intro f26_ w26_ X26_ qp qo qu qk
   obtain ⟨hu17,-⟩:=qo
   have hu17 : f26_ 26 = .bool false:=hu17
   exact ze rfl (c:=false) hu17 (fun h=>absurd h (by decide)) (fun _=>⟨undef,rfl,rfl,qk⟩)
  ·intro f27_ w27_ X27_ qp qo qu qk
   obtain ⟨hu17,-⟩:=qo
   have hu17 : f27_ 26 = .bool false:=hu17
   exact ze rfl (c:=false) hu17 (fun h=>absurd h (by decide)) (fun _=>⟨undef,rfl,rfl,qk⟩)
  ·intro f28_ w28_ X28_ qp qo qu qk
   obtain ⟨hu17,-⟩:=qo
   have hu17 : f28_ 26 = .bool false:=hu17
   exact ze rfl (c:=false) hu17 (fun h=>absurd h (by decide)) (fun _=>⟨undef,rfl,rfl,qk⟩)
  ·intro f29_ w29_ X29_ qp qo qu qk
   obtain ⟨hu17,-⟩:=qo
   have hu17 : f29_ 26 = .bool false:=hu17
   exact ze rfl (c:=false) hu17 (fun h=>absurd h (by decide)) (fun _=>⟨undef,rfl,rfl,qk⟩)
  ·intro f30_ w30_ X30_ qp qo qu qk
   obtain ⟨hu17,-⟩:=qo
   have hu17 : f30_ 26 = .bool false:=hu17
   exact ze rfl (c:=false) hu17 (fun h=>absurd h (by decide)) (fun _=>⟨undef,rfl,rfl,qk⟩)
  ·intro f31_ w31_ X31_ qp qo qu qk
   obtain ⟨hu17,hu30,-⟩:=qo
   have hu17 : f31_ 26 = .bool false:=hu17
   have hu30 : f31_ 39 = undef:=hu30
   refine qe rfl (ka (v:=.bool false) hu17 rfl rfl ?_)
   exact ⟨.bool false,rfl,rfl,qk⟩
  ·intro f32_ w32_ X32_ qp qo qu qk
   obtain ⟨hu31,-⟩:=qo
   have hu31 : f32_ 40 = .bool false:=hu31
   refine qe rfl (qf (v:=.bool false) hu31 rfl ?_)
   exact ⟨.bool false,rfl,rfl,qk⟩
  intro f72 w73 qp qo hs74
  obtain ⟨hu15,hu32,-⟩:=qo
  obtain ⟨b52,hu15⟩:=(show ∃ b52 : Nat,f72 24 = .slice (some ⟨b52,0,none⟩) 3 3 from hu15)
  have hu32 : f72 4 = .bool false:=hu32
  have hs74 : St _ _ _ [blk (vblk (f72 24)) [.bool (qd k.fr 0 (((m.comps.length : Nat) : Int) - 1)),.bool (qd k.to 0 (((m.comps.length : Nat) : Int) - 1)),.bool (decide (k.fr ≠ k.to))] 4,blk b5 [vI k.fr,vI k.to,vI k.ad] 68,blk b1 (qn m) 26] _:=hs74
  simp only [hu15,vblk,zf,vcap,z3] at hs74
  have hs74 : St _ _ _ [blk b52 [.bool (qd k.fr 0 (((m.comps.length : Nat) : Int) - 1)),.bool (qd k.to 0 (((m.comps.length : Nat) : Int) - 1)),.bool (decide (k.fr ≠ k.to))] 4,blk b5 [vI k.fr,vI k.to,vI k.ad] 68,blk b1 (qn m) 26] _:=hs74
  rewrite [qm hu32]
  refine qb (zo ?_)
  refine ⟨.bool false,res1 rfl,?_⟩
  exact ⟨congrArg Value.bool (by simp [km,link_no hto]),hs74.base⟩

/-- seizin/image.share -/
theorem share_c (m : ImageV) (k : ShareV) (w : World) (hm : ∀ i ∈ kh m,i.φ w) (hb : ImgB m) (h4 : m.comps.length ≤ 4) :
  C Try.prog 58 [.agg (qn m).toArray,.agg #[vI k.rd,vI k.wr]] w fun v w'=>v = .bool (jm m k) ∧ Grow w w':=by
 have hs0 : St w (fun _=>False) w [] (kh m):=St.start w _ hm
 refine z8 [.tmp 4] 24 Try.func58 rfl Try.ntmps58 rfl rfl ?_
 refine qi (qc ?_)
 refine qa rfl (jw (v:=.agg (qn m).toArray) (cs:=(qn m)) hs0 rfl rfl rfl ?_)
 intro b1 w2 hb4 hs3
 refine qa rfl (jw (v:=.agg #[vI k.rd,vI k.wr]) (cs:=[vI k.rd,vI k.wr]) hs3 rfl rfl rfl ?_)
 intro b5 w6 hb8 hs7
 refine qa rfl (qf (v:=.bool false) rfl rfl ?_)
 refine ql (qb (qi ?_))
 have hp:=pow_small h4
 refine jc js (show St _ _ _ [blk b5 [vI k.rd,vI k.wr] 70,blk b1 (qn m) 26] _ from hs7) (fun i_=>match i_ with|17=>some ([22],fun vs_=>match vs_ with|[x22]=>blk (vblk x22) [.bool (qd k.rd 0 (((2 : Int) ^ m.comps.length) - 1)),.bool (decide (0 ≤ k.wr)),.bool (decide ((jf .andNot .i64 k.wr k.rd) = 0))] 4|_=>emp)|_=>none) (fun i_=>match i_ with|_=>[]) (fun i_=>match i_ with|1=>[20]|3=>[21]|9=>[20]|12=>[20]|14=>[20]|18=>[17]|_=>[]) (fun i_=>match i_ with|1=>[0]|3=>[2]|4=>[3]|5=>[4]|6=>[5]|7=>[1,6]|9=>[8]|10=>[9]|12=>[11]|14=>[13]|15=>[12,14]|16=>[15]|17=>[7,10,16]|18=>[17]|19=>[18]|_=>[]) [17,20,21,0,1,2,3,4,5,6,7,8,9,10,11,12,13,14,15,16,18,19,22,23,24,25,26,27,28,29,30,31,32,33,34,35,36,37,38,39,40,41] [17,19] (fun i_ v_=>match i_ with|0=>v_ = .pointer (some ⟨b5,0,none⟩)|1=>v_ = vI k.rd|2=>v_ = .pointer (some ⟨b1,3,none⟩)|3=>v_ = .slice m.ca m.comps.length m.ccap|4=>v_ = vI ((m.comps.length : Nat) : Int)|5=>v_ = vI ((2 : Int) ^ m.comps.length)|6=>v_ = vI (((2 : Int) ^ m.comps.length) - 1)|7=>v_ = .bool (qd k.rd 0 (((2 : Int) ^ m.comps.length) - 1))|8=>v_ = .pointer (some ⟨b5,1,none⟩)|9=>v_ = vI k.wr|10=>v_ = .bool (decide (0 ≤ k.wr))|11=>v_ = .pointer (some ⟨b5,1,none⟩)|12=>v_ = vI k.wr|13=>v_ = .pointer (some ⟨b5,0,none⟩)|14=>v_ = vI k.rd|15=>v_ = vI (jf .andNot .i64 k.wr k.rd)|16=>v_ = .bool (decide ((jf .andNot .i64 k.wr k.rd) = 0))|17=>∃ b12 : Nat,v_ = .slice (some ⟨b12,0,none⟩) 3 3|18=>v_ = .bool ((qd k.rd 0 (((2 : Int) ^ m.comps.length) - 1)) && (decide (0 ≤ k.wr) && ((decide ((jf .andNot .i64 k.wr k.rd) = 0)) && true)))|19=>v_ = .bool ((qd k.rd 0 (((2 : Int) ^ m.comps.length) - 1)) && (decide (0 ≤ k.wr) && ((decide ((jf .andNot .i64 k.wr k.rd) = 0)) && true)))|_=>True) (by kernel_rfl) (by kernel_rfl) ⟨?_,?_,?_,?_,?_,?_,?_,?_,?_,?_,?_,?_,?_,?_,?_,?_,?_,?_,?_,?_,trivial⟩ ?_
 ·intro f0_ w0_ X0_ qp qo qu qk
  have hb3 : f0_ 3 = .pointer (some ⟨b5,0,none⟩):=(qp 3 rfl)
  refine qe rfl (qg hb3 fd70_0 rfl (o':=0) rfl rfl ?_)
  exact ⟨.pointer (some ⟨b5,0,none⟩),rfl,rfl,qk⟩
 ·intro f1_ w1_ X1_ qp qo qu qk
  obtain ⟨hu0,-⟩:=qo
  have hu0 : f1_ 5 = .pointer (some ⟨b5,0,none⟩):=hu0
  obtain ⟨hr20,-⟩:=qu
  have hr20 : Item.φ (blk b5 [vI k.rd,vI k.wr] 70) w1_:=hr20
  refine qe rfl (qq (v:=vI k.rd) hu0 ag3 (qh (hr20) rfl) rfl ?_)
  exact ⟨vI k.rd,rfl,rfl,qk⟩
 ·intro f2_ w2_ X2_ qp qo qu qk
  have hb2 : f2_ 2 = .pointer (some ⟨b1,0,none⟩):=(qp 2 rfl)
  refine qe rfl (qg hb2 jq rfl (o':=3) rfl rfl ?_)
  exact ⟨.pointer (some ⟨b1,3,none⟩),rfl,rfl,qk⟩
 ·intro f3_ w3_ X3_ qp qo qu qk
  obtain ⟨hu2,-⟩:=qo
  have hu2 : f3_ 7 = .pointer (some ⟨b1,3,none⟩):=hu2
  obtain ⟨hr21,-⟩:=qu
  have hr21 : Item.φ (blk b1 (qn m) 26) w3_:=hr21
  refine qe rfl (qq (v:=.slice m.ca m.comps.length m.ccap) hu2 ag22 (qh (hr21) rfl) rfl ?_)
  exact ⟨.slice m.ca m.comps.length m.ccap,rfl,rfl,qk⟩
 ·intro f4_ w4_ X4_ qp qo qu qk
  obtain ⟨hu3,-⟩:=qo
  have hu3 : f4_ 8 = .slice m.ca m.comps.length m.ccap:=hu3
  refine qe rfl (qx (len:=m.comps.length) hu3 un22 rfl ?_)
  exact ⟨vI ((m.comps.length : Nat) : Int),rfl,rfl,qk⟩
 ·intro f5_ w5_ X5_ qp qo qu qk
  obtain ⟨hu4,-⟩:=qo
  have hu4 : f5_ 9 = vI ((m.comps.length : Nat) : Int):=hu4
  refine qe rfl (qt (v:=vI ((2 : Int) ^ m.comps.length)) rfl hu4 rfl (b_shl (by omega) (shl_small h4)) ?_)
  exact ⟨vI ((2 : Int) ^ m.comps.length),rfl,rfl,qk⟩
 ·intro f6_ w6_ X6_ qp qo qu qk
  obtain ⟨hu5,-⟩:=qo
  have hu5 : f6_ 10 = vI ((2 : Int) ^ m.comps.length):=hu5
  refine qe rfl (qt (v:=vI (((2 : Int) ^ m.comps.length) - 1)) hu5 rfl rfl (b_sub (qz (by omega) (by omega))) ?_)
  exact ⟨vI (((2 : Int) ^ m.comps.length) - 1),rfl,rfl,qk⟩
 ·intro f7_ w7_ X7_ qp qo qu qk
  obtain ⟨hu1,hu6,-⟩:=qo
  have hu1 : f7_ 6 = vI k.rd:=hu1
  have hu6 : f7_ 11 = vI (((2 : Int) ^ m.comps.length) - 1):=hu6
  refine qe rfl (zi (args:=[vI k.rd,vI 0,vI (((2 : Int) ^ m.comps.length) - 1)]) rfl (by simp only [List.map_cons,List.map_nil,List.nil_append,List.cons_append,List.append_nil,ev,Value.cells,hu1,hu6]) rfl en50 (yn k.rd 0 (((2 : Int) ^ m.comps.length) - 1) _) ?_)
  rintro _ w9 ⟨rfl,hk11⟩
  have hs10:=qk.keep hk11
  exact ⟨.bool (qd k.rd 0 (((2 : Int) ^ m.comps.length) - 1)),rfl,rfl,hs10⟩
 ·intro f8_ w8_ X8_ qp qo qu qk
  have hb3 : f8_ 3 = .pointer (some ⟨b5,0,none⟩):=(qp 3 rfl)
  refine qe rfl (qg hb3 fd70_1 rfl (o':=1) rfl rfl ?_)
  exact ⟨.pointer (some ⟨b5,1,none⟩),rfl,rfl,qk⟩
 ·intro f9_ w9_ X9_ qp qo qu qk
  obtain ⟨hu8,-⟩:=qo
  have hu8 : f9_ 13 = .pointer (some ⟨b5,1,none⟩):=hu8
  obtain ⟨hr20,-⟩:=qu
  have hr20 : Item.φ (blk b5 [vI k.rd,vI k.wr] 70) w9_:=hr20
  refine qe rfl (qq (v:=vI k.wr) hu8 ag3 (qh (hr20) rfl) rfl ?_)
  exact ⟨vI k.wr,rfl,rfl,qk⟩
 ·intro f10_ w10_ X10_ qp qo qu qk
  obtain ⟨hu9,-⟩:=qo
  have hu9 : f10_ 14 = vI k.wr:=hu9
  refine qe rfl (qt (k:=.i64) (k':=.i64) (a:=k.wr) (b:=0) hu9 rfl rfl b_geq ?_)
  exact ⟨.bool (decide (0 ≤ k.wr)),rfl,rfl,qk⟩
 ·intro f11_ w11_ X11_ qp qo qu qk
  have hb3 : f11_ 3 = .pointer (some ⟨b5,0,none⟩):=(qp 3 rfl)
  refine qe rfl (qg hb3 fd70_1 rfl (o':=1) rfl rfl ?_)
  exact ⟨.pointer (some ⟨b5,1,none⟩),rfl,rfl,qk⟩
 ·intro f12_ w12_ X12_ qp qo qu qk
  obtain ⟨hu11,-⟩:=qo
  have hu11 : f12_ 16 = .pointer (some ⟨b5,1,none⟩):=hu11
  obtain ⟨hr20,-⟩:=qu
  have hr20 : Item.φ (blk b5 [vI k.rd,vI k.wr] 70) w12_:=hr20
  refine qe rfl (qq (v:=vI k.wr) hu11 ag3 (qh (hr20) rfl) rfl ?_)
  exact ⟨vI k.wr,rfl,rfl,qk⟩
 ·intro f13_ w13_ X13_ qp qo qu qk
  have hb3 : f13_ 3 = .pointer (some ⟨b5,0,none⟩):=(qp 3 rfl)
  refine qe rfl (qg hb3 fd70_0 rfl (o':=0) rfl rfl ?_)
  exact ⟨.pointer (some ⟨b5,0,none⟩),rfl,rfl,qk⟩
 ·intro f14_ w14_ X14_ qp qo qu qk
  obtain ⟨hu13,-⟩:=qo
  have hu13 : f14_ 18 = .pointer (some ⟨b5,0,none⟩):=hu13
  obtain ⟨hr20,-⟩:=qu
  have hr20 : Item.φ (blk b5 [vI k.rd,vI k.wr] 70) w14_:=hr20
  refine qe rfl (qq (v:=vI k.rd) hu13 ag3 (qh (hr20) rfl) rfl ?_)
  exact ⟨vI k.rd,rfl,rfl,qk⟩
 ·intro f15_ w15_ X15_ qp qo qu qk
  obtain ⟨hu12,hu14,-⟩:=qo
  have hu12 : f15_ 17 = vI k.wr:=hu12
  have hu14 : f15_ 19 = vI k.rd:=hu14
  refine qe rfl (qt (v:=vI (jf .andNot .i64 k.wr k.rd)) hu12 hu14 rfl (b_andNot (rfl)) ?_)
  exact ⟨vI (jf .andNot .i64 k.wr k.rd),rfl,rfl,qk⟩
 ·intro f16_ w16_ X16_ qp qo qu qk
  obtain ⟨hu15,-⟩:=qo
  have hu15 : f16_ 20 = vI (jf .andNot .i64 k.wr k.rd):=hu15
  refine qe rfl (qt (k:=.i64) (k':=.i64) (a:=(jf .andNot .i64 k.wr k.rd)) (b:=0) hu15 rfl rfl k8 ?_)
  exact ⟨.bool (decide ((jf .andNot .i64 k.wr k.rd) = 0)),rfl,rfl,qk⟩
 ·intro f17_ w17_ X17_ qp qo qu qk
  obtain ⟨hu7,hu10,hu16,-⟩:=qo
  have hu7 : f17_ 12 = .bool (qd k.rd 0 (((2 : Int) ^ m.comps.length) - 1)):=hu7
  have hu10 : f17_ 15 = .bool (decide (0 ≤ k.wr)):=hu10
  have hu16 : f17_ 21 = .bool (decide ((jf .andNot .i64 k.wr k.rd) = 0)):=hu16
  refine qe rfl (zz (zs:=[.bool false,.bool false,.bool false]) (ps:=[(0,[.bool (qd k.rd 0 (((2 : Int) ^ m.comps.length) - 1))]),(1,[.bool (decide (0 ≤ k.wr))]),(2,[.bool (decide ((jf .andNot .i64 k.wr k.rd) = 0))])]) (cs:=[.bool (qd k.rd 0 (((2 : Int) ^ m.comps.length) - 1)),.bool (decide (0 ≤ k.wr)),.bool (decide ((jf .andNot .i64 k.wr k.rd) = 0))]) qk un102 sz4 zv4 rfl rfl (by simp only [List.map_cons,List.map_nil,List.nil_append,List.cons_append,List.append_nil,ev,Value.cells,hu7,hu10,hu16]) rfl rfl ?_)
  intro b12 w13 hb15 hs14
  refine ⟨.slice (some ⟨b12,0,none⟩) 3 3,rfl,⟨_,rfl⟩,?_⟩
  show St _ _ _ ((blk (vblk ((upd f17_ 22 (.slice (some ⟨b12,0,none⟩) 3 3)) 22)) [.bool (qd k.rd 0 (((2 : Int) ^ m.comps.length) - 1)),.bool (decide (0 ≤ k.wr)),.bool (decide ((jf .andNot .i64 k.wr k.rd) = 0))] 4) :: X17_) _
  exact hs14
 ·intro f18_ w18_ X18_ qp qo qu qk
  obtain ⟨hu17,-⟩:=qo
  obtain ⟨b12,hu17⟩:=(show ∃ b12 : Nat,f18_ 22 = .slice (some ⟨b12,0,none⟩) 3 3 from hu17)
  obtain ⟨hr17,-⟩:=qu
  have hr17 : Item.φ (blk (vblk (f18_ 22)) [.bool (qd k.rd 0 (((2 : Int) ^ m.comps.length) - 1)),.bool (decide (0 ≤ k.wr)),.bool (decide ((jf .andNot .i64 k.wr k.rd) = 0))] 4) w18_:=hr17
  rw [hu17] at hr17; simp only [vblk,zf,vcap,z3] at hr17
  refine qe rfl (zi (args:=[.slice (some ⟨b12,0,none⟩) 3 3]) rfl (by simp only [List.map_cons,List.map_nil,List.nil_append,List.cons_append,List.append_nil,ev,Value.cells,hu17]) rfl en49 (must_c (some ⟨b12,0,none⟩) 3 [qd k.rd 0 (((2 : Int) ^ m.comps.length) - 1),decide (0 ≤ k.wr),decide ((jf .andNot .i64 k.wr k.rd) = 0)] _ (jb (enc:=encBool) (m:=1) (fun _=>rfl) [qd k.rd 0 (((2 : Int) ^ m.comps.length) - 1),decide (0 ≤ k.wr),decide ((jf .andNot .i64 k.wr k.rd) = 0)] (hr17) rfl) (by simp)) ?_)
  rintro _ w16 ⟨rfl,hk18⟩
  have hs17:=qk.keep hk18
  exact ⟨.bool ((qd k.rd 0 (((2 : Int) ^ m.comps.length) - 1)) && (decide (0 ≤ k.wr) && ((decide ((jf .andNot .i64 k.wr k.rd) = 0)) && true))),rfl,rfl,hs17⟩
 ·intro f19_ w19_ X19_ qp qo qu qk
  obtain ⟨hu18,-⟩:=qo
  have hu18 : f19_ 23 = .bool ((qd k.rd 0 (((2 : Int) ^ m.comps.length) - 1)) && (decide (0 ≤ k.wr) && ((decide ((jf .andNot .i64 k.wr k.rd) = 0)) && true))):=hu18
  refine qe rfl (qf (v:=.bool ((qd k.rd 0 (((2 : Int) ^ m.comps.length) - 1)) && (decide (0 ≤ k.wr) && ((decide ((jf .andNot .i64 k.wr k.rd) = 0)) && true)))) hu18 rfl ?_)
  exact ⟨.bool ((qd k.rd 0 (((2 : Int) ^ m.comps.length) - 1)) && (decide (0 ≤ k.wr) && ((decide ((jf .andNot .i64 k.wr k.rd) = 0)) && true))),rfl,rfl,qk⟩
 intro f19 w20 qp qo hs21
 obtain ⟨hu17,hu19,-⟩:=qo
 obtain ⟨b12,hu17⟩:=(show ∃ b12 : Nat,f19 22 = .slice (some ⟨b12,0,none⟩) 3 3 from hu17)
 have hu19 : f19 4 = .bool ((qd k.rd 0 (((2 : Int) ^ m.comps.length) - 1)) && (decide (0 ≤ k.wr) && ((decide ((jf .andNot .i64 k.wr k.rd) = 0)) && true))):=hu19
 have hs21 : St _ _ _ [blk (vblk (f19 22)) [.bool (qd k.rd 0 (((2 : Int) ^ m.comps.length) - 1)),.bool (decide (0 ≤ k.wr)),.bool (decide ((jf .andNot .i64 k.wr k.rd) = 0))] 4,blk b5 [vI k.rd,vI k.wr] 70,blk b1 (qn m) 26] _:=hs21
 simp only [hu17,vblk,zf,vcap,z3] at hs21
 have hs21 : St _ _ _ [blk b12 [.bool (qd k.rd 0 (((2 : Int) ^ m.comps.length) - 1)),.bool (decide (0 ≤ k.wr)),.bool (decide ((jf .andNot .i64 k.wr k.rd) = 0))] 4,blk b5 [vI k.rd,vI k.wr] 70,blk b1 (qn m) 26] _:=hs21
 rewrite [qm hu19]
 refine qb (zo ?_)
 refine ⟨.bool ((qd k.rd 0 (((2 : Int) ^ m.comps.length) - 1)) && (decide (0 ≤ k.wr) && ((decide ((jf .andNot .i64 k.wr k.rd) = 0)) && true))),res1 rfl,?_⟩
 exact ⟨congrArg Value.bool (by simp [jm]),hs21.base⟩

/-- slices.Max[[]int,int] -/
theorem max_c (a : Option Addr) (cap : Nat) (l : List Int) (w : World) (h : (arrI encI 1 a l).φ w) (hl : l.length ≤ 20000) (h1 : 1 ≤ l.length) :
  C Try.prog 70 [.slice a l.length cap] w fun v w'=>(∃ mx : Int,v = vI mx ∧ mx ∈ l ∧ ∀ x ∈ l,x ≤ mx) ∧ Grow w w':=by
 have hs0 : St w (fun _=>False) w [] [arrI encI 1 a l]:=St.start w _ (by simpa using h)
 refine z8 [.tmp 2] 25 Try.func70 rfl Try.ntmps70 rfl rfl ?_
 refine qi (qc ?_)
 refine qa rfl (qf (v:=vI 0) rfl rfl ?_)
 refine ql (qb (qi (qi (qc ?_))))
 refine qa rfl (qj (v:=.slice a l.length cap) rfl rfl ?_)
 refine qa rfl (qx (len:=l.length) rfl un43 rfl ?_)
 refine qa rfl (qt (k:=.i64) (k':=.i64) (a:=((l.length : Nat) : Int)) (b:=1) rfl rfl rfl jg ?_)
 refine ql (qb ?_)
 refine zd rfl (fun hc1=>absurd hc1 (by omega)) (fun hc1=>?_)
 refine zn (qb (qi (qc ?_)))
 refine qa rfl (qj (v:=.slice a l.length cap) rfl rfl ?_)
 obtain ⟨b2,o3,ha4,hs5⟩:=hs0.elem 0 rfl 0 (by omega)
 refine qa rfl (qs rfl ha4 rfl un43 sz3 (by omega) (by omega) (o':=o3 + 0 * 1) (by omega) rfl ?_)
 refine qa rfl (qq (v:=vI (l[0]'(by omega))) rfl ag3 ((hs5.getR 0 rfl).2 0 _ rfl) rfl ?_)
 refine qa rfl (qf (v:=vI (l[0]'(by omega))) rfl rfl ?_)
 refine ql (qb (qi (qi (qc ?_))))
 refine qa rfl (qf (v:=vI 1) rfl rfl ?_)
 refine ql (qb (zy ?_))
 refine kw (fun m_ f_ w_=>∃ k : Nat,∃ mx : Int,m_ = l.length - k ∧ (1 ≤ k) ∧ (k ≤ l.length) ∧ (mx ∈ l.take k) ∧ (∀ x ∈ l.take k,x ≤ mx) ∧ f_ 0 = .slice a l.length cap ∧ f_ 3 = vI mx ∧ f_ 4 = vI ((k : Nat) : Int) ∧ St w (fun _=>False) w_ [] [rdI b2 (o3 + 0 * 1) (encI (l[0]'(by omega))),arrI encI 1 a l]) ?_ ?_
 ·exact ⟨_,1,l[0],rfl,Nat.le_refl _,h1,max_first (by omega),max_first2 (by omega),rfl,rfl,rfl,hs5⟩
 ·intro m9 f6 w7; rintro ⟨k,mx,rfl,k1,k2,k3,k4,e10,e11,e12,hs8⟩
  rewrite [qm e10]
  rewrite [qm e11]
  rewrite [qm e12]
  refine qi (qi (qc ?_))
  refine qa rfl (qj (v:=vI ((k : Nat) : Int)) rfl rfl ?_)
  refine qa rfl (qj (v:=.slice a l.length cap) rfl rfl ?_)
  refine qa rfl (qx (len:=l.length) rfl un43 rfl ?_)
  refine qa rfl (qt (k:=.i64) (k':=.i64) (a:=((k : Nat) : Int)) (b:=((l.length : Nat) : Int)) rfl rfl rfl jg ?_)
  refine ql (qb ?_)
  refine zd rfl (fun hc13=>?_) (fun hc13=>?_)
  ·refine zn (qb (qi (zy (qc ?_))))
   refine qa rfl (qj (v:=vI mx) rfl rfl ?_)
   refine qa rfl (qj (v:=.slice a l.length cap) rfl rfl ?_)
   refine qa rfl (qj (v:=vI ((k : Nat) : Int)) rfl rfl ?_)
   obtain ⟨b14,o15,ha16,hs17⟩:=hs8.elem 1 rfl k (by omega)
   refine qa rfl (qs rfl ha16 rfl un43 sz3 (by omega) (by omega) (o':=o15 + k * 1) (by omega) rfl ?_)
   refine qa rfl (qq (v:=vI (l[k]'(by omega))) rfl ag3 ((hs17.getR 0 rfl).2 0 _ rfl) rfl ?_)
   refine qa rfl (O_max rfl rfl rfl ?_)
   refine qa rfl (qf (v:=vI (if mx < (l[k]'(by omega)) then (l[k]'(by omega)) else mx)) rfl rfl ?_)
   refine ql (z7 (qb (qc ?_)))
   refine qa rfl (qj (v:=vI ((k : Nat) : Int)) rfl rfl ?_)
   refine qa rfl (qt (v:=vI ((k + 1 : Nat) : Int)) rfl rfl rfl (ki (qz (by omega) (by omega))) ?_)
   refine qa rfl (qf (v:=vI ((k + 1 : Nat) : Int)) rfl rfl ?_)
   refine ql (qb ?_)
   refine ⟨_,?_,k + 1,if mx < l[k]'(by omega) then l[k]'(by omega) else mx,rfl,by omega,by omega,(max_step (by omega) k3 k4).1,(max_step (by omega) k3 k4).2,rfl,rfl,rfl,hs17.popR⟩
   omega
  ·refine ja (z0 (z0 (ke (qb (qi (qc ?_))))))
   refine qa rfl (qj (v:=vI mx) rfl rfl ?_)
   refine qa rfl (qf (v:=vI mx) rfl rfl ?_)
   refine ql (qb (zo ?_))
   refine ⟨vI mx,res1 rfl,?_⟩
   rw [List.take_of_length_le (by omega)] at k3 k4
   exact ⟨⟨mx,rfl,k3,k4⟩,hs8.base⟩

/-- seizin/image.many -/
theorem many_c (a : Option Addr) (cap : Nat) (l : List LinkV) (w : World) (h : (arrI z1 3 a l).φ w) (hl : l.length ≤ 20000) (qp : ∀ k ∈ l,0 ≤ k.fr ∧ k.fr < 4) :
  C Try.prog 55 [.slice a l.length cap] w fun v w'=>v = .bool (jr l) ∧ Grow w w':=by
 have hs0 : St w (fun _=>False) w [] [arrI z1 3 a l]:=St.start w _ (by simpa using h)
 refine z8 [.tmp 2] 22 Try.func55 rfl Try.ntmps55 rfl rfl ?_
 refine qi (qc ?_)
 refine qa rfl (qf (v:=.bool false) rfl rfl ?_)
 refine ql (qb (qi (qc ?_)))
 refine qa rfl (kk (cs:=[vI 0,vI 0,vI 0,vI 0]) hs0 zv104 rfl rfl ?_)
 intro b1 w2 hb4 hs3
 refine ql (qb (qi (qi (qc ?_))))
 refine qa rfl (qj (v:=.slice a l.length cap) rfl rfl ?_)
 refine qa rfl (qx (len:=l.length) rfl un23 rfl ?_)
 refine qa rfl (qj (v:=vI 0) rfl rfl ?_)
 refine ql (qb (zy ?_))
 refine kw (fun m_ f_ w_=>∃ k : Nat,m_ = l.length - k ∧ (k ≤ l.length) ∧ f_ 3 = .pointer (some ⟨b1,0,none⟩) ∧ f_ 6 = .slice a l.length cap ∧ f_ 7 = vI ((l.length : Nat) : Int) ∧ f_ 8 = vI ((k : Nat) : Int) ∧ St w (fun _=>False) w_ [blk b1 (cntV (l.take k)) 104] [arrI z1 3 a l]) ?_ ?_
 ·exact ⟨_,0,rfl,by omega,rfl,rfl,rfl,rfl,hs3⟩
 ·intro m8 f5 w6; rintro ⟨k,rfl,hl13,e9,e10,e11,e12,hs7⟩
  rewrite [qm e9]
  rewrite [qm e10]
  rewrite [qm e11]
  rewrite [qm e12]
  refine qi (qc ?_)
  refine qa rfl (qt (k:=.i64) (k':=.i64) (a:=((k : Nat) : Int)) (b:=((l.length : Nat) : Int)) rfl rfl rfl jg ?_)
  refine ql (qb (qi ?_))
  refine zd rfl (fun hc14=>?_) (fun hc14=>?_)
  ·refine zn (qb (qi (zy (qi (qc ?_)))))
   obtain ⟨b15,o16,ha17,hs18⟩:=hs7.elem 0 rfl k (by omega)
   refine qa rfl (qs rfl ha17 rfl un23 sz68 (by omega) (by omega) (o':=o16 + k * 3) (by omega) rfl ?_)
   refine qa rfl (qw (vs:=[vI ((l[k]'(by omega)).fr),vI ((l[k]'(by omega)).to),vI ((l[k]'(by omega)).ad)]) rfl ag68 sz68 ((hs18.getR 0 rfl).2) rfl rfl ?_)
   refine qa rfl (kk (cs:=[vI 0,vI 0,vI 0]) hs18 zv68 rfl rfl ?_)
   intro b19 w20 hb22 hs21
   refine qa rfl (zx (v:=.agg #[vI ((l[k]'(by omega)).fr),vI ((l[k]'(by omega)).to),vI ((l[k]'(by omega)).ad)]) (vs:=[vI ((l[k]'(by omega)).fr),vI ((l[k]'(by omega)).to),vI ((l[k]'(by omega)).ad)]) (cs':=[vI ((l[k]'(by omega)).fr),vI ((l[k]'(by omega)).to),vI ((l[k]'(by omega)).ad)]) hs21 0 rfl rfl rfl sz68 rfl rfl rfl rfl rfl ?_)
   intro w23 hs24
   refine ql (qb (qc ?_))
   refine qa rfl (qg rfl fd68_0 rfl (o':=0) rfl rfl ?_)
   refine qa rfl (qq (v:=vI ((l[k]'(by omega)).fr)) rfl ag3 (qh (hs24.get 0 rfl) rfl) rfl ?_)
   refine qa rfl (k6 rfl rfl un104 sz3 ((qp _ (List.getElem_mem (by omega : k < l.length))).1) ((qp _ (List.getElem_mem (by omega : k < l.length))).2) (o':=0 + ((l[k]'(by omega)).fr.toNat) * 1) (by omega) rfl ?_)
   refine qa rfl (qq (v:=vI ((cntL (l.take k) (l[k]'(by omega)).fr.toNat : Nat) : Int)) rfl ag3 (qh (hs24.get 1 rfl) (cntV_get (qp _ (List.getElem_mem (by omega : k < l.length))).1 (qp _ (List.getElem_mem (by omega : k < l.length))).2)) rfl ?_)
   have hcl : cntL (l.take k) (l[k]'(by omega)).fr.toNat ≤ 20000:=Nat.le_trans (cntL_le _ _) (by rw [List.length_take]; omega)
   refine qa rfl (qt (v:=vI ((cntL (l.take k) (l[k]'(by omega)).fr.toNat + 1 : Nat) : Int)) rfl rfl rfl (ki (qz (by omega) (by omega))) ?_)
   refine qa rfl (k6 rfl rfl un104 sz3 ((qp _ (List.getElem_mem (by omega : k < l.length))).1) ((qp _ (List.getElem_mem (by omega : k < l.length))).2) (o':=0 + ((l[k]'(by omega)).fr.toNat) * 1) (by omega) rfl ?_)
   refine qa rfl (zx (v:=vI ((cntL (l.take k) (l[k]'(by omega)).fr.toNat + 1 : Nat) : Int)) (vs:=[vI ((cntL (l.take k) (l[k]'(by omega)).fr.toNat + 1 : Nat) : Int)]) (cs':=cntV (l.take (k + 1))) hs24 1 rfl rfl rfl sz3 rfl rfl rfl (by have:=(qp _ (List.getElem_mem (by omega : k < l.length))).1; have:=(qp _ (List.getElem_mem (by omega : k < l.length))).2; simp [cntV]; omega) ((cntV_set ((qp _ (List.getElem_mem (by omega : k < l.length))).1) ((qp _ (List.getElem_mem (by omega : k < l.length))).2)).trans (by rw [List.take_succ_eq_append_getElem (by omega : k < l.length)])) ?_)
   intro w25 hs26
   refine ql (z7 (qb (qc ?_)))
   refine qa rfl (qt (v:=vI ((k + 1 : Nat) : Int)) rfl rfl rfl (ki (qz (by omega) (by omega))) ?_)
   refine qa rfl (qj (v:=vI ((k + 1 : Nat) : Int)) rfl rfl ?_)
   refine ql (qb ?_)
   refine ⟨_,?_,k + 1,rfl,by omega,rfl,rfl,rfl,rfl,hs26.popR.popM⟩
   omega
  ·refine ja (z0 (z0 (ke (qb (qi (qc ?_))))))
   refine qa rfl (O_slice_arr rfl un104 sz3 rfl ?_)
   refine qa rfl (zi (args:=[.slice (some ⟨b1,0,none⟩) 4 4]) rfl rfl rfl en70 (max_c (some ⟨b1,0,none⟩) 4 ((List.range 4).map fun i=>((cntL l i : Nat) : Int)) _ (by have h:=hs7.get 0 rfl; rw [List.take_of_length_le (by omega : l.length ≤ k)] at h; exact jb (enc:=encI) (m:=1) (fun _=>rfl) ((List.range 4).map fun i=>((cntL l i : Nat) : Int)) h rfl) (by simp) (by simp)) ?_)
   rintro _ w28 ⟨⟨mx27,rfl,hx30,hx31⟩,hk32⟩
   have hs29:=hs7.keep hk32
   refine qa rfl (qt (k:=.i64) (k':=.i64) (a:=mx27) (b:=8) rfl rfl rfl b_leq ?_)
   refine qa rfl (qf (v:=.bool (decide (mx27 ≤ 8))) rfl rfl ?_)
   refine ql (qb (zo ?_))
   refine ⟨.bool (decide (mx27 ≤ 8)),res1 rfl,?_⟩
   exact ⟨congrArg Value.bool (many_eq hx30 hx31),hs29.base⟩

/-- seizin/image.form$1 -/
theorem form1_c (m : ImageV) (x : LinkV) (b : Nat) (w : World) (h : (blk b (qn m) 26).φ w) (hm : ∀ i ∈ kh m,i.φ w) (hb : ImgB m) (h1 : 1 ≤ m.comps.length) :
  C Try.prog 53 [.agg #[vI x.fr,vI x.to,vI x.ad],.pointer (some ⟨b,0,none⟩)] w fun v w'=>v = .bool (km m x) ∧ Grow w w':=by
 have hs0 : St w (fun _=>False) w [] [blk b (qn m) 26,arrI zu 2 m.ca m.comps,arrI z1 3 m.la m.links,arrI zw 2 m.sa m.shares,ko m.comps]:=St.start w _ (List.forall_mem_cons.2 ⟨h,hm⟩)
 refine z8 [.tmp 3] 7 Try.func53 rfl Try.ntmps53 rfl rfl ?_
 refine qi (qc ?_)
 refine qa rfl (jw (v:=.agg #[vI x.fr,vI x.to,vI x.ad]) (cs:=[vI x.fr,vI x.to,vI x.ad]) hs0 rfl rfl rfl ?_)
 intro b1 w2 hb4 hs3
 refine qa rfl (qf (v:=.bool false) rfl rfl ?_)
 refine ql (qb (qi (qc ?_)))
 refine qa rfl (qw (vs:=(qn m)) rfl ag26 sz26 (Rd.of_blk (hs3.getR 0 rfl) 0 6) rfl rfl ?_)
 refine qa rfl (qw (vs:=[vI x.fr,vI x.to,vI x.ad]) rfl ag68 sz68 (Rd.of_blk (hs3.get 0 rfl) 0 3) rfl rfl ?_)
 refine qa rfl (zi (args:=[.agg (qn m).toArray,.agg #[vI x.fr,vI x.to,vI x.ad]]) rfl rfl rfl en54 (link_c m x _ (hs3.popR.r) hb (by omega)) ?_)
 rintro _ w5 ⟨rfl,hk7⟩
 have hs6:=hs3.keep hk7
 refine qa rfl (qf (v:=.bool (km m x)) rfl rfl ?_)
 refine ql (qb (zo ?_))
 refine ⟨.bool (km m x),res1 rfl,?_⟩
 exact ⟨rfl,hs6.base⟩

/-- seizin/image.form$2 -/
theorem form2_c (m : ImageV) (x : ShareV) (b : Nat) (w : World) (h : (blk b (qn m) 26).φ w) (hm : ∀ i ∈ kh m,i.φ w) (hb : ImgB m) (h4 : m.comps.length ≤ 4) :
  C Try.prog 57 [.agg #[vI x.rd,vI x.wr],.pointer (some ⟨b,0,none⟩)] w fun v w'=>v = .bool (jm m x) ∧ Grow w w':=by
 have hs0 : St w (fun _=>False) w [] [blk b (qn m) 26,arrI zu 2 m.ca m.comps,arrI z1 3 m.la m.links,arrI zw 2 m.sa m.shares,ko m.comps]:=St.start w _ (List.forall_mem_cons.2 ⟨h,hm⟩)
 refine z8 [.tmp 3] 7 Try.func57 rfl Try.ntmps57 rfl rfl ?_
 refine qi (qc ?_)
 refine qa rfl (jw (v:=.agg #[vI x.rd,vI x.wr]) (cs:=[vI x.rd,vI x.wr]) hs0 rfl rfl rfl ?_)
 intro b1 w2 hb4 hs3
 refine qa rfl (qf (v:=.bool false) rfl rfl ?_)
 refine ql (qb (qi (qc ?_)))
 refine qa rfl (qw (vs:=(qn m)) rfl ag26 sz26 (Rd.of_blk (hs3.getR 0 rfl) 0 6) rfl rfl ?_)
 refine qa rfl (qw (vs:=[vI x.rd,vI x.wr]) rfl ag70 sz70 (Rd.of_blk (hs3.get 0 rfl) 0 2) rfl rfl ?_)
 refine qa rfl (zi (args:=[.agg (qn m).toArray,.agg #[vI x.rd,vI x.wr]]) rfl rfl rfl en58 (share_c m x _ (hs3.popR.r) hb (by omega)) ?_)
 rintro _ w5 ⟨rfl,hk7⟩
 have hs6:=hs3.keep hk7
 refine qa rfl (qf (v:=.bool (jm m x)) rfl rfl ?_)
 refine ql (qb (zo ?_))
 refine ⟨.bool (jm m x),res1 rfl,?_⟩
 exact ⟨rfl,hs6.base⟩

/-- seizin/image.form -/
theorem form_c (m : ImageV) (w : World) (hm : ∀ i ∈ kh m,i.φ w) (hb : ImgB m) :
  C Try.prog 34 [.agg (qn m).toArray] w fun v w'=>v = .bool (jo m) ∧ Grow w w':=by
 have hs0 : St w (fun _=>False) w [] (kh m):=St.start w _ hm
 refine z8 [.tmp 2] 45 Try.func34 rfl Try.ntmps34 rfl rfl ?_
 refine qi (qc ?_)
 refine qa rfl (jw (v:=.agg (qn m).toArray) (cs:=(qn m)) hs0 rfl rfl rfl ?_)
 intro b1 w2 hb4 hs3
 refine qa rfl (qf (v:=.bool false) rfl rfl ?_)
 refine ql (qb (qi ?_))
 have hcl:=hb.cl
 have hll:=hb.ll
 have hsl:=hb.sl
 refine jc js (show St _ _ _ [blk b1 (qn m) 26] _ from hs3) (fun i_=>match i_ with|18=>some ([21],fun vs_=>match vs_ with|[x21]=>blk (vblk x21) [.bool (qd m.heap 1 64),.bool (qd m.full 1 4096),.bool (qd ((m.comps.length : Nat) : Int) 1 4),.bool (decide (((m.links.length : Nat) : Int) ≤ 16)),.bool (decide (((m.shares.length : Nat) : Int) ≤ 4))] 4|_=>emp)|_=>none) (fun i_=>match i_ with|_=>[]) (fun i_=>match i_ with|1=>[43]|4=>[43]|7=>[43]|11=>[43]|15=>[43]|19=>[18]|22=>[43]|27=>[43]|29=>[43]|33=>[43]|38=>[43]|40=>[43]|_=>[]) (fun i_=>match i_ with|1=>[0]|2=>[1]|4=>[3]|5=>[4]|7=>[6]|8=>[7]|9=>[8]|11=>[10]|12=>[11]|13=>[12]|15=>[14]|16=>[15]|17=>[16]|18=>[2,5,9,13,17]|19=>[18]|20=>[19]|21=>[20]|22=>[20,21]|23=>[20,22]|24=>[20,23]|25=>[24]|26=>[25]|27=>[25,26]|28=>[25]|29=>[25,27,28]|30=>[25,29]|31=>[30]|32=>[31]|33=>[31,32]|34=>[31,33]|35=>[31,34]|36=>[35]|37=>[36]|38=>[36,37]|39=>[36]|40=>[36,38,39]|41=>[36,40]|42=>[41]|_=>[]) [18,43,0,1,2,3,4,5,6,7,8,9,10,11,12,13,14,15,16,17,19,20,21,22,23,24,25,26,27,28,29,30,31,32,33,34,35,36,37,38,39,40,41,42,44,45,46,47,48,49,50,51,52,53,54,55,56,57,58,59,60,61,62,63,64,65,66,67,68,69,70,71,72,73,74,75,76,77,78,79,80,81,82,83,84,85,86] [18,42] (fun i_ v_=>match i_ with|0=>v_ = .pointer (some ⟨b1,1,none⟩)|1=>v_ = vI m.heap|2=>v_ = .bool (qd m.heap 1 64)|3=>v_ = .pointer (some ⟨b1,2,none⟩)|4=>v_ = vI m.full|5=>v_ = .bool (qd m.full 1 4096)|6=>v_ = .pointer (some ⟨b1,3,none⟩)|7=>v_ = .slice m.ca m.comps.length m.ccap|8=>v_ = vI ((m.comps.length : Nat) : Int)|9=>v_ = .bool (qd ((m.comps.length : Nat) : Int) 1 4)|10=>v_ = .pointer (some ⟨b1,4,none⟩)|11=>v_ = .slice m.la m.links.length m.lcap|12=>v_ = vI ((m.links.length : Nat) : Int)|13=>v_ = .bool (decide (((m.links.length : Nat) : Int) ≤ 16))|14=>v_ = .pointer (some ⟨b1,5,none⟩)|15=>v_ = .slice m.sa m.shares.length m.scap|16=>v_ = vI ((m.shares.length : Nat) : Int)|17=>v_ = .bool (decide (((m.shares.length : Nat) : Int) ≤ 4))|18=>∃ b14 : Nat,v_ = .slice (some ⟨b14,0,none⟩) 5 5|19=>v_ = .bool ((qd m.heap 1 64) && ((qd m.full 1 4096) && ((qd ((m.comps.length : Nat) : Int) 1 4) && ((decide (((m.links.length : Nat) : Int) ≤ 16)) && ((decide (((m.shares.length : Nat) : Int) ≤ 4)) && true)))))|20=>v_ = .bool ((qd m.heap 1 64) && ((qd m.full 1 4096) && ((qd ((m.comps.length : Nat) : Int) 1 4) && ((decide (((m.links.length : Nat) : Int) ≤ 16)) && ((decide (((m.shares.length : Nat) : Int) ≤ 4)) && true)))))|21=>v_ = if ((qd m.heap 1 64) && ((qd m.full 1 4096) && ((qd ((m.comps.length : Nat) : Int) 1 4) && ((decide (((m.links.length : Nat) : Int) ≤ 16)) && ((decide (((m.shares.length : Nat) : Int) ≤ 4)) && true))))) = true then .pointer (some ⟨b1,3,none⟩) else undef|22=>v_ = if ((qd m.heap 1 64) && ((qd m.full 1 4096) && ((qd ((m.comps.length : Nat) : Int) 1 4) && ((decide (((m.links.length : Nat) : Int) ≤ 16)) && ((decide (((m.shares.length : Nat) : Int) ≤ 4)) && true))))) = true then .slice m.ca m.comps.length m.ccap else undef|23=>v_ = if ((qd m.heap 1 64) && ((qd m.full 1 4096) && ((qd ((m.comps.length : Nat) : Int) 1 4) && ((decide (((m.links.length : Nat) : Int) ≤ 16)) && ((decide (((m.shares.length : Nat) : Int) ≤ 4)) && true))))) = true then .bool (m.comps.all kf) else undef|24=>v_ = .bool (((qd m.heap 1 64) && ((qd m.full 1 4096) && ((qd ((m.comps.length : Nat) : Int) 1 4) && ((decide (((m.links.length : Nat) : Int) ≤ 16)) && ((decide (((m.shares.length : Nat) : Int) ≤ 4)) && true))))) && (m.comps.all kf))|25=>v_ = .bool (((qd m.heap 1 64) && ((qd m.full 1 4096) && ((qd ((m.comps.length : Nat) : Int) 1 4) && ((decide (((m.links.length : Nat) : Int) ≤ 16)) && ((decide (((m.shares.length : Nat) : Int) ≤ 4)) && true))))) && (m.comps.all kf))|26=>v_ = if (((qd m.heap 1 64) && ((qd m.full 1 4096) && ((qd ((m.comps.length : Nat) : Int) 1 4) && ((decide (((m.links.length : Nat) : Int) ≤ 16)) && ((decide (((m.shares.length : Nat) : Int) ≤ 4)) && true))))) && (m.comps.all kf)) = true then .pointer (some ⟨b1,4,none⟩) else undef|27=>v_ = if (((qd m.heap 1 64) && ((qd m.full 1 4096) && ((qd ((m.comps.length : Nat) : Int) 1 4) && ((decide (((m.links.length : Nat) : Int) ≤ 16)) && ((decide (((m.shares.length : Nat) : Int) ≤ 4)) && true))))) && (m.comps.all kf)) = true then .slice m.la m.links.length m.lcap else undef|28=>v_ = if (((qd m.heap 1 64) && ((qd m.full 1 4096) && ((qd ((m.comps.length : Nat) : Int) 1 4) && ((decide (((m.links.length : Nat) : Int) ≤ 16)) && ((decide (((m.shares.length : Nat) : Int) ≤ 4)) && true))))) && (m.comps.all kf)) = true then .func (.func 53) #[] #[.pointer (some ⟨b1,0,none⟩)] else undef|29=>v_ = if (((qd m.heap 1 64) && ((qd m.full 1 4096) && ((qd ((m.comps.length : Nat) : Int) 1 4) && ((decide (((m.links.length : Nat) : Int) ≤ 16)) && ((decide (((m.shares.length : Nat) : Int) ≤ 4)) && true))))) && (m.comps.all kf)) = true then .bool (m.links.all (km m)) else undef|30=>v_ = .bool ((((qd m.heap 1 64) && ((qd m.full 1 4096) && ((qd ((m.comps.length : Nat) : Int) 1 4) && ((decide (((m.links.length : Nat) : Int) ≤ 16)) && ((decide (((m.shares.length : Nat) : Int) ≤ 4)) && true))))) && (m.comps.all kf)) && (m.links.all (km m)))|31=>v_ = .bool ((((qd m.heap 1 64) && ((qd m.full 1 4096) && ((qd ((m.comps.length : Nat) : Int) 1 4) && ((decide (((m.links.length : Nat) : Int) ≤ 16)) && ((decide (((m.shares.length : Nat) : Int) ≤ 4)) && true))))) && (m.comps.all kf)) && (m.links.all (km m)))|32=>v_ = if ((((qd m.heap 1 64) && ((qd m.full 1 4096) && ((qd ((m.comps.length : Nat) : Int) 1 4) && ((decide (((m.links.length : Nat) : Int) ≤ 16)) && ((decide (((m.shares.length : Nat) : Int) ≤ 4)) && true))))) && (m.comps.all kf)) && (m.links.all (km m))) = true then .pointer (some ⟨b1,4,none⟩) else undef|33=>v_ = if ((((qd m.heap 1 64) && ((qd m.full 1 4096) && ((qd ((m.comps.length : Nat) : Int) 1 4) && ((decide (((m.links.length : Nat) : Int) ≤ 16)) && ((decide (((m.shares.length : Nat) : Int) ≤ 4)) && true))))) && (m.comps.all kf)) && (m.links.all (km m))) = true then .slice m.la m.links.length m.lcap else undef|34=>v_ = if ((((qd m.heap 1 64) && ((qd m.full 1 4096) && ((qd ((m.comps.length : Nat) : Int) 1 4) && ((decide (((m.links.length : Nat) : Int) ≤ 16)) && ((decide (((m.shares.length : Nat) : Int) ≤ 4)) && true))))) && (m.comps.all kf)) && (m.links.all (km m))) = true then .bool (jr m.links) else undef|35=>v_ = .bool (((((qd m.heap 1 64) && ((qd m.full 1 4096) && ((qd ((m.comps.length : Nat) : Int) 1 4) && ((decide (((m.links.length : Nat) : Int) ≤ 16)) && ((decide (((m.shares.length : Nat) : Int) ≤ 4)) && true))))) && (m.comps.all kf)) && (m.links.all (km m))) && (jr m.links))|36=>v_ = .bool (((((qd m.heap 1 64) && ((qd m.full 1 4096) && ((qd ((m.comps.length : Nat) : Int) 1 4) && ((decide (((m.links.length : Nat) : Int) ≤ 16)) && ((decide (((m.shares.length : Nat) : Int) ≤ 4)) && true))))) && (m.comps.all kf)) && (m.links.all (km m))) && (jr m.links))|37=>v_ = if (((((qd m.heap 1 64) && ((qd m.full 1 4096) && ((qd ((m.comps.length : Nat) : Int) 1 4) && ((decide (((m.links.length : Nat) : Int) ≤ 16)) && ((decide (((m.shares.length : Nat) : Int) ≤ 4)) && true))))) && (m.comps.all kf)) && (m.links.all (km m))) && (jr m.links)) = true then .pointer (some ⟨b1,5,none⟩) else undef|38=>v_ = if (((((qd m.heap 1 64) && ((qd m.full 1 4096) && ((qd ((m.comps.length : Nat) : Int) 1 4) && ((decide (((m.links.length : Nat) : Int) ≤ 16)) && ((decide (((m.shares.length : Nat) : Int) ≤ 4)) && true))))) && (m.comps.all kf)) && (m.links.all (km m))) && (jr m.links)) = true then .slice m.sa m.shares.length m.scap else undef|39=>v_ = if (((((qd m.heap 1 64) && ((qd m.full 1 4096) && ((qd ((m.comps.length : Nat) : Int) 1 4) && ((decide (((m.links.length : Nat) : Int) ≤ 16)) && ((decide (((m.shares.length : Nat) : Int) ≤ 4)) && true))))) && (m.comps.all kf)) && (m.links.all (km m))) && (jr m.links)) = true then .func (.func 57) #[] #[.pointer (some ⟨b1,0,none⟩)] else undef|40=>v_ = if (((((qd m.heap 1 64) && ((qd m.full 1 4096) && ((qd ((m.comps.length : Nat) : Int) 1 4) && ((decide (((m.links.length : Nat) : Int) ≤ 16)) && ((decide (((m.shares.length : Nat) : Int) ≤ 4)) && true))))) && (m.comps.all kf)) && (m.links.all (km m))) && (jr m.links)) = true then .bool (m.shares.all (jm m)) else undef|41=>v_ = .bool ((((((qd m.heap 1 64) && ((qd m.full 1 4096) && ((qd ((m.comps.length : Nat) : Int) 1 4) && ((decide (((m.links.length : Nat) : Int) ≤ 16)) && ((decide (((m.shares.length : Nat) : Int) ≤ 4)) && true))))) && (m.comps.all kf)) && (m.links.all (km m))) && (jr m.links)) && (m.shares.all (jm m)))|42=>v_ = .bool ((((((qd m.heap 1 64) && ((qd m.full 1 4096) && ((qd ((m.comps.length : Nat) : Int) 1 4) && ((decide (((m.links.length : Nat) : Int) ≤ 16)) && ((decide (((m.shares.length : Nat) : Int) ≤ 4)) && true))))) && (m.comps.all kf)) && (m.links.all (km m))) && (jr m.links)) && (m.shares.all (jm m)))|_=>True) (by kernel_rfl) (by kernel_rfl) ⟨?_,?_,?_,?_,?_,?_,?_,?_,?_,?_,?_,?_,?_,?_,?_,?_,?_,?_,?_,?_,?_,?_,?_,?_,?_,?_,?_,?_,?_,?_,?_,?_,?_,?_,?_,?_,?_,?_,?_,?_,?_,?_,?_,trivial⟩ ?_
 ·intro f0_ w0_ X0_ qp qo qu qk
  have hb1 : f0_ 1 = .pointer (some ⟨b1,0,none⟩):=(qp 1 rfl)
  refine qe rfl (qg hb1 fd26_1 rfl (o':=1) rfl rfl ?_)
  exact ⟨.pointer (some ⟨b1,1,none⟩),rfl,rfl,qk⟩
 ·intro f1_ w1_ X1_ qp qo qu qk
  obtain ⟨hu0,-⟩:=qo
  have hu0 : f1_ 3 = .pointer (some ⟨b1,1,none⟩):=hu0
  obtain ⟨hr43,-⟩:=qu
  have hr43 : Item.φ (blk b1 (qn m) 26) w1_:=hr43
  refine qe rfl (qq (v:=vI m.heap) hu0 ag3 (qh (hr43) rfl) rfl ?_)
  exact ⟨vI m.heap,rfl,rfl,qk⟩
 ·intro f2_ w2_ X2_ qp qo qu qk
  obtain ⟨hu1,-⟩:=qo
  have hu1 : f2_ 4 = vI m.heap:=hu1
  refine qe rfl (zi (args:=[vI m.heap,vI 1,vI 64]) rfl (by simp only [List.map_cons,List.map_nil,List.nil_append,List.cons_append,List.append_nil,ev,Value.cells,hu1]) rfl en50 (yn m.heap 1 64 _) ?_)
  rintro _ w5 ⟨rfl,hk7⟩
  have hs6:=qk.keep hk7
  exact ⟨.bool (qd m.heap 1 64),rfl,rfl,hs6⟩
 ·intro f3_ w3_ X3_ qp qo qu qk
  have hb1 : f3_ 1 = .pointer (some ⟨b1,0,none⟩):=(qp 1 rfl)
  refine qe rfl (qg hb1 fd26_2 rfl (o':=2) rfl rfl ?_)
  exact ⟨.pointer (some ⟨b1,2,none⟩),rfl,rfl,qk⟩
 ·intro f4_ w4_ X4_ qp qo qu qk
  obtain ⟨hu3,-⟩:=qo
  have hu3 : f4_ 6 = .pointer (some ⟨b1,2,none⟩):=hu3
  obtain ⟨hr43,-⟩:=qu
  have hr43 : Item.φ (blk b1 (qn m) 26) w4_:=hr43
  refine qe rfl (qq (v:=vI m.full) hu3 ag3 (qh (hr43) rfl) rfl ?_)
  exact ⟨vI m.full,rfl,rfl,qk⟩
 ·intro f5_ w5_ X5_ qp qo qu qk
  obtain ⟨hu4,-⟩:=qo
  have hu4 : f5_ 7 = vI m.full:=hu4
  refine qe rfl (zi (args:=[vI m.full,vI 1,vI 4096]) rfl (by simp only [List.map_cons,List.map_nil,List.nil_append,List.cons_append,List.append_nil,ev,Value.cells,hu4]) rfl en50 (yn m.full 1 4096 _) ?_)
  rintro _ w8 ⟨rfl,hk10⟩
  have hs9:=qk.keep hk10
  exact ⟨.bool (qd m.full 1 4096),rfl,rfl,hs9⟩
 ·intro f6_ w6_ X6_ qp qo qu qk
  have hb1 : f6_ 1 = .pointer (some ⟨b1,0,none⟩):=(qp 1 rfl)
  refine qe rfl (qg hb1 jq rfl (o':=3) rfl rfl ?_)
  exact ⟨.pointer (some ⟨b1,3,none⟩),rfl,rfl,qk⟩
 ·intro f7_ w7_ X7_ qp qo qu qk
  obtain ⟨hu6,-⟩:=qo
  have hu6 : f7_ 9 = .pointer (some ⟨b1,3,none⟩):=hu6
  obtain ⟨hr43,-⟩:=qu
  have hr43 : Item.φ (blk b1 (qn m) 26) w7_:=hr43
  refine qe rfl (qq (v:=.slice m.ca m.comps.length m.ccap) hu6 ag22 (qh (hr43) rfl) rfl ?_)
  exact ⟨.slice m.ca m.comps.length m.ccap,rfl,rfl,qk⟩
 ·intro f8_ w8_ X8_ qp qo qu qk
  obtain ⟨hu7,-⟩:=qo
  have hu7 : f8_ 10 = .slice m.ca m.comps.length m.ccap:=hu7
  refine qe rfl (qx (len:=m.comps.length) hu7 un22 rfl ?_)
  exact ⟨vI ((m.comps.length : Nat) : Int),rfl,rfl,qk⟩
 ·intro f9_ w9_ X9_ qp qo qu qk
  obtain ⟨hu8,-⟩:=qo
  have hu8 : f9_ 11 = vI ((m.comps.length : Nat) : Int):=hu8
  refine qe rfl (zi (args:=[vI ((m.comps.length : Nat) : Int),vI 1,vI 4]) rfl (by simp only [List.map_cons,List.map_nil,List.nil_append,List.cons_append,List.append_nil,ev,Value.cells,hu8]) rfl en50 (yn ((m.comps.length : Nat) : Int) 1 4 _) ?_)
  rintro _ w11 ⟨rfl,hk13⟩
  have hs12:=qk.keep hk13
  exact ⟨.bool (qd ((m.comps.length : Nat) : Int) 1 4),rfl,rfl,hs12⟩
 ·intro f10_ w10_ X10_ qp qo qu qk
  have hb1 : f10_ 1 = .pointer (some ⟨b1,0,none⟩):=(qp 1 rfl)
  refine qe rfl (qg hb1 xx rfl (o':=4) rfl rfl ?_)
  exact ⟨.pointer (some ⟨b1,4,none⟩),rfl,rfl,qk⟩
 ·intro f11_ w11_ X11_ qp qo qu qk
  obtain ⟨hu10,-⟩:=qo
  have hu10 : f11_ 13 = .pointer (some ⟨b1,4,none⟩):=hu10
  obtain ⟨hr43,-⟩:=qu
  have hr43 : Item.φ (blk b1 (qn m) 26) w11_:=hr43
  refine qe rfl (qq (v:=.slice m.la m.links.length m.lcap) hu10 ag23 (qh (hr43) rfl) rfl ?_)
  exact ⟨.slice m.la m.links.length m.lcap,rfl,rfl,qk⟩
 ·intro f12_ w12_ X12_ qp qo qu qk
  obtain ⟨hu11,-⟩:=qo
  have hu11 : f12_ 14 = .slice m.la m.links.length m.lcap:=hu11
  refine qe rfl (qx (len:=m.links.length) hu11 un23 rfl ?_)
  exact ⟨vI ((m.links.length : Nat) : Int),rfl,rfl,qk⟩
 ·intro f13_ w13_ X13_ qp qo qu qk
  obtain ⟨hu12,-⟩:=qo
  have hu12 : f13_ 15 = vI ((m.links.length : Nat) : Int):=hu12
  refine qe rfl (qt (k:=.i64) (k':=.i64) (a:=((m.links.length : Nat) : Int)) (b:=16) hu12 rfl rfl b_leq ?_)
  exact ⟨.bool (decide (((m.links.length : Nat) : Int) ≤ 16)),rfl,rfl,qk⟩
 ·intro f14_ w14_ X14_ qp qo qu qk
  have hb1 : f14_ 1 = .pointer (some ⟨b1,0,none⟩):=(qp 1 rfl)
  refine qe rfl (qg hb1 xo rfl (o':=5) rfl rfl ?_)
  exact ⟨.pointer (some ⟨b1,5,none⟩),rfl,rfl,qk⟩
 ·intro f15_ w15_ X15_ qp qo qu qk
  obtain ⟨hu14,-⟩:=qo
  have hu14 : f15_ 17 = .pointer (some ⟨b1,5,none⟩):=hu14
  obtain ⟨hr43,-⟩:=qu
  have hr43 : Item.φ (blk b1 (qn m) 26) w15_:=hr43
  refine qe rfl (qq (v:=.slice m.sa m.shares.length m.scap) hu14 ag24 (qh (hr43) rfl) rfl ?_)
  exact ⟨.slice m.sa m.shares.length m.scap,rfl,rfl,qk⟩
 ·intro f16_ w16_ X16_ qp qo qu qk
  obtain ⟨hu15,-⟩:=qo
  have hu15 : f16_ 18 = .slice m.sa m.shares.length m.scap:=hu15
  refine qe rfl (qx (len:=m.shares.length) hu15 un24 rfl ?_)
  exact ⟨vI ((m.shares.length : Nat) : Int),rfl,rfl,qk⟩
 ·intro f17_ w17_ X17_ qp qo qu qk
  obtain ⟨hu16,-⟩:=qo
  have hu16 : f17_ 19 = vI ((m.shares.length : Nat) : Int):=hu16
  refine qe rfl (qt (k:=.i64) (k':=.i64) (a:=((m.shares.length : Nat) : Int)) (b:=4) hu16 rfl rfl b_leq ?_)
  exact ⟨.bool (decide (((m.shares.length : Nat) : Int) ≤ 4)),rfl,rfl,qk⟩
 ·intro f18_ w18_ X18_ qp qo qu qk
  obtain ⟨hu2,hu5,hu9,hu13,hu17,-⟩:=qo
  have hu2 : f18_ 5 = .bool (qd m.heap 1 64):=hu2
  have hu5 : f18_ 8 = .bool (qd m.full 1 4096):=hu5
  have hu9 : f18_ 12 = .bool (qd ((m.comps.length : Nat) : Int) 1 4):=hu9
  have hu13 : f18_ 16 = .bool (decide (((m.links.length : Nat) : Int) ≤ 16)):=hu13
  have hu17 : f18_ 20 = .bool (decide (((m.shares.length : Nat) : Int) ≤ 4)):=hu17
  refine qe rfl (zz (zs:=[.bool false,.bool false,.bool false,.bool false,.bool false]) (ps:=[(0,[.bool (qd m.heap 1 64)]),(1,[.bool (qd m.full 1 4096)]),(2,[.bool (qd ((m.comps.length : Nat) : Int) 1 4)]),(3,[.bool (decide (((m.links.length : Nat) : Int) ≤ 16))]),(4,[.bool (decide (((m.shares.length : Nat) : Int) ≤ 4))])]) (cs:=[.bool (qd m.heap 1 64),.bool (qd m.full 1 4096),.bool (qd ((m.comps.length : Nat) : Int) 1 4),.bool (decide (((m.links.length : Nat) : Int) ≤ 16)),.bool (decide (((m.shares.length : Nat) : Int) ≤ 4))]) qk un102 sz4 zv4 rfl rfl (by simp only [List.map_cons,List.map_nil,List.nil_append,List.cons_append,List.append_nil,ev,Value.cells,hu2,hu5,hu9,hu13,hu17]) rfl rfl ?_)
  intro b14 w15 hb17 hs16
  refine ⟨.slice (some ⟨b14,0,none⟩) 5 5,rfl,⟨_,rfl⟩,?_⟩
  show St _ _ _ ((blk (vblk ((upd f18_ 21 (.slice (some ⟨b14,0,none⟩) 5 5)) 21)) [.bool (qd m.heap 1 64),.bool (qd m.full 1 4096),.bool (qd ((m.comps.length : Nat) : Int) 1 4),.bool (decide (((m.links.length : Nat) : Int) ≤ 16)),.bool (decide (((m.shares.length : Nat) : Int) ≤ 4))] 4) :: X18_) _
  exact hs16
 ·intro f19_ w19_ X19_ qp qo qu qk
  obtain ⟨hu18,-⟩:=qo
  obtain ⟨b14,hu18⟩:=(show ∃ b14 : Nat,f19_ 21 = .slice (some ⟨b14,0,none⟩) 5 5 from hu18)
  obtain ⟨hr18,-⟩:=qu
  have hr18 : Item.φ (blk (vblk (f19_ 21)) [.bool (qd m.heap 1 64),.bool (qd m.full 1 4096),.bool (qd ((m.comps.length : Nat) : Int) 1 4),.bool (decide (((m.links.length : Nat) : Int) ≤ 16)),.bool (decide (((m.shares.length : Nat) : Int) ≤ 4))] 4) w19_:=hr18
  rw [hu18] at hr18; simp only [vblk,zf,vcap,z3] at hr18
  refine qe rfl (zi (args:=[.slice (some ⟨b14,0,none⟩) 5 5]) rfl (by simp only [List.map_cons,List.map_nil,List.nil_append,List.cons_append,List.append_nil,ev,Value.cells,hu18]) rfl en49 (must_c (some ⟨b14,0,none⟩) 5 [qd m.heap 1 64,qd m.full 1 4096,qd ((m.comps.length : Nat) : Int) 1 4,decide (((m.links.length : Nat) : Int) ≤ 16),decide (((m.shares.length : Nat) : Int) ≤ 4)] _ (jb (enc:=encBool) (m:=1) (fun _=>rfl) [qd m.heap 1 64,qd m.full 1 4096,qd ((m.comps.length : Nat) : Int) 1 4,decide (((m.links.length : Nat) : Int) ≤ 16),decide (((m.shares.length : Nat) : Int) ≤ 4)] (hr18) rfl) (by simp)) ?_)
  rintro _ w18 ⟨rfl,hk20⟩
  have hs19:=qk.keep hk20
  exact ⟨.bool ((qd m.heap 1 64) && ((qd m.full 1 4096) && ((qd ((m.comps.length : Nat) : Int) 1 4) && ((decide (((m.links.length : Nat) : Int) ≤ 16)) && ((decide (((m.shares.length : Nat) : Int) ≤ 4)) && true))))),rfl,rfl,hs19⟩
 ·intro f20_ w20_ X20_ qp qo qu qk
  obtain ⟨hu19,-⟩:=qo
  have hu19 : f20_ 22 = .bool ((qd m.heap 1 64) && ((qd m.full 1 4096) && ((qd ((m.comps.length : Nat) : Int) 1 4) && ((decide (((m.links.length : Nat) : Int) ≤ 16)) && ((decide (((m.shares.length : Nat) : Int) ≤ 4)) && true))))):=hu19
  refine qe rfl (qj (v:=.bool ((qd m.heap 1 64) && ((qd m.full 1 4096) && ((qd ((m.comps.length : Nat) : Int) 1 4) && ((decide (((m.links.length : Nat) : Int) ≤ 16)) && ((decide (((m.shares.length : Nat) : Int) ≤ 4)) && true)))))) hu19 rfl ?_)
  exact ⟨.bool ((qd m.heap 1 64) && ((qd m.full 1 4096) && ((qd ((m.comps.length : Nat) : Int) 1 4) && ((decide (((m.links.length : Nat) : Int) ≤ 16)) && ((decide (((m.shares.length : Nat) : Int) ≤ 4)) && true))))),rfl,rfl,qk⟩
 ·intro f21_ w21_ X21_ qp qo qu qk
  obtain ⟨hu20,-⟩:=qo
  have hu20 : f21_ 23 = .bool ((qd m.heap 1 64) && ((qd m.full 1 4096) && ((qd ((m.comps.length : Nat) : Int) 1 4) && ((decide (((m.links.length : Nat) : Int) ≤ 16)) && ((decide (((m.shares.length : Nat) : Int) ≤ 4)) && true))))):=hu20
  have hb1 : f21_ 1 = .pointer (some ⟨b1,0,none⟩):=(qp 1 rfl)
  refine ze rfl (c:=((qd m.heap 1 64) && ((qd m.full 1 4096) && ((qd ((m.comps.length : Nat) : Int) 1 4) && ((decide (((m.links.length : Nat) : Int) ≤ 16)) && ((decide (((m.shares.length : Nat) : Int) ≤ 4)) && true)))))) hu20 (fun hg21=>?_) (fun hg21=>⟨undef,rfl,(if_neg (by rw [hg21]; decide)).symm,qk⟩)
  refine qg hb1 jq rfl (o':=3) rfl rfl ?_
  exact ⟨.pointer (some ⟨b1,3,none⟩),rfl,(if_pos hg21).symm,qk⟩
 ·intro f22_ w22_ X22_ qp qo qu qk
  obtain ⟨hu20,hu21,-⟩:=qo
  have hu20 : f22_ 23 = .bool ((qd m.heap 1 64) && ((qd m.full 1 4096) && ((qd ((m.comps.length : Nat) : Int) 1 4) && ((decide (((m.links.length : Nat) : Int) ≤ 16)) && ((decide (((m.shares.length : Nat) : Int) ≤ 4)) && true))))):=hu20
  have hu21 : f22_ 24 = if ((qd m.heap 1 64) && ((qd m.full 1 4096) && ((qd ((m.comps.length : Nat) : Int) 1 4) && ((decide (((m.links.length : Nat) : Int) ≤ 16)) && ((decide (((m.shares.length : Nat) : Int) ≤ 4)) && true))))) = true then .pointer (some ⟨b1,3,none⟩) else undef:=hu21
  obtain ⟨hr43,-⟩:=qu
  have hr43 : Item.φ (blk b1 (qn m) 26) w22_:=hr43
  refine ze rfl (c:=((qd m.heap 1 64) && ((qd m.full 1 4096) && ((qd ((m.comps.length : Nat) : Int) 1 4) && ((decide (((m.links.length : Nat) : Int) ≤ 16)) && ((decide (((m.shares.length : Nat) : Int) ≤ 4)) && true)))))) hu20 (fun hg22=>?_) (fun hg22=>⟨undef,rfl,(if_neg (by rw [hg22]; decide)).symm,qk⟩)
  refine qq (v:=.slice m.ca m.comps.length m.ccap) (Eq.trans hu21 (if_pos hg22)) ag22 (qh (hr43) rfl) rfl ?_
  exact ⟨.slice m.ca m.comps.length m.ccap,rfl,(if_pos hg22).symm,qk⟩
 ·intro f23_ w23_ X23_ qp qo qu qk
  obtain ⟨hu20,hu22,-⟩:=qo
  have hu20 : f23_ 23 = .bool ((qd m.heap 1 64) && ((qd m.full 1 4096) && ((qd ((m.comps.length : Nat) : Int) 1 4) && ((decide (((m.links.length : Nat) : Int) ≤ 16)) && ((decide (((m.shares.length : Nat) : Int) ≤ 4)) && true))))):=hu20
  have hu22 : f23_ 25 = if ((qd m.heap 1 64) && ((qd m.full 1 4096) && ((qd ((m.comps.length : Nat) : Int) 1 4) && ((decide (((m.links.length : Nat) : Int) ≤ 16)) && ((decide (((m.shares.length : Nat) : Int) ≤ 4)) && true))))) = true then .slice m.ca m.comps.length m.ccap else undef:=hu22
  refine ze rfl (c:=((qd m.heap 1 64) && ((qd m.full 1 4096) && ((qd ((m.comps.length : Nat) : Int) 1 4) && ((decide (((m.links.length : Nat) : Int) ≤ 16)) && ((decide (((m.shares.length : Nat) : Int) ≤ 4)) && true)))))) hu20 (fun hg23=>?_) (fun hg23=>⟨undef,rfl,(if_neg (by rw [hg23]; decide)).symm,qk⟩)
  refine zi (args:=[.slice m.ca m.comps.length m.ccap,.func (.func 51) #[] #[]]) rfl (by simp only [List.map_cons,List.map_nil,List.nil_append,List.cons_append,List.append_nil,ev,Value.cells,(Eq.trans hu22 (if_pos hg23))]) rfl en37 (all_comp m.ca m.ccap m.comps 51 [] (kf) _ (qk.getR 0 rfl) (by have:=hb.cl; have:=hb.ll; have:=hb.sl; omega) en51 (fun W hW x hx=>comp_c x W (hb.co x hx).1)) ?_
  rintro _ w24 ⟨rfl,hk26⟩
  have hs25:=qk.keep hk26
  exact ⟨.bool (m.comps.all kf),rfl,(if_pos hg23).symm,hs25⟩
 ·intro f24_ w24_ X24_ qp qo qu qk
  obtain ⟨hu20,hu23,-⟩:=qo
  have hu20 : f24_ 23 = .bool ((qd m.heap 1 64) && ((qd m.full 1 4096) && ((qd ((m.comps.length : Nat) : Int) 1 4) && ((decide (((m.links.length : Nat) : Int) ≤ 16)) && ((decide (((m.shares.length : Nat) : Int) ≤ 4)) && true))))):=hu20
  have hu23 : f24_ 26 = if ((qd m.heap 1 64) && ((qd m.full 1 4096) && ((qd ((m.comps.length : Nat) : Int) 1 4) && ((decide (((m.links.length : Nat) : Int) ≤ 16)) && ((decide (((m.shares.length : Nat) : Int) ≤ 4)) && true))))) = true then .bool (m.comps.all kf) else undef:=hu23
  refine qe rfl (ka hu20 (by simp only [ev,hu23]; exact j1 _ _) rfl ?_)
  exact ⟨.bool (((qd m.heap 1 64) && ((qd m.full 1 4096) && ((qd ((m.comps.length : Nat) : Int) 1 4) && ((decide (((m.links.length : Nat) : Int) ≤ 16)) && ((decide (((m.shares.length : Nat) : Int) ≤ 4)) && true))))) && (m.comps.all kf)),rfl,rfl,qk⟩
 ·intro f25_ w25_ X25_ qp qo qu qk
  obtain ⟨hu24,-⟩:=qo
  have hu24 : f25_ 27 = .bool (((qd m.heap 1 64) && ((qd m.full 1 4096) && ((qd ((m.comps.length : Nat) : Int) 1 4) && ((decide (((m.links.length : Nat) : Int) ≤ 16)) && ((decide (((m.shares.length : Nat) : Int) ≤ 4)) && true))))) && (m.comps.all kf)):=hu24
  refine qe rfl (qj (v:=.bool (((qd m.heap 1 64) && ((qd m.full 1 4096) && ((qd ((m.comps.length : Nat) : Int) 1 4) && ((decide (((m.links.length : Nat) : Int) ≤ 16)) && ((decide (((m.shares.length : Nat) : Int) ≤ 4)) && true))))) && (m.comps.all kf))) hu24 rfl ?_)
  exact ⟨.bool (((qd m.heap 1 64) && ((qd m.full 1 4096) && ((qd ((m.comps.length : Nat) : Int) 1 4) && ((decide (((m.links.length : Nat) : Int) ≤ 16)) && ((decide (((m.shares.length : Nat) : Int) ≤ 4)) && true))))) && (m.comps.all kf)),rfl,rfl,qk⟩
 ·intro f26_ w26_ X26_ qp qo qu qk
  obtain ⟨hu25,-⟩:=qo
  have hu25 : f26_ 28 = .bool (((qd m.heap 1 64) && ((qd m.full 1 4096) && ((qd ((m.comps.length : Nat) : Int) 1 4) && ((decide (((m.links.length : Nat) : Int) ≤ 16)) && ((decide (((m.shares.length : Nat) : Int) ≤ 4)) && true))))) && (m.comps.all kf)):=hu25
  have hb1 : f26_ 1 = .pointer (some ⟨b1,0,none⟩):=(qp 1 rfl)
  refine ze rfl (c:=(((qd m.heap 1 64) && ((qd m.full 1 4096) && ((qd ((m.comps.length : Nat) : Int) 1 4) && ((decide (((m.links.length : Nat) : Int) ≤ 16)) && ((decide (((m.shares.length : Nat) : Int) ≤ 4)) && true))))) && (m.comps.all kf))) hu25 (fun hg27=>?_) (fun hg27=>⟨undef,rfl,(if_neg (by rw [hg27]; decide)).symm,qk⟩)
  refine qg hb1 xx rfl (o':=4) rfl rfl ?_
  exact ⟨.pointer (some ⟨b1,4,none⟩),rfl,(if_pos hg27).symm,qk⟩
 ·intro f27_ w27_ X27_ qp qo qu qk
  obtain ⟨hu25,hu26,-⟩:=qo
  have hu25 : f27_ 28 = .bool (((qd m.heap 1 64) && ((qd m.full 1 4096) && ((qd ((m.comps.length : Nat) : Int) 1 4) && ((decide (((m.links.length : Nat) : Int) ≤ 16)) && ((decide (((m.shares.length : Nat) : Int) ≤ 4)) && true))))) && (m.comps.all kf)):=hu25
  have hu26 : f27_ 29 = if (((qd m.heap 1 64) && ((qd m.full 1 4096) && ((qd ((m.comps.length : Nat) : Int) 1 4) && ((decide (((m.links.length : Nat) : Int) ≤ 16)) && ((decide (((m.shares.length : Nat) : Int) ≤ 4)) && true))))) && (m.comps.all kf)) = true then .pointer (some ⟨b1,4,none⟩) else undef:=hu26
  obtain ⟨hr43,-⟩:=qu
  have hr43 : Item.φ (blk b1 (qn m) 26) w27_:=hr43
  refine ze rfl (c:=(((qd m.heap 1 64) && ((qd m.full 1 4096) && ((qd ((m.comps.length : Nat) : Int) 1 4) && ((decide (((m.links.length : Nat) : Int) ≤ 16)) && ((decide (((m.shares.length : Nat) : Int) ≤ 4)) && true))))) && (m.comps.all kf))) hu25 (fun hg28=>?_) (fun hg28=>⟨undef,rfl,(if_neg (by rw [hg28]; decide)).symm,qk⟩)
  refine qq (v:=.slice m.la m.links.length m.lcap) (Eq.trans hu26 (if_pos hg28)) ag23 (qh (hr43) rfl) rfl ?_
  exact ⟨.slice m.la m.links.length m.lcap,rfl,(if_pos hg28).symm,qk⟩
 ·intro f28_ w28_ X28_ qp qo qu qk
  obtain ⟨hu25,-⟩:=qo
  have hu25 : f28_ 28 = .bool (((qd m.heap 1 64) && ((qd m.full 1 4096) && ((qd ((m.comps.length : Nat) : Int) 1 4) && ((decide (((m.links.length : Nat) : Int) ≤ 16)) && ((decide (((m.shares.length : Nat) : Int) ≤ 4)) && true))))) && (m.comps.all kf)):=hu25
  have hb1 : f28_ 1 = .pointer (some ⟨b1,0,none⟩):=(qp 1 rfl)
  refine ze rfl (c:=(((qd m.heap 1 64) && ((qd m.full 1 4096) && ((qd ((m.comps.length : Nat) : Int) 1 4) && ((decide (((m.links.length : Nat) : Int) ≤ 16)) && ((decide (((m.shares.length : Nat) : Int) ≤ 4)) && true))))) && (m.comps.all kf))) hu25 (fun hg29=>?_) (fun hg29=>⟨undef,rfl,(if_neg (by rw [hg29]; decide)).symm,qk⟩)
  refine yh (fi:=[]) (cap:=[.pointer (some ⟨b1,0,none⟩)]) rfl (by simp only [List.map_cons,List.map_nil,List.nil_append,List.cons_append,List.append_nil,ev,Value.cells,hb1]) rfl ?_
  exact ⟨.func (.func 53) #[] #[.pointer (some ⟨b1,0,none⟩)],rfl,(if_pos hg29).symm,qk⟩
 ·intro f29_ w29_ X29_ qp qo qu qk
  obtain ⟨hu25,hu27,hu28,-⟩:=qo
  have hu25 : f29_ 28 = .bool (((qd m.heap 1 64) && ((qd m.full 1 4096) && ((qd ((m.comps.length : Nat) : Int) 1 4) && ((decide (((m.links.length : Nat) : Int) ≤ 16)) && ((decide (((m.shares.length : Nat) : Int) ≤ 4)) && true))))) && (m.comps.all kf)):=hu25
  have hu27 : f29_ 30 = if (((qd m.heap 1 64) && ((qd m.full 1 4096) && ((qd ((m.comps.length : Nat) : Int) 1 4) && ((decide (((m.links.length : Nat) : Int) ≤ 16)) && ((decide (((m.shares.length : Nat) : Int) ≤ 4)) && true))))) && (m.comps.all kf)) = true then .slice m.la m.links.length m.lcap else undef:=hu27
  have hu28 : f29_ 31 = if (((qd m.heap 1 64) && ((qd m.full 1 4096) && ((qd ((m.comps.length : Nat) : Int) 1 4) && ((decide (((m.links.length : Nat) : Int) ≤ 16)) && ((decide (((m.shares.length : Nat) : Int) ≤ 4)) && true))))) && (m.comps.all kf)) = true then .func (.func 53) #[] #[.pointer (some ⟨b1,0,none⟩)] else undef:=hu28
  obtain ⟨hr43,-⟩:=qu
  have hr43 : Item.φ (blk b1 (qn m) 26) w29_:=hr43
  refine ze rfl (c:=(((qd m.heap 1 64) && ((qd m.full 1 4096) && ((qd ((m.comps.length : Nat) : Int) 1 4) && ((decide (((m.links.length : Nat) : Int) ≤ 16)) && ((decide (((m.shares.length : Nat) : Int) ≤ 4)) && true))))) && (m.comps.all kf))) hu25 (fun hg30=>?_) (fun hg30=>⟨undef,rfl,(if_neg (by rw [hg30]; decide)).symm,qk⟩)
  refine zi (args:=[.slice m.la m.links.length m.lcap,.func (.func 53) #[] #[.pointer (some ⟨b1,0,none⟩)]]) rfl (by simp only [List.map_cons,List.map_nil,List.nil_append,List.cons_append,List.append_nil,ev,Value.cells,(Eq.trans hu27 (if_pos hg30)),(Eq.trans hu28 (if_pos hg30))]) rfl en52 (all_link m.la m.lcap m.links 53 [.pointer (some ⟨b1,0,none⟩)] (km m) _ (qk.getR 1 rfl) (by have:=hb.cl; have:=hb.ll; have:=hb.sl; omega) en53 (fun W hW x hx=>form1_c m x b1 W (Item.grow (hr43) hW) ((qk.keep hW).r) hb ((form_n hg30).1))) ?_
  rintro _ w31 ⟨rfl,hk33⟩
  have hs32:=qk.keep hk33
  exact ⟨.bool (m.links.all (km m)),rfl,(if_pos hg30).symm,hs32⟩
 ·intro f30_ w30_ X30_ qp qo qu qk
  obtain ⟨hu25,hu29,-⟩:=qo
  have hu25 : f30_ 28 = .bool (((qd m.heap 1 64) && ((qd m.full 1 4096) && ((qd ((m.comps.length : Nat) : Int) 1 4) && ((decide (((m.links.length : Nat) : Int) ≤ 16)) && ((decide (((m.shares.length : Nat) : Int) ≤ 4)) && true))))) && (m.comps.all kf)):=hu25
  have hu29 : f30_ 32 = if (((qd m.heap 1 64) && ((qd m.full 1 4096) && ((qd ((m.comps.length : Nat) : Int) 1 4) && ((decide (((m.links.length : Nat) : Int) ≤ 16)) && ((decide (((m.shares.length : Nat) : Int) ≤ 4)) && true))))) && (m.comps.all kf)) = true then .bool (m.links.all (km m)) else undef:=hu29
  refine qe rfl (ka hu25 (by simp only [ev,hu29]; exact j1 _ _) rfl ?_)
  exact ⟨.bool ((((qd m.heap 1 64) && ((qd m.full 1 4096) && ((qd ((m.comps.length : Nat) : Int) 1 4) && ((decide (((m.links.length : Nat) : Int) ≤ 16)) && ((decide (((m.shares.length : Nat) : Int) ≤ 4)) && true))))) && (m.comps.all kf)) && (m.links.all (km m))),rfl,rfl,qk⟩
 ·intro f31_ w31_ X31_ qp qo qu qk
  obtain ⟨hu30,-⟩:=qo
  have hu30 : f31_ 33 = .bool ((((qd m.heap 1 64) && ((qd m.full 1 4096) && ((qd ((m.comps.length : Nat) : Int) 1 4) && ((decide (((m.links.length : Nat) : Int) ≤ 16)) && ((decide (((m.shares.length : Nat) : Int) ≤ 4)) && true))))) && (m.comps.all kf)) && (m.links.all (km m))):=hu30
  refine qe rfl (qj (v:=.bool ((((qd m.heap 1 64) && ((qd m.full 1 4096) && ((qd ((m.comps.length : Nat) : Int) 1 4) && ((decide (((m.links.length : Nat) : Int) ≤ 16)) && ((decide (((m.shares.length : Nat) : Int) ≤ 4)) && true))))) && (m.comps.all kf)) && (m.links.all (km m)))) hu30 rfl ?_)
  exact ⟨.bool ((((qd m.heap 1 64) && ((qd m.full 1 4096) && ((qd ((m.comps.length : Nat) : Int) 1 4) && ((decide (((m.links.length : Nat) : Int) ≤ 16)) && ((decide (((m.shares.length : Nat) : Int) ≤ 4)) && true))))) && (m.comps.all kf)) && (m.links.all (km m))),rfl,rfl,qk⟩
 ·intro f32_ w32_ X32_ qp qo qu qk
  obtain ⟨hu31,-⟩:=qo
  have hu31 : f32_ 34 = .bool ((((qd m.heap 1 64) && ((qd m.full 1 4096) && ((qd ((m.comps.length : Nat) : Int) 1 4) && ((decide (((m.links.length : Nat) : Int) ≤ 16)) && ((decide (((m.shares.length : Nat) : Int) ≤ 4)) && true))))) && (m.comps.all kf)) && (m.links.all (km m))):=hu31
  have hb1 : f32_ 1 = .pointer (some ⟨b1,0,none⟩):=(qp 1 rfl)
  refine ze rfl (c:=((((qd m.heap 1 64) && ((qd m.full 1 4096) && ((qd ((m.comps.length : Nat) : Int) 1 4) && ((decide (((m.links.length : Nat) : Int) ≤ 16)) && ((decide (((m.shares.length : Nat) : Int) ≤ 4)) && true))))) && (m.comps.all kf)) && (m.links.all (km m)))) hu31 (fun hg34=>?_) (fun hg34=>⟨undef,rfl,(if_neg (by rw [hg34]; decide)).symm,qk⟩)
  refine qg hb1 xx rfl (o':=4) rfl rfl ?_
  exact ⟨.pointer (some ⟨b1,4,none⟩),rfl,(if_pos hg34).symm,qk⟩
 ·intro f33_ w33_ X33_ qp qo qu qk
  obtain ⟨hu31,hu32,-⟩:=qo
  have hu31 : f33_ 34 = .bool ((((qd m.heap 1 64) && ((qd m.full 1 4096) && ((qd ((m.comps.length : Nat) : Int) 1 4) && ((decide (((m.links.length : Nat) : Int) ≤ 16)) && ((decide (((m.shares.length : Nat) : Int) ≤ 4)) && true))))) && (m.comps.all kf)) && (m.links.all (km m))):=hu31
  have hu32 : f33_ 35 = if ((((qd m.heap 1 64) && ((qd m.full 1 4096) && ((qd ((m.comps.length : Nat) : Int) 1 4) && ((decide (((m.links.length : Nat) : Int) ≤ 16)) && ((decide (((m.shares.length : Nat) : Int) ≤ 4)) && true))))) && (m.comps.all kf)) && (m.links.all (km m))) = true then .pointer (some ⟨b1,4,none⟩) else undef:=hu32
  obtain ⟨hr43,-⟩:=qu
  have hr43 : Item.φ (blk b1 (qn m) 26) w33_:=hr43
  refine ze rfl (c:=((((qd m.heap 1 64) && ((qd m.full 1 4096) && ((qd ((m.comps.length : Nat) : Int) 1 4) && ((decide (((m.links.length : Nat) : Int) ≤ 16)) && ((decide (((m.shares.length : Nat) : Int) ≤ 4)) && true))))) && (m.comps.all kf)) && (m.links.all (km m)))) hu31 (fun hg35=>?_) (fun hg35=>⟨undef,rfl,(if_neg (by rw [hg35]; decide)).symm,qk⟩)
  refine qq (v:=.slice m.la m.links.length m.lcap) (Eq.trans hu32 (if_pos hg35)) ag23 (qh (hr43) rfl) rfl ?_
  exact ⟨.slice m.la m.links.length m.lcap,rfl,(if_pos hg35).symm,qk⟩
 ·intro f34_ w34_ X34_ qp qo qu qk
  obtain ⟨hu31,hu33,-⟩:=qo
  have hu31 : f34_ 34 = .bool ((((qd m.heap 1 64) && ((qd m.full 1 4096) && ((qd ((m.comps.length : Nat) : Int) 1 4) && ((decide (((m.links.length : Nat) : Int) ≤ 16)) && ((decide (((m.shares.length : Nat) : Int) ≤ 4)) && true))))) && (m.comps.all kf)) && (m.links.all (km m))):=hu31
  have hu33 : f34_ 36 = if ((((qd m.heap 1 64) && ((qd m.full 1 4096) && ((qd ((m.comps.length : Nat) : Int) 1 4) && ((decide (((m.links.length : Nat) : Int) ≤ 16)) && ((decide (((m.shares.length : Nat) : Int) ≤ 4)) && true))))) && (m.comps.all kf)) && (m.links.all (km m))) = true then .slice m.la m.links.length m.lcap else undef:=hu33
  refine ze rfl (c:=((((qd m.heap 1 64) && ((qd m.full 1 4096) && ((qd ((m.comps.length : Nat) : Int) 1 4) && ((decide (((m.links.length : Nat) : Int) ≤ 16)) && ((decide (((m.shares.length : Nat) : Int) ≤ 4)) && true))))) && (m.comps.all kf)) && (m.links.all (km m)))) hu31 (fun hg36=>?_) (fun hg36=>⟨undef,rfl,(if_neg (by rw [hg36]; decide)).symm,qk⟩)
  refine zi (args:=[.slice m.la m.links.length m.lcap]) rfl (by simp only [List.map_cons,List.map_nil,List.nil_append,List.cons_append,List.append_nil,ev,Value.cells,(Eq.trans hu33 (if_pos hg36))]) rfl en55 (many_c m.la m.lcap m.links _ (qk.getR 1 rfl) hb.ll (form_fr hg36)) ?_
  rintro _ w37 ⟨rfl,hk39⟩
  have hs38:=qk.keep hk39
  exact ⟨.bool (jr m.links),rfl,(if_pos hg36).symm,hs38⟩
 ·intro f35_ w35_ X35_ qp qo qu qk
  obtain ⟨hu31,hu34,-⟩:=qo
  have hu31 : f35_ 34 = .bool ((((qd m.heap 1 64) && ((qd m.full 1 4096) && ((qd ((m.comps.length : Nat) : Int) 1 4) && ((decide (((m.links.length : Nat) : Int) ≤ 16)) && ((decide (((m.shares.length : Nat) : Int) ≤ 4)) && true))))) && (m.comps.all kf)) && (m.links.all (km m))):=hu31
  have hu34 : f35_ 37 = if ((((qd m.heap 1 64) && ((qd m.full 1 4096) && ((qd ((m.comps.length : Nat) : Int) 1 4) && ((decide (((m.links.length : Nat) : Int) ≤ 16)) && ((decide (((m.shares.length : Nat) : Int) ≤ 4)) && true))))) && (m.comps.all kf)) && (m.links.all (km m))) = true then .bool (jr m.links) else undef:=hu34
  refine qe rfl (ka hu31 (by simp only [ev,hu34]; exact j1 _ _) rfl ?_)
  exact ⟨.bool (((((qd m.heap 1 64) && ((qd m.full 1 4096) && ((qd ((m.comps.length : Nat) : Int) 1 4) && ((decide (((m.links.length : Nat) : Int) ≤ 16)) && ((decide (((m.shares.length : Nat) : Int) ≤ 4)) && true))))) && (m.comps.all kf)) && (m.links.all (km m))) && (jr m.links)),rfl,rfl,qk⟩
 ·intro f36_ w36_ X36_ qp qo qu qk
  obtain ⟨hu35,-⟩:=qo
  have hu35 : f36_ 38 = .bool (((((qd m.heap 1 64) && ((qd m.full 1 4096) && ((qd ((m.comps.length : Nat) : Int) 1 4) && ((decide (((m.links.length : Nat) : Int) ≤ 16)) && ((decide (((m.shares.length : Nat) : Int) ≤ 4)) && true))))) && (m.comps.all kf)) && (m.links.all (km m))) && (jr m.links)):=hu35
  refine qe rfl (qj (v:=.bool (((((qd m.heap 1 64) && ((qd m.full 1 4096) && ((qd ((m.comps.length : Nat) : Int) 1 4) && ((decide (((m.links.length : Nat) : Int) ≤ 16)) && ((decide (((m.shares.length : Nat) : Int) ≤ 4)) && true))))) && (m.comps.all kf)) && (m.links.all (km m))) && (jr m.links))) hu35 rfl ?_)
  exact ⟨.bool (((((qd m.heap 1 64) && ((qd m.full 1 4096) && ((qd ((m.comps.length : Nat) : Int) 1 4) && ((decide (((m.links.length : Nat) : Int) ≤ 16)) && ((decide (((m.shares.length : Nat) : Int) ≤ 4)) && true))))) && (m.comps.all kf)) && (m.links.all (km m))) && (jr m.links)),rfl,rfl,qk⟩
 ·intro f37_ w37_ X37_ qp qo qu qk
  obtain ⟨hu36,-⟩:=qo
  have hu36 : f37_ 39 = .bool (((((qd m.heap 1 64) && ((qd m.full 1 4096) && ((qd ((m.comps.length : Nat) : Int) 1 4) && ((decide (((m.links.length : Nat) : Int) ≤ 16)) && ((decide (((m.shares.length : Nat) : Int) ≤ 4)) && true))))) && (m.comps.all kf)) && (m.links.all (km m))) && (jr m.links)):=hu36
  have hb1 : f37_ 1 = .pointer (some ⟨b1,0,none⟩):=(qp 1 rfl)
  refine ze rfl (c:=(((((qd m.heap 1 64) && ((qd m.full 1 4096) && ((qd ((m.comps.length : Nat) : Int) 1 4) && ((decide (((m.links.length : Nat) : Int) ≤ 16)) && ((decide (((m.shares.length : Nat) : Int) ≤ 4)) && true))))) && (m.comps.all kf)) && (m.links.all (km m))) && (jr m.links))) hu36 (fun hg40=>?_) (fun hg40=>⟨undef,rfl,(if_neg (by rw [hg40]; decide)).symm,qk⟩)
  refine qg hb1 xo rfl (o':=5) rfl rfl ?_
  exact ⟨.pointer (some ⟨b1,5,none⟩),rfl,(if_pos hg40).symm,qk⟩
 ·intro f38_ w38_ X38_ qp qo qu qk
  obtain ⟨hu36,hu37,-⟩:=qo
  have hu36 : f38_ 39 = .bool (((((qd m.heap 1 64) && ((qd m.full 1 4096) && ((qd ((m.comps.length : Nat) : Int) 1 4) && ((decide (((m.links.length : Nat) : Int) ≤ 16)) && ((decide (((m.shares.length : Nat) : Int) ≤ 4)) && true))))) && (m.comps.all kf)) && (m.links.all (km m))) && (jr m.links)):=hu36
  have hu37 : f38_ 40 = if (((((qd m.heap 1 64) && ((qd m.full 1 4096) && ((qd ((m.comps.length : Nat) : Int) 1 4) && ((decide (((m.links.length : Nat) : Int) ≤ 16)) && ((decide (((m.shares.length : Nat) : Int) ≤ 4)) && true))))) && (m.comps.all kf)) && (m.links.all (km m))) && (jr m.links)) = true then .pointer (some ⟨b1,5,none⟩) else undef:=hu37
  obtain ⟨hr43,-⟩:=qu
  have hr43 : Item.φ (blk b1 (qn m) 26) w38_:=hr43
  refine ze rfl (c:=(((((qd m.heap 1 64) && ((qd m.full 1 4096) && ((qd ((m.comps.length : Nat) : Int) 1 4) && ((decide (((m.links.length : Nat) : Int) ≤ 16)) && ((decide (((m.shares.length : Nat) : Int) ≤ 4)) && true))))) && (m.comps.all kf)) && (m.links.all (km m))) && (jr m.links))) hu36 (fun hg41=>?_) (fun hg41=>⟨undef,rfl,(if_neg (by rw [hg41]; decide)).symm,qk⟩)
  refine qq (v:=.slice m.sa m.shares.length m.scap) (Eq.trans hu37 (if_pos hg41)) ag24 (qh (hr43) rfl) rfl ?_
  exact ⟨.slice m.sa m.shares.length m.scap,rfl,(if_pos hg41).symm,qk⟩
 ·intro f39_ w39_ X39_ qp qo qu qk
  obtain ⟨hu36,-⟩:=qo
  have hu36 : f39_ 39 = .bool (((((qd m.heap 1 64) && ((qd m.full 1 4096) && ((qd ((m.comps.length : Nat) : Int) 1 4) && ((decide (((m.links.length : Nat) : Int) ≤ 16)) && ((decide (((m.shares.length : Nat) : Int) ≤ 4)) && true))))) && (m.comps.all kf)) && (m.links.all (km m))) && (jr m.links)):=hu36
  have hb1 : f39_ 1 = .pointer (some ⟨b1,0,none⟩):=(qp 1 rfl)
  refine ze rfl (c:=(((((qd m.heap 1 64) && ((qd m.full 1 4096) && ((qd ((m.comps.length : Nat) : Int) 1 4) && ((decide (((m.links.length : Nat) : Int) ≤ 16)) && ((decide (((m.shares.length : Nat) : Int) ≤ 4)) && true))))) && (m.comps.all kf)) && (m.links.all (km m))) && (jr m.links))) hu36 (fun hg42=>?_) (fun hg42=>⟨undef,rfl,(if_neg (by rw [hg42]; decide)).symm,qk⟩)
  refine yh (fi:=[]) (cap:=[.pointer (some ⟨b1,0,none⟩)]) rfl (by simp only [List.map_cons,List.map_nil,List.nil_append,List.cons_append,List.append_nil,ev,Value.cells,hb1]) rfl ?_
  exact ⟨.func (.func 57) #[] #[.pointer (some ⟨b1,0,none⟩)],rfl,(if_pos hg42).symm,qk⟩
 ·intro f40_ w40_ X40_ qp qo qu qk
  obtain ⟨hu36,hu38,hu39,-⟩:=qo
  have hu36 : f40_ 39 = .bool (((((qd m.heap 1 64) && ((qd m.full 1 4096) && ((qd ((m.comps.length : Nat) : Int) 1 4) && ((decide (((m.links.length : Nat) : Int) ≤ 16)) && ((decide (((m.shares.length : Nat) : Int) ≤ 4)) && true))))) && (m.comps.all kf)) && (m.links.all (km m))) && (jr m.links)):=hu36
  have hu38 : f40_ 41 = if (((((qd m.heap 1 64) && ((qd m.full 1 4096) && ((qd ((m.comps.length : Nat) : Int) 1 4) && ((decide (((m.links.length : Nat) : Int) ≤ 16)) && ((decide (((m.shares.length : Nat) : Int) ≤ 4)) && true))))) && (m.comps.all kf)) && (m.links.all (km m))) && (jr m.links)) = true then .slice m.sa m.shares.length m.scap else undef:=hu38
  have hu39 : f40_ 42 = if (((((qd m.heap 1 64) && ((qd m.full 1 4096) && ((qd ((m.comps.length : Nat) : Int) 1 4) && ((decide (((m.links.length : Nat) : Int) ≤ 16)) && ((decide (((m.shares.length : Nat) : Int) ≤ 4)) && true))))) && (m.comps.all kf)) && (m.links.all (km m))) && (jr m.links)) = true then .func (.func 57) #[] #[.pointer (some ⟨b1,0,none⟩)] else undef:=hu39
  obtain ⟨hr43,-⟩:=qu
  have hr43 : Item.φ (blk b1 (qn m) 26) w40_:=hr43
  refine ze rfl (c:=(((((qd m.heap 1 64) && ((qd m.full 1 4096) && ((qd ((m.comps.length : Nat) : Int) 1 4) && ((decide (((m.links.length : Nat) : Int) ≤ 16)) && ((decide (((m.shares.length : Nat) : Int) ≤ 4)) && true))))) && (m.comps.all kf)) && (m.links.all (km m))) && (jr m.links))) hu36 (fun hg43=>?_) (fun hg43=>⟨undef,rfl,(if_neg (by rw [hg43]; decide)).symm,qk⟩)
  refine zi (args:=[.slice m.sa m.shares.length m.scap,.func (.func 57) #[] #[.pointer (some ⟨b1,0,none⟩)]]) rfl (by simp only [List.map_cons,List.map_nil,List.nil_append,List.cons_append,List.append_nil,ev,Value.cells,(Eq.trans hu38 (if_pos hg43)),(Eq.trans hu39 (if_pos hg43))]) rfl en56 (all_share m.sa m.scap m.shares 57 [.pointer (some ⟨b1,0,none⟩)] (jm m) _ (qk.getR 2 rfl) (by have:=hb.cl; have:=hb.ll; have:=hb.sl; omega) en57 (fun W hW x hx=>form2_c m x b1 W (Item.grow (hr43) hW) ((qk.keep hW).r) hb ((form_n2 hg43)))) ?_
  rintro _ w44 ⟨rfl,hk46⟩
  have hs45:=qk.keep hk46
  exact ⟨.bool (m.shares.all (jm m)),rfl,(if_pos hg43).symm,hs45⟩
 ·intro f41_ w41_ X41_ qp qo qu qk
  obtain ⟨hu36,hu40,-⟩:=qo
  have hu36 : f41_ 39 = .bool (((((qd m.heap 1 64) && ((qd m.full 1 4096) && ((qd ((m.comps.length : Nat) : Int) 1 4) && ((decide (((m.links.length : Nat) : Int) ≤ 16)) && ((decide (((m.shares.length : Nat) : Int) ≤ 4)) && true))))) && (m.comps.all kf)) && (m.links.all (km m))) && (jr m.links)):=hu36
  have hu40 : f41_ 43 = if (((((qd m.heap 1 64) && ((qd m.full 1 4096) && ((qd ((m.comps.length : Nat) : Int) 1 4) && ((decide (((m.links.length : Nat) : Int) ≤ 16)) && ((decide (((m.shares.length : Nat) : Int) ≤ 4)) && true))))) && (m.comps.all kf)) && (m.links.all (km m))) && (jr m.links)) = true then .bool (m.shares.all (jm m)) else undef:=hu40
  refine qe rfl (ka hu36 (by simp only [ev,hu40]; exact j1 _ _) rfl ?_)
  exact ⟨.bool ((((((qd m.heap 1 64) && ((qd m.full 1 4096) && ((qd ((m.comps.length : Nat) : Int) 1 4) && ((decide (((m.links.length : Nat) : Int) ≤ 16)) && ((decide (((m.shares.length : Nat) : Int) ≤ 4)) && true))))) && (m.comps.all kf)) && (m.links.all (km m))) && (jr m.links)) && (m.shares.all (jm m))),rfl,rfl,qk⟩
 ·intro f42_ w42_ X42_ qp qo qu qk
  obtain ⟨hu41,-⟩:=qo
  have hu41 : f42_ 44 = .bool ((((((qd m.heap 1 64) && ((qd m.full 1 4096) && ((qd ((m.comps.length : Nat) : Int) 1 4) && ((decide (((m.links.length : Nat) : Int) ≤ 16)) && ((decide (((m.shares.length : Nat) : Int) ≤ 4)) && true))))) && (m.comps.all kf)) && (m.links.all (km m))) && (jr m.links)) && (m.shares.all (jm m))):=hu41
  refine qe rfl (qf (v:=.bool ((((((qd m.heap 1 64) && ((qd m.full 1 4096) && ((qd ((m.comps.length : Nat) : Int) 1 4) && ((decide (((m.links.length : Nat) : Int) ≤ 16)) && ((decide (((m.shares.length : Nat) : Int) ≤ 4)) && true))))) && (m.comps.all kf)) && (m.links.all (km m))) && (jr m.links)) && (m.shares.all (jm m)))) hu41 rfl ?_)
  exact ⟨.bool ((((((qd m.heap 1 64) && ((qd m.full 1 4096) && ((qd ((m.comps.length : Nat) : Int) 1 4) && ((decide (((m.links.length : Nat) : Int) ≤ 16)) && ((decide (((m.shares.length : Nat) : Int) ≤ 4)) && true))))) && (m.comps.all kf)) && (m.links.all (km m))) && (jr m.links)) && (m.shares.all (jm m))),rfl,rfl,qk⟩
 intro f47 w48 qp qo hs49
 obtain ⟨hu18,hu42,-⟩:=qo
 obtain ⟨b14,hu18⟩:=(show ∃ b14 : Nat,f47 21 = .slice (some ⟨b14,0,none⟩) 5 5 from hu18)
 have hu42 : f47 2 = .bool ((((((qd m.heap 1 64) && ((qd m.full 1 4096) && ((qd ((m.comps.length : Nat) : Int) 1 4) && ((decide (((m.links.length : Nat) : Int) ≤ 16)) && ((decide (((m.shares.length : Nat) : Int) ≤ 4)) && true))))) && (m.comps.all kf)) && (m.links.all (km m))) && (jr m.links)) && (m.shares.all (jm m))):=hu42
 have hs49 : St _ _ _ [blk (vblk (f47 21)) [.bool (qd m.heap 1 64),.bool (qd m.full 1 4096),.bool (qd ((m.comps.length : Nat) : Int) 1 4),.bool (decide (((m.links.length : Nat) : Int) ≤ 16)),.bool (decide (((m.shares.length : Nat) : Int) ≤ 4))] 4,blk b1 (qn m) 26] _:=hs49
 simp only [hu18,vblk,zf,vcap,z3] at hs49
 have hs49 : St _ _ _ [blk b14 [.bool (qd m.heap 1 64),.bool (qd m.full 1 4096),.bool (qd ((m.comps.length : Nat) : Int) 1 4),.bool (decide (((m.links.length : Nat) : Int) ≤ 16)),.bool (decide (((m.shares.length : Nat) : Int) ≤ 4))] 4,blk b1 (qn m) 26] _:=hs49
 rewrite [qm hu42]
 refine qb (zo ?_)
 refine ⟨.bool ((((((qd m.heap 1 64) && ((qd m.full 1 4096) && ((qd ((m.comps.length : Nat) : Int) 1 4) && ((decide (((m.links.length : Nat) : Int) ≤ 16)) && ((decide (((m.shares.length : Nat) : Int) ≤ 4)) && true))))) && (m.comps.all kf)) && (m.links.all (km m))) && (jr m.links)) && (m.shares.all (jm m))),res1 rfl,?_⟩
 exact ⟨congrArg Value.bool (by simp [jo,form0S,Bool.and_assoc]),hs49.base⟩

/-- seizin/image.Right$1 -/
theorem right1_c (m : ImageV) (x : CompV) (b : Nat) (w : World) (h : (blk b (qn m) 26).φ w) (hm : ∀ i ∈ kh m,i.φ w) (hb : ImgB m) (hx : x ∈ m.comps) :
  C Try.prog 38 [.agg #[.slice x.a x.code.length x.cap,vI x.data],.pointer (some ⟨b,0,none⟩)] w fun v w'=>v = .bool (xl x m.strict) ∧ Grow w w':=by
 have hs0 : St w (fun _=>False) w [] [blk b (qn m) 26,arrI zu 2 m.ca m.comps,arrI z1 3 m.la m.links,arrI zw 2 m.sa m.shares,ko m.comps]:=St.start w _ (List.forall_mem_cons.2 ⟨h,hm⟩)
 refine z8 [.tmp 3] 8 Try.func38 rfl Try.ntmps38 rfl rfl ?_
 refine qi (qc ?_)
 refine qa rfl (jw (v:=.agg #[.slice x.a x.code.length x.cap,vI x.data]) (cs:=[.slice x.a x.code.length x.cap,vI x.data]) hs0 rfl rfl rfl ?_)
 intro b1 w2 hb4 hs3
 refine qa rfl (qf (v:=.bool false) rfl rfl ?_)
 refine ql (qb (qi (qc ?_)))
 refine qa rfl (qw (vs:=[.slice x.a x.code.length x.cap,vI x.data]) rfl ag53 sz53 (Rd.of_blk (hs3.get 0 rfl) 0 2) rfl rfl ?_)
 refine qa rfl (qg rfl fd26_0 rfl (o':=0) rfl rfl ?_)
 refine qa rfl (qq (v:=.bool m.strict) rfl ag4 (qh (hs3.getR 0 rfl) rfl) rfl ?_)
 refine qa rfl (zi (args:=[.agg #[.slice x.a x.code.length x.cap,vI x.data],.bool m.strict]) rfl rfl rfl en39 (runs_c x m.strict _ (hs3.getR 4 rfl x hx) (hb.co x hx).1 (hb.co x hx).2.1) ?_)
 rintro _ w5 ⟨rfl,hk7⟩
 have hs6:=hs3.keep hk7
 refine qa rfl (qf (v:=.bool (xl x m.strict)) rfl rfl ?_)
 refine ql (qb (zo ?_))
 refine ⟨.bool (xl x m.strict),res1 rfl,?_⟩
 exact ⟨rfl,hs6.base⟩

/-- seizin/image.Right -/
theorem iright_c (m : ImageV) (w : World) (hm : ∀ i ∈ kh m,i.φ w) (hb : ImgB m) :
  C Try.prog 14 [.agg (qn m).toArray] w fun v w'=>v = .bool (z2 m) ∧ Grow w w':=by
 have hs0 : St w (fun _=>False) w [] (kh m):=St.start w _ hm
 refine z8 [.tmp 2] 11 Try.func14 rfl Try.ntmps14 rfl rfl ?_
 refine qi (qc ?_)
 refine qa rfl (jw (v:=.agg (qn m).toArray) (cs:=(qn m)) hs0 rfl rfl rfl ?_)
 intro b1 w2 hb4 hs3
 refine qa rfl (qf (v:=.bool false) rfl rfl ?_)
 refine ql (qb (qi (qc ?_)))
 refine qa rfl (qw (vs:=(qn m)) rfl ag26 sz26 (Rd.of_blk (hs3.get 0 rfl) 0 6) rfl rfl ?_)
 refine qa rfl (zi (args:=[.agg (qn m).toArray]) rfl rfl rfl en34 (form_c m _ (hs3.r) hb) ?_)
 rintro _ w5 ⟨rfl,hk7⟩
 have hs6:=hs3.keep hk7
 refine qa rfl (qj (v:=.bool (jo m)) rfl rfl ?_)
 refine kn (v:=.pointer (some ⟨b1,3,none⟩)) rfl rfl rfl rfl (fun hg8=>qg rfl jq rfl (o':=3) rfl rfl ⟨rfl,rfl⟩) ?_
 refine kn (v:=.slice m.ca m.comps.length m.ccap) rfl rfl rfl rfl (fun hg9=>qq (v:=.slice m.ca m.comps.length m.ccap) (show ev _ _ = .pointer (some ⟨b1,3,none⟩) from if_pos hg9) ag22 (qh (hs6.get 0 rfl) rfl) rfl ⟨rfl,rfl⟩) ?_
 refine kn (v:=.func (.func 38) #[] #[.pointer (some ⟨b1,0,none⟩)]) rfl rfl rfl rfl (fun hg10=>yh (fi:=[]) (cap:=[.pointer (some ⟨b1,0,none⟩)]) rfl rfl rfl ⟨rfl,rfl⟩) ?_
 refine L_guard_t (v:=.bool (m.comps.all (fun x=>xl x m.strict))) rfl rfl rfl rfl hs6 (fun hg11=>?_) (fun w15 hs16=>?_)
 ·refine zi (args:=[.slice m.ca m.comps.length m.ccap,.func (.func 38) #[] #[.pointer (some ⟨b1,0,none⟩)]]) rfl (cons2 (if_pos hg11) (cons2 (if_pos hg11) rfl)) rfl en37 (all_comp m.ca m.ccap m.comps 38 [.pointer (some ⟨b1,0,none⟩)] (fun x=>xl x m.strict) _ (hs6.getR 0 rfl) (by have:=hb.cl; have:=hb.ll; have:=hb.sl; omega) en38 (fun W hW x hx=>right1_c m x b1 W (Item.grow (hs6.get 0 rfl) hW) ((hs6.keep hW).r) hb hx)) ?_
  rintro _ w12 ⟨rfl,hk14⟩
  have hs13:=hs6.keep hk14
  exact ⟨rfl,hs13⟩
 refine qa rfl (ka rfl (j1 _ _) rfl ?_)
 refine qa rfl (qf (v:=.bool ((jo m) && (m.comps.all (fun x=>xl x m.strict)))) rfl rfl ?_)
 refine ql (qb (zo ?_))
 refine ⟨.bool ((jo m) && (m.comps.all (fun x=>xl x m.strict))),res1 rfl,?_⟩
 exact ⟨rfl,hs16.base⟩


end Go.Proofs.Ytgddigkdldnmdaa
