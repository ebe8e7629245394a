import Derived.Test.YtgddigkdldnmdaaCWhere3
namespace Go.Proofs.Ytgddigkdldnmdaa
open Go Go.Vg Go.Img
set_option linter.unusedSimpArgs false
set_option maxHeartbeats 4000000


theorem put1_succ {m : ImageV} {k : Nat} (h : k < m.comps.length) : put1 m k ++ putComp (m.comps[k]) = put1 m (k + 1):=(yf _ _ h).symm
theorem put2_succ {m : ImageV} {k : Nat} (h : k < m.links.length) : put2 m k ++ yq (m.links[k]) = put2 m (k + 1):=(yf _ _ h).symm
theorem put3_succ {m : ImageV} {k : Nat} (h : k < m.shares.length) : put3 m k ++ xu (m.shares[k]) = put3 m (k + 1):=(yf _ _ h).symm
theorem put4_succ {m : ImageV} {k : Nat} (h : k < m.comps.length) : put4 m (k + 1) = put4 m k ++ (m.comps[k]).code:=yf _ _ h
theorem put2_0 {m : ImageV} {k : Nat} (h : k = m.comps.length) : put1 m k = put2 m 0:=by subst h; simp [put2]
theorem put3_0 {m : ImageV} {k : Nat} (h : k = m.links.length) : put2 m k = put3 m 0:=by subst h; simp [put3]
theorem put4_0 {m : ImageV} {k : Nat} (h : k = m.shares.length) : put3 m k = put4 m 0:=by subst h; simp [put4]
theorem putS_no {m : ImageV} (h : z2 m = false) : putS m = []:=by simp [putS,h]
theorem putS_yes {m : ImageV} {k : Nat} (h : z2 m = true) (hk : k = m.comps.length) : putS m = put4 m k:=by simp [putS,h,hk]

/-- seizin/image.two -/
theorem two_c (n : Int) (w : World)  :
  C Try.prog 42 [vI n] w fun v w'=>(∃ b,v = .slice (some ⟨b,0,none⟩) 2 2 ∧ (blk b ((twoB n).flatMap encB) 5).φ w' ∧ ∀ x,(blk b ((twoB n).flatMap encB) 5).fp x → w.heap.size ≤ x) ∧ Grow w w':=by
 have hs0 : St w (fun _=>False) w [] []:=St.start w _ (by simp)
 refine z8 [.tmp 2] 9 Try.func42 rfl Try.ntmps42 rfl rfl ?_
 refine qi (qc ?_)
 refine qa rfl (qf (v:=.slice none 0 0) rfl rfl ?_)
 refine ql (qb (qi (qc ?_)))
 refine qa rfl (qj (v:=vI n) rfl rfl ?_)
 refine qa rfl (qt (v:=vI (n / 256)) rfl rfl rfl (b_shr (by omega) (shr_k (by decide) (by decide))) ?_)
 refine qa rfl (ky rfl un3 un5 rfl (c:=((zh (n / 256)).toNat : Int)) (xm _) ?_)
 refine qa rfl (qj (v:=vI n) rfl rfl ?_)
 refine qa rfl (ky rfl un3 un5 rfl (c:=((zh n).toNat : Int)) (xm _) ?_)
 refine qa rfl (zz (zs:=[.int .u8 0,.int .u8 0]) (ps:=[(0,[.int .u8 ((zh (n / 256)).toNat : Int)]),(1,[.int .u8 ((zh n).toNat : Int)])]) (cs:=[.int .u8 ((zh (n / 256)).toNat : Int),.int .u8 ((zh n).toNat : Int)]) hs0 un27 sz5 zv5 rfl rfl rfl rfl rfl ?_)
 intro b1 w2 hb4 hs3
 refine qa rfl (qf (v:=.slice (some ⟨b1,0,none⟩) 2 2) rfl rfl ?_)
 refine ql (qb (zo ?_))
 refine ⟨.slice (some ⟨b1,0,none⟩) 2 2,res1 rfl,?_⟩
 exact ⟨⟨_,rfl,hs3.get 0 rfl,hs3.newB 0 rfl⟩,hs3.base⟩

/-- slices.Grow[[]byte,byte] -/
theorem grow_c (n : Nat) (w : World) (hn : n ≤ 1000000) :
  C Try.prog 66 [.slice none 0 0,vI ((n : Nat) : Int)] w fun v w'=>(∃ a2 c2,v = .slice a2 0 c2 ∧ (ownI 5 1 a2 c2 0 []).φ w' ∧ ∀ x,(ownI 5 1 a2 c2 0 []).fp x → w.heap.size ≤ x) ∧ Grow w w':=by
 have hs0 : St w (fun _=>False) w [] []:=St.start w _ (by simp)
 refine z8 [.tmp 4] 27 Try.func66 rfl Try.ntmps66 rfl rfl ?_
 refine qi (qc ?_)
 refine qa rfl (qf (v:=.slice none 0 0) rfl rfl ?_)
 refine ql (qb (qi (qi (qc ?_))))
 refine qa rfl (qj (v:=vI ((n : Nat) : Int)) rfl rfl ?_)
 refine qa rfl (qt (k:=.i64) (k':=.i64) (a:=((n : Nat) : Int)) (b:=0) rfl rfl rfl jg ?_)
 refine ql (qb ?_)
 refine zd rfl (fun hc1=>absurd hc1 (by omega)) (fun hc1=>?_)
 refine zn (qb (qi (qi (qc ?_))))
 refine qa rfl (qj (v:=vI ((n : Nat) : Int)) rfl rfl ?_)
 refine qa rfl (qj (v:=.slice none 0 0) rfl rfl ?_)
 refine qa rfl (O_cap (cap:=0) rfl un27 rfl ?_)
 refine qa rfl (qj (v:=.slice none 0 0) rfl rfl ?_)
 refine qa rfl (qx (len:=0) rfl un27 rfl ?_)
 refine qa rfl (qt (v:=vI 0) rfl rfl rfl (b_sub (qz (by omega) (by omega))) ?_)
 refine qa rfl (qt (v:=vI ((n : Nat) : Int)) rfl rfl rfl (b_sub (qz (by omega) (by omega))) ?_)
 refine qa rfl (qf (v:=vI ((n : Nat) : Int)) rfl rfl ?_)
 refine ql (qb (qi (qc ?_)))
 refine qa rfl (qj (v:=vI ((n : Nat) : Int)) rfl rfl ?_)
 refine qa rfl (qt (k:=.i64) (k':=.i64) (a:=((n : Nat) : Int)) (b:=0) rfl rfl rfl b_gtr ?_)
 refine ql (qb ?_)
 refine zd rfl (fun hc2=>?_) (fun hc2=>?_)
 ·refine qc ?_
  refine qa rfl (qj (v:=.slice none 0 0) rfl rfl ?_)
  refine qa rfl (qj (v:=.slice none 0 0) rfl rfl ?_)
  refine qa rfl (O_cap (cap:=0) rfl un27 rfl ?_)
  refine qa rfl (O_slice0 rfl un27 sz5 (Bds.h rfl (rfl) (by omega)) rfl ?_)
  refine qa rfl (qj (v:=vI ((n : Nat) : Int)) rfl rfl ?_)
  have hs3:=hs0.ownNil 5 1
  refine qa rfl (O_appendN hs3 0 rfl rfl rfl (rfl) (by omega) un27 un3 inf5 rfl (by omega) (by omega) rfl ?_)
  intro a4 c5 w6 hs7
  refine qa rfl (qj (v:=.slice none 0 0) rfl rfl ?_)
  refine qa rfl (qx (len:=0) rfl un27 rfl ?_)
  refine qa rfl (O_slice0 rfl un27 sz5 (Bds.h rfl (rfl) (by omega)) rfl ?_)
  refine qa rfl (qf (v:=.slice a4 0 c5) rfl rfl ?_)
  refine ql (qb (qi ?_))
  have hs8:=hs7.ownCut 0 rfl 0 (Nat.zero_le _)
  refine qc ?_
  refine qa rfl (qj (v:=.slice a4 0 c5) rfl rfl ?_)
  refine qa rfl (qf (v:=.slice a4 0 c5) rfl rfl ?_)
  refine ql (qb (zo ?_))
  refine ⟨.slice a4 0 c5,res1 rfl,?_⟩
  exact ⟨⟨_,_,rfl,hs8.get 0 rfl,hs8.newB 0 rfl⟩,hs8.base⟩
 ·refine zn (qb (qi (qc ?_)))
  refine qa rfl (qj (v:=.slice none 0 0) rfl rfl ?_)
  refine qa rfl (qf (v:=.slice none 0 0) rfl rfl ?_)
  refine ql (qb (zo ?_))
  refine ⟨.slice none 0 0,res1 rfl,?_⟩
  exact ⟨⟨none,0,rfl,⟨by simp,Nat.le_refl _,.inl ⟨rfl,rfl⟩⟩,fun x ⟨o,e⟩=>by cases e⟩,hs0.base⟩

/-- slices.Concat[[]byte,byte] -/
theorem concat_c (a : Option Addr) (cap : Nat) (ls : List SlV) (w : World) (h : (arrI encSl 1 a ls).φ w) (h2 : (slI ls).φ w) (hsl : ∀ s ∈ ls,(s.a = none → s.cap = 0) ∧ s.l.length ≤ s.cap) (hl : ls.length ≤ 1000) (ht : (catB ls).length ≤ 100000) :
  C Try.prog 41 [.slice a ls.length cap] w fun v w'=>(∃ a2 c2,v = .slice a2 ((catB ls).length) c2 ∧ (ownI 5 1 a2 c2 ((catB ls).length) ((catB ls).flatMap encB)).φ w' ∧ ∀ x,(ownI 5 1 a2 c2 ((catB ls).length) ((catB ls).flatMap encB)).fp x → w.heap.size ≤ x) ∧ Grow w w':=by
 have hs0 : St w (fun _=>False) w [] [arrI encSl 1 a ls,slI ls]:=St.start w _ (List.forall_mem_cons.2 ⟨h,List.forall_mem_cons.2 ⟨h2,fun _ h=>by cases h⟩⟩)
 refine z8 [.tmp 2] 36 Try.func41 rfl Try.ntmps41 rfl rfl ?_
 refine qi (qc ?_)
 refine qa rfl (qf (v:=.slice none 0 0) rfl rfl ?_)
 refine ql (qb (qi (qc ?_)))
 refine qa rfl (qf (v:=vI 0) rfl rfl ?_)
 refine ql (qb (qi (qi (qc ?_))))
 refine qa rfl (qj (v:=.slice a ls.length cap) rfl rfl ?_)
 refine qa rfl (qx (len:=ls.length) rfl un100 rfl ?_)
 refine qa rfl (qj (v:=vI 0) rfl rfl ?_)
 refine ql (qb (zy ?_))
 refine kw (fun m_ f_ w_=>∃ k : Nat,m_ = ls.length - k ∧ (k ≤ ls.length) ∧ f_ 0 = .slice a ls.length cap ∧ f_ 3 = vI (((catB (ls.take k)).length : Nat) : Int) ∧ f_ 9 = .slice a ls.length cap ∧ f_ 10 = vI ((ls.length : Nat) : Int) ∧ f_ 11 = vI ((k : Nat) : Int) ∧ St w (fun _=>False) w_ [] [arrI encSl 1 a ls,slI ls]) ?_ ?_
 ·exact ⟨_,0,rfl,by omega,rfl,rfl,rfl,rfl,rfl,hs0⟩
 ·intro m4 f1 w2; rintro ⟨k,rfl,hl10,e5,e6,e7,e8,e9,hs3⟩
  rewrite [qm e5]
  rewrite [qm e6]
  rewrite [qm e7]
  rewrite [qm e8]
  rewrite [qm e9]
  refine qi (qc ?_)
  refine qa rfl (qt (k:=.i64) (k':=.i64) (a:=((k : Nat) : Int)) (b:=((ls.length : Nat) : Int)) rfl rfl rfl jg ?_)
  refine ql (qb (qi ?_))
  refine zd rfl (fun hc11=>?_) (fun hc11=>?_)
  ·refine zn (qb (qi (zy (qi (qc ?_)))))
   obtain ⟨b12,o13,ha14,hs15⟩:=hs3.elem 0 rfl k (by omega)
   refine qa rfl (qs rfl ha14 rfl un100 sz27 (by omega) (by omega) (o':=o13 + k * 1) (by omega) rfl ?_)
   refine qa rfl (qq (v:=.slice ((ls[k]'(by omega)).a) ((ls[k]'(by omega)).l.length) ((ls[k]'(by omega)).cap)) rfl ag27 ((hs15.getR 0 rfl).2 0 _ rfl) rfl ?_)
   refine qa rfl (qf (v:=.slice ((ls[k]'(by omega)).a) ((ls[k]'(by omega)).l.length) ((ls[k]'(by omega)).cap)) rfl rfl ?_)
   refine ql (qb (qi (qc ?_)))
   refine qa rfl (qj (v:=vI (((catB (ls.take k)).length : Nat) : Int)) rfl rfl ?_)
   refine qa rfl (qj (v:=.slice ((ls[k]'(by omega)).a) ((ls[k]'(by omega)).l.length) ((ls[k]'(by omega)).cap)) rfl rfl ?_)
   refine qa rfl (qx (len:=((ls[k]'(by omega)).l.length)) rfl un27 rfl ?_)
   refine qa rfl (qt (v:=vI (((catB (ls.take (k + 1))).length : Nat) : Int)) rfl rfl rfl (ki (qz (by rw [xr (by omega : k < ls.length),List.length_append]; omega) (by have h9:=catB_len_le ls (k + 1); rw [xr (by omega : k < ls.length),List.length_append] at h9; omega))) ?_)
   refine qa rfl (qf (v:=vI (((catB (ls.take (k + 1))).length : Nat) : Int)) rfl rfl ?_)
   refine ql (qb (qi (qc ?_)))
   refine qa rfl (qj (v:=vI (((catB (ls.take (k + 1))).length : Nat) : Int)) rfl rfl ?_)
   refine qa rfl (qt (k:=.i64) (k':=.i64) (a:=(((catB (ls.take (k + 1))).length : Nat) : Int)) (b:=0) rfl rfl rfl jg ?_)
   refine ql (qb ?_)
   refine zd rfl (fun hc16=>absurd hc16 (by omega)) (fun hc16=>?_)
   refine zn (z7 (qb (qc ?_)))
   refine qa rfl (qt (v:=vI ((k + 1 : Nat) : Int)) rfl rfl rfl (ki (qz (by omega) (by omega))) ?_)
   refine qa rfl (qj (v:=vI ((k + 1 : Nat) : Int)) rfl rfl ?_)
   refine ql (qb ?_)
   refine ⟨_,?_,k + 1,rfl,by omega,rfl,rfl,rfl,rfl,rfl,hs15.popR⟩
   omega
  ·refine ja (z0 (z0 (ke (qb (qi ?_)))))
   have h9:=catB_len_le ls k
   refine qc ?_
   refine qa rfl (qj (v:=vI (((catB (ls.take k)).length : Nat) : Int)) rfl rfl ?_)
   refine qa rfl (zi (args:=[.slice none 0 0,vI (((catB (ls.take k)).length : Nat) : Int)]) rfl rfl rfl en66 (grow_c ((catB (ls.take k)).length) _ (by omega)) ?_)
   rintro _ w19 ⟨⟨a17,c18,rfl,ha21,hn22⟩,hk23⟩
   have hs20:=hs3.add hk23 (ownI 5 1 a17 c18 0 []) ha21 hn22
   refine qa rfl (qf (v:=.slice a17 0 c18) rfl rfl ?_)
   refine ql (qb (qi (qi (qc ?_))))
   refine qa rfl (qj (v:=.slice a ls.length cap) rfl rfl ?_)
   refine qa rfl (qx (len:=ls.length) rfl un100 rfl ?_)
   refine qa rfl (qj (v:=vI 0) rfl rfl ?_)
   refine ql (qb (zy ?_))
   refine kw (fun m_ f_ w_=>∃ k : Nat,∃ a5 : Option Addr,∃ c5 : Nat,m_ = ls.length - k ∧ (k ≤ ls.length) ∧ f_ 6 = .slice a5 ((catB (ls.take k)).length) c5 ∧ f_ 25 = .slice a ls.length cap ∧ f_ 26 = vI ((ls.length : Nat) : Int) ∧ f_ 27 = vI ((k : Nat) : Int) ∧ St w (fun _=>False) w_ [ownI 5 1 a5 c5 ((catB (ls.take k)).length) ((catB (ls.take k)).flatMap encB)] [arrI encSl 1 a ls,slI ls]) ?_ ?_
   ·exact ⟨_,0,a17,c18,rfl,by omega,rfl,rfl,rfl,rfl,hs20⟩
   ·intro m27 f24 w25; rintro ⟨k,a5,c5,rfl,hl32,e28,e29,e30,e31,hs26⟩
    rewrite [qm e28]
    rewrite [qm e29]
    rewrite [qm e30]
    rewrite [qm e31]
    refine qi (qc ?_)
    refine qa rfl (qt (k:=.i64) (k':=.i64) (a:=((k : Nat) : Int)) (b:=((ls.length : Nat) : Int)) rfl rfl rfl jg ?_)
    refine ql (qb (qi ?_))
    refine zd rfl (fun hc33=>?_) (fun hc33=>?_)
    ·refine zn (qb (qi (zy (qi (qc ?_)))))
     obtain ⟨b34,o35,ha36,hs37⟩:=hs26.elem 0 rfl k (by omega)
     refine qa rfl (qs rfl ha36 rfl un100 sz27 (by omega) (by omega) (o':=o35 + k * 1) (by omega) rfl ?_)
     refine qa rfl (qq (v:=.slice ((ls[k]'(by omega)).a) ((ls[k]'(by omega)).l.length) ((ls[k]'(by omega)).cap)) rfl ag27 ((hs37.getR 0 rfl).2 0 _ rfl) rfl ?_)
     refine qa rfl (qf (v:=.slice ((ls[k]'(by omega)).a) ((ls[k]'(by omega)).l.length) ((ls[k]'(by omega)).cap)) rfl rfl ?_)
     refine ql (qb ?_)
     have hs38:=hs37.addRsub 2 rfl (arrI encB 1 ((ls[k]'(by omega)).a) ((ls[k]'(by omega)).l)) (hs37.getR 2 rfl _ (List.getElem_mem (by omega))) (fun b hb=>⟨_,List.getElem_mem (by omega),hb⟩)
     refine qc ?_
     refine qa rfl (qj (v:=.slice a5 ((catB (ls.take k)).length) c5) rfl rfl ?_)
     refine qa rfl (qj (v:=.slice ((ls[k]'(by omega)).a) ((ls[k]'(by omega)).l.length) ((ls[k]'(by omega)).cap)) rfl rfl ?_)
     refine qa rfl (k7 (n2:=(catB (ls.take (k + 1))).length) (xs2:=(catB (ls.take (k + 1))).flatMap encB) hs38 0 rfl rfl rfl un27 ni27 inf5 rfl (Src.arr (hs38.getR 0 rfl) (fun _=>rfl) (fun _=>rfl) ((hsl _ (List.getElem_mem (by omega : k < ls.length))).1) ((hsl _ (List.getElem_mem (by omega : k < ls.length))).2)) (by rw [xr (by omega : k < ls.length),List.length_append]) (by rw [xr (by omega : k < ls.length),flat_app]) (by have h9:=catB_len_le ls (k + 1); rw [xr (by omega : k < ls.length),List.length_append] at h9; omega) (by have h9:=catB_len_le ls (k + 1); rw [xr (by omega : k < ls.length),List.length_append] at h9; omega) rfl ?_)
     intro a39 c40 w41 hs42
     refine qa rfl (qf (v:=.slice a39 ((catB (ls.take (k + 1))).length) c40) rfl rfl ?_)
     refine ql (z7 (qb (qc ?_)))
     refine qa rfl (qt (v:=vI ((k + 1 : Nat) : Int)) rfl rfl rfl (ki (qz (by omega) (by omega))) ?_)
     refine qa rfl (qj (v:=vI ((k + 1 : Nat) : Int)) rfl rfl ?_)
     refine ql (qb ?_)
     refine ⟨_,?_,k + 1,a39,c40,rfl,by omega,rfl,rfl,rfl,rfl,hs42.popR.popR⟩
     omega
    ·refine ja (z0 (z0 (ke (qb (qi (qc ?_))))))
     refine qa rfl (qj (v:=.slice a5 ((catB (ls.take k)).length) c5) rfl rfl ?_)
     refine qa rfl (qf (v:=.slice a5 ((catB (ls.take k)).length) c5) rfl rfl ?_)
     refine ql (qb (zo ?_))
     refine ⟨.slice a5 ((catB (ls.take k)).length) c5,res1 rfl,?_⟩
     have he : ls.take k = ls:=List.take_of_length_le (by omega)
     rw [he] at hs26 ⊢
     exact ⟨⟨a5,c5,rfl,hs26.get 0 rfl,hs26.newB 0 rfl⟩,hs26.base⟩

/-- seizin/image.Put -/
theorem put_c (m : ImageV) (w : World) (hm : ∀ i ∈ kh m,i.φ w) (hb : ImgB m) :
  C Try.prog 16 [.agg (qn m).toArray] w fun v w'=>(∃ a2 c2,v = .slice a2 ((putS m).length) c2 ∧ (ownI 5 1 a2 c2 ((putS m).length) ((putS m).flatMap encB)).φ w' ∧ ∀ x,(ownI 5 1 a2 c2 ((putS m).length) ((putS m).flatMap encB)).fp x → w.heap.size ≤ x) ∧ Grow w w':=by
 have hs0 : St w (fun _=>False) w [] (kh m):=St.start w _ hm
 refine z8 [.tmp 2] 113 Try.func16 rfl Try.ntmps16 rfl rfl ?_
 refine qi (qc ?_)
 refine qa rfl (jw (v:=.agg (qn m).toArray) (cs:=(qn m)) hs0 rfl rfl rfl ?_)
 intro b1 w2 hb4 hs3
 refine qa rfl (qf (v:=.slice none 0 0) rfl rfl ?_)
 refine ql (qb (qi (qi (qc ?_))))
 refine qa rfl (qw (vs:=(qn m)) rfl ag26 sz26 (Rd.of_blk (hs3.get 0 rfl) 0 6) rfl rfl ?_)
 refine qa rfl (zi (args:=[.agg (qn m).toArray]) rfl rfl rfl en14 (iright_c m _ (hs3.r) hb) ?_)
 rintro _ w5 ⟨rfl,hk7⟩
 have hs6:=hs3.keep hk7
 refine qa rfl (j0 (b:=(z2 m)) rfl rfl ?_)
 refine ql (qb ?_)
 refine k5 (t:=(!(z2 m))) rfl (fun hc8=>?_) (fun hc8=>?_)
 ·try simp only [Bool.and_eq_true,Bool.or_eq_true,Bool.not_eq_true',Bool.and_eq_false_iff,Bool.or_eq_false_iff,Bool.not_eq_false',decide_eq_true_eq,decide_eq_false_iff_not,Bool.and_eq_false_imp] at hc8
  refine qi (qc ?_)
  refine qa rfl (qf (v:=.slice none 0 0) rfl rfl ?_)
  refine ql (qb (zo (q9 ?_)))
  refine ⟨.slice none 0 0,res1 rfl,?_⟩
  exact ⟨⟨none,0,by rw [putS_no hc8]; rfl,by rw [putS_no hc8]; exact ⟨rfl,Nat.le_refl _,.inl ⟨rfl,rfl⟩⟩,fun x ⟨o,e⟩=>by cases e⟩,hs6.base⟩
 ·try simp only [Bool.and_eq_true,Bool.or_eq_true,Bool.not_eq_true',Bool.and_eq_false_iff,Bool.or_eq_false_iff,Bool.not_eq_false',decide_eq_true_eq,decide_eq_false_iff_not,Bool.and_eq_false_imp] at hc8
  refine zn (qb (qi ?_))
  have hright : z2 m = true:=by simpa using hc8
  have hsm:=rightS_small hright
  have hcx:=fun x hx=>(hb.co x hx).1
  refine qc ?_
  refine qa rfl (qf (v:=.int .u8 0) rfl rfl ?_)
  refine ql (qb ?_)
  refine W_cut (fun f_ w_=>f_ 1 = .pointer (some ⟨b1,0,none⟩) ∧ f_ 3 = .int .u8 ((jn m).toNat : Int) ∧ St w (fun _=>False) w_ [blk b1 (qn m) 26] (kh m)) ?_ ?_
  ·refine qi (qc ?_)
   refine qa rfl (qg rfl fd26_0 rfl (o':=0) rfl rfl ?_)
   refine qa rfl (qq (v:=.bool m.strict) rfl ag4 (qh (hs6.get 0 rfl) rfl) rfl ?_)
   refine ql (qb ?_)
   refine k5 (t:=m.strict) rfl (fun hc9=>?_) (fun hc9=>?_)
   ·try simp only [Bool.and_eq_true,Bool.or_eq_true,Bool.not_eq_true',Bool.and_eq_false_iff,Bool.or_eq_false_iff,Bool.not_eq_false',decide_eq_true_eq,decide_eq_false_iff_not,Bool.and_eq_false_imp] at hc9
    refine qc ?_
    refine qa rfl (qf (v:=.int .u8 1) rfl rfl ?_)
    refine ql (qb ?_)
    exact ⟨rfl,(congrArg (Value.int .u8) (by simp [jn,hc9])),hs6⟩
   ·try simp only [Bool.and_eq_true,Bool.or_eq_true,Bool.not_eq_true',Bool.and_eq_false_iff,Bool.or_eq_false_iff,Bool.not_eq_false',decide_eq_true_eq,decide_eq_false_iff_not,Bool.and_eq_false_imp] at hc9
    refine zn (qb ?_)
    exact ⟨rfl,(congrArg (Value.int .u8) (by simp [jn,hc9])),hs6⟩
  ·intro f10 w11; rintro ⟨e13,e14,hs12⟩
   rewrite [qm e13]
   rewrite [qm e14]
   refine qi ?_
   refine jc js (show St _ _ _ [blk b1 (qn m) 26] _ from hs12) (fun i_=>match i_ with|0=>some ([18],fun vs_=>match vs_ with|[x18]=>blk (vblk x18) [.int .u8 83,.int .u8 90] 5|_=>emp)|1=>some ([19],fun vs_=>match vs_ with|[x19]=>rdI (vblk x19) 0 [.int .u8 83,.int .u8 90]|_=>emp)|6=>some ([24],fun vs_=>match vs_ with|[x24]=>blk (vblk x24) [.int .u8 ((jn m).toNat : Int),.int .u8 ((zh m.heap).toNat : Int)] 5|_=>emp)|9=>some ([27],fun vs_=>match vs_ with|[x27]=>blk (vblk x27) [.int .u8 ((zh (m.full / 256)).toNat : Int),.int .u8 ((zh m.full).toNat : Int)] 5|_=>emp)|22=>some ([40],fun vs_=>match vs_ with|[x40]=>blk (vblk x40) [.int .u8 ((zh m.comps.length).toNat : Int),.int .u8 ((zh m.links.length).toNat : Int),.int .u8 ((zh m.shares.length).toNat : Int)] 5|_=>emp)|23=>some ([19,24,27,40,41],fun vs_=>match vs_ with|[x19,x24,x27,x40,x41]=>blk (vblk x41) [.slice (some ⟨(vblk x19),0,none⟩) 2 2,.slice (some ⟨(vblk x24),0,none⟩) 2 2,.slice (some ⟨(vblk x27),0,none⟩) 2 2,.slice (some ⟨(vblk x40),0,none⟩) 3 3] 27|_=>emp)|24=>some ([42],fun vs_=>match vs_ with|[x42]=>ownI 5 1 (zf x42) (vcap x42) ((je m).length) ((je m).flatMap encB)|_=>emp)|25=>some ([4],fun vs_=>match vs_ with|[x4]=>ownI 5 1 (zf x4) (vcap x4) ((je m).length) ((je m).flatMap encB)|_=>emp)|_=>none) (fun i_=>match i_ with|1=>[0]|25=>[24]|_=>[]) (fun i_=>match i_ with|4=>[26]|8=>[26]|11=>[26]|15=>[26]|19=>[26]|24=>[23,22,9,6,1]|_=>[]) (fun i_=>match i_ with|1=>[0]|4=>[3]|5=>[4]|6=>[2,5]|8=>[7]|9=>[8]|11=>[10]|12=>[11]|13=>[12]|15=>[14]|16=>[15]|17=>[16]|19=>[18]|20=>[19]|21=>[20]|22=>[13,17,21]|23=>[1,6,9,22]|24=>[23,1,6,9,22]|25=>[24]|_=>[]) [25,23,22,9,6,1,26,2,3,4,5,7,8,10,11,12,13,14,15,16,17,18,19,20,21,27,28,29,30,31,32,33,34,35,36,37,38,39,40,41,42,43,44,45,46,47,48,49,50,51,52] [1,6,9,22,23,25] (fun i_ v_=>match i_ with|0=>∃ b15 : Nat,v_ = .slice (some ⟨b15,0,none⟩) 2 2|1=>∃ b21 : Nat,v_ = .slice (some ⟨b21,0,none⟩) 2 2|2=>v_ = .int .u8 ((jn m).toNat : Int)|3=>v_ = .pointer (some ⟨b1,1,none⟩)|4=>v_ = vI m.heap|5=>v_ = .int .u8 ((zh m.heap).toNat : Int)|6=>∃ b22 : Nat,v_ = .slice (some ⟨b22,0,none⟩) 2 2|7=>v_ = .pointer (some ⟨b1,2,none⟩)|8=>v_ = vI m.full|9=>∃ b26 : Nat,v_ = .slice (some ⟨b26,0,none⟩) 2 2|10=>v_ = .pointer (some ⟨b1,3,none⟩)|11=>v_ = .slice m.ca m.comps.length m.ccap|12=>v_ = vI ((m.comps.length : Nat) : Int)|13=>v_ = .int .u8 ((zh m.comps.length).toNat : Int)|14=>v_ = .pointer (some ⟨b1,4,none⟩)|15=>v_ = .slice m.la m.links.length m.lcap|16=>v_ = vI ((m.links.length : Nat) : Int)|17=>v_ = .int .u8 ((zh m.links.length).toNat : Int)|18=>v_ = .pointer (some ⟨b1,5,none⟩)|19=>v_ = .slice m.sa m.shares.length m.scap|20=>v_ = vI ((m.shares.length : Nat) : Int)|21=>v_ = .int .u8 ((zh m.shares.length).toNat : Int)|22=>∃ b32 : Nat,v_ = .slice (some ⟨b32,0,none⟩) 3 3|23=>∃ b36 : Nat,v_ = .slice (some ⟨b36,0,none⟩) 4 4|24=>∃ a40 : Option Addr,∃ c41 : Nat,v_ = .slice a40 ((je m).length) c41|25=>∃ a47 : Option Addr,∃ c48 : Nat,v_ = .slice a47 ((je m).length) c48|_=>True) (by kernel_rfl) (by kernel_rfl) ⟨?_,?_,?_,?_,?_,?_,?_,?_,?_,?_,?_,?_,?_,?_,?_,?_,?_,?_,?_,?_,?_,?_,?_,?_,?_,?_,trivial⟩ ?_
   ·intro f0_ w0_ X0_ qp qo qu qk
    refine qe rfl (zz (zs:=[.int .u8 0,.int .u8 0]) (ps:=[(0,[.int .u8 83]),(1,[.int .u8 90])]) (cs:=[.int .u8 83,.int .u8 90]) qk un27 sz5 zv5 rfl rfl rfl rfl rfl ?_)
    intro b15 w16 hb18 hs17
    refine ⟨.slice (some ⟨b15,0,none⟩) 2 2,rfl,⟨_,rfl⟩,?_⟩
    show St _ _ _ ((blk (vblk ((upd f0_ 18 (.slice (some ⟨b15,0,none⟩) 2 2)) 18)) [.int .u8 83,.int .u8 90] 5) :: X0_) _
    exact hs17
   ·intro f1_ w1_ X1_ qp qo qu qk
    obtain ⟨hu0,-⟩:=qo
    obtain ⟨b15,hu0⟩:=(show ∃ b15 : Nat,f1_ 18 = .slice (some ⟨b15,0,none⟩) 2 2 from hu0)
    have qk : St _ _ _ ((blk (vblk (f1_ 18)) [.int .u8 83,.int .u8 90] 5) :: X1_) _:=qk
    rw [hu0] at qk; simp only [vblk,zf,vcap,z3] at qk
    refine qe rfl (O_mark qk 0 rfl hu0 un27 un5 rfl ?_)
    intro w19 hs20
    refine ⟨.slice (some ⟨b15,0,none⟩) 2 2,rfl,⟨_,rfl⟩,?_⟩
    show St _ _ _ ((rdI (vblk ((upd f1_ 19 (.slice (some ⟨b15,0,none⟩) 2 2)) 19)) 0 [.int .u8 83,.int .u8 90]) :: X1_) _
    exact hs20
   ·intro f2_ w2_ X2_ qp qo qu qk
    have hb3 : f2_ 3 = .int .u8 ((jn m).toNat : Int):=(qp 3 rfl)
    refine qe rfl (qj (v:=.int .u8 ((jn m).toNat : Int)) hb3 rfl ?_)
    exact ⟨.int .u8 ((jn m).toNat : Int),rfl,rfl,qk⟩
   ·intro f3_ w3_ X3_ qp qo qu qk
    have hb1 : f3_ 1 = .pointer (some ⟨b1,0,none⟩):=(qp 1 rfl)
    refine qe rfl (qg hb1 fd26_1 rfl (o':=1) rfl rfl ?_)
    exact ⟨.pointer (some ⟨b1,1,none⟩),rfl,rfl,qk⟩
   ·intro f4_ w4_ X4_ qp qo qu qk
    obtain ⟨hu3,-⟩:=qo
    have hu3 : f4_ 21 = .pointer (some ⟨b1,1,none⟩):=hu3
    obtain ⟨hr26,-⟩:=qu
    have hr26 : Item.φ (blk b1 (qn m) 26) w4_:=hr26
    refine qe rfl (qq (v:=vI m.heap) hu3 ag3 (qh (hr26) rfl) rfl ?_)
    exact ⟨vI m.heap,rfl,rfl,qk⟩
   ·intro f5_ w5_ X5_ qp qo qu qk
    obtain ⟨hu4,-⟩:=qo
    have hu4 : f5_ 22 = vI m.heap:=hu4
    refine qe rfl (ky hu4 un3 un5 rfl (c:=((zh m.heap).toNat : Int)) (xm _) ?_)
    exact ⟨.int .u8 ((zh m.heap).toNat : Int),rfl,rfl,qk⟩
   ·intro f6_ w6_ X6_ qp qo qu qk
    obtain ⟨hu2,hu5,-⟩:=qo
    have hu2 : f6_ 20 = .int .u8 ((jn m).toNat : Int):=hu2
    have hu5 : f6_ 23 = .int .u8 ((zh m.heap).toNat : Int):=hu5
    refine qe rfl (zz (zs:=[.int .u8 0,.int .u8 0]) (ps:=[(0,[.int .u8 ((jn m).toNat : Int)]),(1,[.int .u8 ((zh m.heap).toNat : Int)])]) (cs:=[.int .u8 ((jn m).toNat : Int),.int .u8 ((zh m.heap).toNat : Int)]) qk un27 sz5 zv5 rfl rfl (by simp only [List.map_cons,List.map_nil,List.nil_append,List.cons_append,List.append_nil,ev,Value.cells,hu2,hu5]) rfl rfl ?_)
    intro b22 w23 hb25 hs24
    refine ⟨.slice (some ⟨b22,0,none⟩) 2 2,rfl,⟨_,rfl⟩,?_⟩
    show St _ _ _ ((blk (vblk ((upd f6_ 24 (.slice (some ⟨b22,0,none⟩) 2 2)) 24)) [.int .u8 ((jn m).toNat : Int),.int .u8 ((zh m.heap).toNat : Int)] 5) :: X6_) _
    exact hs24
   ·intro f7_ w7_ X7_ qp qo qu qk
    have hb1 : f7_ 1 = .pointer (some ⟨b1,0,none⟩):=(qp 1 rfl)
    refine qe rfl (qg hb1 fd26_2 rfl (o':=2) rfl rfl ?_)
    exact ⟨.pointer (some ⟨b1,2,none⟩),rfl,rfl,qk⟩
   ·intro f8_ w8_ X8_ qp qo qu qk
    obtain ⟨hu7,-⟩:=qo
    have hu7 : f8_ 25 = .pointer (some ⟨b1,2,none⟩):=hu7
    obtain ⟨hr26,-⟩:=qu
    have hr26 : Item.φ (blk b1 (qn m) 26) w8_:=hr26
    refine qe rfl (qq (v:=vI m.full) hu7 ag3 (qh (hr26) rfl) rfl ?_)
    exact ⟨vI m.full,rfl,rfl,qk⟩
   ·intro f9_ w9_ X9_ qp qo qu qk
    obtain ⟨hu8,-⟩:=qo
    have hu8 : f9_ 26 = vI m.full:=hu8
    refine qe rfl (zi (args:=[vI m.full]) rfl (by simp only [List.map_cons,List.map_nil,List.nil_append,List.cons_append,List.append_nil,ev,Value.cells,hu8]) rfl en42 (two_c m.full _) ?_)
    rintro _ w27 ⟨⟨b26,rfl,ha29,hn30⟩,hk31⟩
    have hs28:=qk.add hk31 (blk b26 [.int .u8 ((zh (m.full / 256)).toNat : Int),.int .u8 ((zh m.full).toNat : Int)] 5) ha29 hn30
    refine ⟨.slice (some ⟨b26,0,none⟩) 2 2,rfl,⟨_,rfl⟩,?_⟩
    show St _ _ _ ((blk (vblk ((upd f9_ 27 (.slice (some ⟨b26,0,none⟩) 2 2)) 27)) [.int .u8 ((zh (m.full / 256)).toNat : Int),.int .u8 ((zh m.full).toNat : Int)] 5) :: X9_) _
    exact hs28
   ·intro f10_ w10_ X10_ qp qo qu qk
    have hb1 : f10_ 1 = .pointer (some ⟨b1,0,none⟩):=(qp 1 rfl)
    refine qe rfl (qg hb1 jq rfl (o':=3) rfl rfl ?_)
    exact ⟨.pointer (some ⟨b1,3,none⟩),rfl,rfl,qk⟩
   ·intro f11_ w11_ X11_ qp qo qu qk
    obtain ⟨hu10,-⟩:=qo
    have hu10 : f11_ 28 = .pointer (some ⟨b1,3,none⟩):=hu10
    obtain ⟨hr26,-⟩:=qu
    have hr26 : Item.φ (blk b1 (qn m) 26) w11_:=hr26
    refine qe rfl (qq (v:=.slice m.ca m.comps.length m.ccap) hu10 ag22 (qh (hr26) rfl) rfl ?_)
    exact ⟨.slice m.ca m.comps.length m.ccap,rfl,rfl,qk⟩
   ·intro f12_ w12_ X12_ qp qo qu qk
    obtain ⟨hu11,-⟩:=qo
    have hu11 : f12_ 29 = .slice m.ca m.comps.length m.ccap:=hu11
    refine qe rfl (qx (len:=m.comps.length) hu11 un22 rfl ?_)
    exact ⟨vI ((m.comps.length : Nat) : Int),rfl,rfl,qk⟩
   ·intro f13_ w13_ X13_ qp qo qu qk
    obtain ⟨hu12,-⟩:=qo
    have hu12 : f13_ 30 = vI ((m.comps.length : Nat) : Int):=hu12
    refine qe rfl (ky hu12 un3 un5 rfl (c:=((zh m.comps.length).toNat : Int)) (xm _) ?_)
    exact ⟨.int .u8 ((zh m.comps.length).toNat : Int),rfl,rfl,qk⟩
   ·intro f14_ w14_ X14_ qp qo qu qk
    have hb1 : f14_ 1 = .pointer (some ⟨b1,0,none⟩):=(qp 1 rfl)
    refine qe rfl (qg hb1 xx rfl (o':=4) rfl rfl ?_)
    exact ⟨.pointer (some ⟨b1,4,none⟩),rfl,rfl,qk⟩
   ·intro f15_ w15_ X15_ qp qo qu qk
    obtain ⟨hu14,-⟩:=qo
    have hu14 : f15_ 32 = .pointer (some ⟨b1,4,none⟩):=hu14
    obtain ⟨hr26,-⟩:=qu
    have hr26 : Item.φ (blk b1 (qn m) 26) w15_:=hr26
    refine qe rfl (qq (v:=.slice m.la m.links.length m.lcap) hu14 ag23 (qh (hr26) rfl) rfl ?_)
    exact ⟨.slice m.la m.links.length m.lcap,rfl,rfl,qk⟩
   ·intro f16_ w16_ X16_ qp qo qu qk
    obtain ⟨hu15,-⟩:=qo
    have hu15 : f16_ 33 = .slice m.la m.links.length m.lcap:=hu15
    refine qe rfl (qx (len:=m.links.length) hu15 un23 rfl ?_)
    exact ⟨vI ((m.links.length : Nat) : Int),rfl,rfl,qk⟩
   ·intro f17_ w17_ X17_ qp qo qu qk
    obtain ⟨hu16,-⟩:=qo
    have hu16 : f17_ 34 = vI ((m.links.length : Nat) : Int):=hu16
    refine qe rfl (ky hu16 un3 un5 rfl (c:=((zh m.links.length).toNat : Int)) (xm _) ?_)
    exact ⟨.int .u8 ((zh m.links.length).toNat : Int),rfl,rfl,qk⟩
   ·intro f18_ w18_ X18_ qp qo qu qk
    have hb1 : f18_ 1 = .pointer (some ⟨b1,0,none⟩):=(qp 1 rfl)
    refine qe rfl (qg hb1 xo rfl (o':=5) rfl rfl ?_)
    exact ⟨.pointer (some ⟨b1,5,none⟩),rfl,rfl,qk⟩
   ·intro f19_ w19_ X19_ qp qo qu qk
    obtain ⟨hu18,-⟩:=qo
    have hu18 : f19_ 36 = .pointer (some ⟨b1,5,none⟩):=hu18
    obtain ⟨hr26,-⟩:=qu
    have hr26 : Item.φ (blk b1 (qn m) 26) w19_:=hr26
    refine qe rfl (qq (v:=.slice m.sa m.shares.length m.scap) hu18 ag24 (qh (hr26) rfl) rfl ?_)
    exact ⟨.slice m.sa m.shares.length m.scap,rfl,rfl,qk⟩
   ·intro f20_ w20_ X20_ qp qo qu qk
    obtain ⟨hu19,-⟩:=qo
    have hu19 : f20_ 37 = .slice m.sa m.shares.length m.scap:=hu19
    refine qe rfl (qx (len:=m.shares.length) hu19 un24 rfl ?_)
    exact ⟨vI ((m.shares.length : Nat) : Int),rfl,rfl,qk⟩
   ·intro f21_ w21_ X21_ qp qo qu qk
    obtain ⟨hu20,-⟩:=qo
    have hu20 : f21_ 38 = vI ((m.shares.length : Nat) : Int):=hu20
    refine qe rfl (ky hu20 un3 un5 rfl (c:=((zh m.shares.length).toNat : Int)) (xm _) ?_)
    exact ⟨.int .u8 ((zh m.shares.length).toNat : Int),rfl,rfl,qk⟩
   ·intro f22_ w22_ X22_ qp qo qu qk
    obtain ⟨hu13,hu17,hu21,-⟩:=qo
    have hu13 : f22_ 31 = .int .u8 ((zh m.comps.length).toNat : Int):=hu13
    have hu17 : f22_ 35 = .int .u8 ((zh m.links.length).toNat : Int):=hu17
    have hu21 : f22_ 39 = .int .u8 ((zh m.shares.length).toNat : Int):=hu21
    refine qe rfl (zz (zs:=[.int .u8 0,.int .u8 0,.int .u8 0]) (ps:=[(0,[.int .u8 ((zh m.comps.length).toNat : Int)]),(1,[.int .u8 ((zh m.links.length).toNat : Int)]),(2,[.int .u8 ((zh m.shares.length).toNat : Int)])]) (cs:=[.int .u8 ((zh m.comps.length).toNat : Int),.int .u8 ((zh m.links.length).toNat : Int),.int .u8 ((zh m.shares.length).toNat : Int)]) qk un27 sz5 zv5 rfl rfl (by simp only [List.map_cons,List.map_nil,List.nil_append,List.cons_append,List.append_nil,ev,Value.cells,hu13,hu17,hu21]) rfl rfl ?_)
    intro b32 w33 hb35 hs34
    refine ⟨.slice (some ⟨b32,0,none⟩) 3 3,rfl,⟨_,rfl⟩,?_⟩
    show St _ _ _ ((blk (vblk ((upd f22_ 40 (.slice (some ⟨b32,0,none⟩) 3 3)) 40)) [.int .u8 ((zh m.comps.length).toNat : Int),.int .u8 ((zh m.links.length).toNat : Int),.int .u8 ((zh m.shares.length).toNat : Int)] 5) :: X22_) _
    exact hs34
   ·intro f23_ w23_ X23_ qp qo qu qk
    obtain ⟨hu1,hu6,hu9,hu22,-⟩:=qo
    obtain ⟨b21,hu1⟩:=(show ∃ b21 : Nat,f23_ 19 = .slice (some ⟨b21,0,none⟩) 2 2 from hu1)
    obtain ⟨b22,hu6⟩:=(show ∃ b22 : Nat,f23_ 24 = .slice (some ⟨b22,0,none⟩) 2 2 from hu6)
    obtain ⟨b26,hu9⟩:=(show ∃ b26 : Nat,f23_ 27 = .slice (some ⟨b26,0,none⟩) 2 2 from hu9)
    obtain ⟨b32,hu22⟩:=(show ∃ b32 : Nat,f23_ 40 = .slice (some ⟨b32,0,none⟩) 3 3 from hu22)
    refine qe rfl (zz (zs:=[.slice none 0 0,.slice none 0 0,.slice none 0 0,.slice none 0 0]) (ps:=[(0,[.slice (some ⟨b21,0,none⟩) 2 2]),(1,[.slice (some ⟨b22,0,none⟩) 2 2]),(2,[.slice (some ⟨b26,0,none⟩) 2 2]),(3,[.slice (some ⟨b32,0,none⟩) 3 3])]) (cs:=[.slice (some ⟨b21,0,none⟩) 2 2,.slice (some ⟨b22,0,none⟩) 2 2,.slice (some ⟨b26,0,none⟩) 2 2,.slice (some ⟨b32,0,none⟩) 3 3]) qk un100 sz27 zv27 rfl rfl (by simp only [List.map_cons,List.map_nil,List.nil_append,List.cons_append,List.append_nil,ev,Value.cells,hu1,hu6,hu9,hu22]) rfl rfl ?_)
    intro b36 w37 hb39 hs38
    refine ⟨.slice (some ⟨b36,0,none⟩) 4 4,rfl,⟨_,rfl⟩,?_⟩
    show St _ _ _ ((blk (vblk ((upd f23_ 41 (.slice (some ⟨b36,0,none⟩) 4 4)) 41)) [.slice (some ⟨(vblk ((upd f23_ 41 (.slice (some ⟨b36,0,none⟩) 4 4)) 19)),0,none⟩) 2 2,.slice (some ⟨(vblk ((upd f23_ 41 (.slice (some ⟨b36,0,none⟩) 4 4)) 24)),0,none⟩) 2 2,.slice (some ⟨(vblk ((upd f23_ 41 (.slice (some ⟨b36,0,none⟩) 4 4)) 27)),0,none⟩) 2 2,.slice (some ⟨(vblk ((upd f23_ 41 (.slice (some ⟨b36,0,none⟩) 4 4)) 40)),0,none⟩) 3 3] 27) :: X23_) _
    rw [show (upd f23_ 41 (.slice (some ⟨b36,0,none⟩) 4 4)) 19 = _ from hu1]
    rw [show (upd f23_ 41 (.slice (some ⟨b36,0,none⟩) 4 4)) 24 = _ from hu6]
    rw [show (upd f23_ 41 (.slice (some ⟨b36,0,none⟩) 4 4)) 27 = _ from hu9]
    rw [show (upd f23_ 41 (.slice (some ⟨b36,0,none⟩) 4 4)) 40 = _ from hu22]
    exact hs38
   ·intro f24_ w24_ X24_ qp qo qu qk
    obtain ⟨hu23,hu1,hu6,hu9,hu22,-⟩:=qo
    obtain ⟨b36,hu23⟩:=(show ∃ b36 : Nat,f24_ 41 = .slice (some ⟨b36,0,none⟩) 4 4 from hu23)
    obtain ⟨b21,hu1⟩:=(show ∃ b21 : Nat,f24_ 19 = .slice (some ⟨b21,0,none⟩) 2 2 from hu1)
    obtain ⟨b22,hu6⟩:=(show ∃ b22 : Nat,f24_ 24 = .slice (some ⟨b22,0,none⟩) 2 2 from hu6)
    obtain ⟨b26,hu9⟩:=(show ∃ b26 : Nat,f24_ 27 = .slice (some ⟨b26,0,none⟩) 2 2 from hu9)
    obtain ⟨b32,hu22⟩:=(show ∃ b32 : Nat,f24_ 40 = .slice (some ⟨b32,0,none⟩) 3 3 from hu22)
    obtain ⟨hr23,hr22,hr9,hr6,hr1,-⟩:=qu
    have hr23 : Item.φ (blk (vblk (f24_ 41)) [.slice (some ⟨(vblk (f24_ 19)),0,none⟩) 2 2,.slice (some ⟨(vblk (f24_ 24)),0,none⟩) 2 2,.slice (some ⟨(vblk (f24_ 27)),0,none⟩) 2 2,.slice (some ⟨(vblk (f24_ 40)),0,none⟩) 3 3] 27) w24_:=hr23
    rw [hu1,hu6,hu9,hu22,hu23] at hr23; simp only [vblk,zf,vcap,z3] at hr23
    have hr22 : Item.φ (blk (vblk (f24_ 40)) [.int .u8 ((zh m.comps.length).toNat : Int),.int .u8 ((zh m.links.length).toNat : Int),.int .u8 ((zh m.shares.length).toNat : Int)] 5) w24_:=hr22
    rw [hu22] at hr22; simp only [vblk,zf,vcap,z3] at hr22
    have hr9 : Item.φ (blk (vblk (f24_ 27)) [.int .u8 ((zh (m.full / 256)).toNat : Int),.int .u8 ((zh m.full).toNat : Int)] 5) w24_:=hr9
    rw [hu9] at hr9; simp only [vblk,zf,vcap,z3] at hr9
    have hr6 : Item.φ (blk (vblk (f24_ 24)) [.int .u8 ((jn m).toNat : Int),.int .u8 ((zh m.heap).toNat : Int)] 5) w24_:=hr6
    rw [hu6] at hr6; simp only [vblk,zf,vcap,z3] at hr6
    have hr1 : Item.φ (rdI (vblk (f24_ 19)) 0 [.int .u8 83,.int .u8 90]) w24_:=hr1
    rw [hu1] at hr1; simp only [vblk,zf,vcap,z3] at hr1
    refine qe rfl (zi (args:=[.slice (some ⟨b36,0,none⟩) 4 4]) rfl (by simp only [List.map_cons,List.map_nil,List.nil_append,List.cons_append,List.append_nil,ev,Value.cells,hu23]) rfl en41 (concat_c (some ⟨b36,0,none⟩) 4 ([⟨(some ⟨b21,0,none⟩),2,[83,90]⟩,⟨(some ⟨b22,0,none⟩),2,[jn m,zh m.heap]⟩,⟨(some ⟨b26,0,none⟩),2,twoB m.full⟩,⟨(some ⟨b32,0,none⟩),3,[zh m.comps.length,zh m.links.length,zh m.shares.length]⟩] : List SlV) _ (jb (enc:=encSl) (m:=1) (fun _=>rfl) _ (hr23) rfl) (List.forall_mem_cons.2 ⟨arr_of_rd (enc:=encB) (m:=1) (fun _=>rfl) (hr1).1 (show Rd _ _ 0 (List.flatMap encB _) from (hr1).2),List.forall_mem_cons.2 ⟨jb (enc:=encB) (m:=1) (fun _=>rfl) [jn m,zh m.heap] (hr6) rfl,List.forall_mem_cons.2 ⟨jb (enc:=encB) (m:=1) (fun _=>rfl) (twoB m.full) (hr9) rfl,List.forall_mem_cons.2 ⟨jb (enc:=encB) (m:=1) (fun _=>rfl) [zh m.comps.length,zh m.links.length,zh m.shares.length] (hr22) rfl,fun _ h=>by cases h⟩⟩⟩⟩) (by simp [twoB]) (by simp) (by simp [catB,twoB])) ?_)
    rintro _ w42 ⟨⟨a40,c41,rfl,ha44,hn45⟩,hk46⟩
    have hs43:=qk.add hk46 (ownI 5 1 a40 c41 ((je m).length) ((je m).flatMap encB)) ha44 hn45
    refine ⟨.slice a40 ((je m).length) c41,rfl,⟨_,_,rfl⟩,?_⟩
    show St _ _ _ ((ownI 5 1 (zf ((upd f24_ 42 (.slice a40 ((je m).length) c41)) 42)) (vcap ((upd f24_ 42 (.slice a40 ((je m).length) c41)) 42)) ((je m).length) ((je m).flatMap encB)) :: X24_) _
    exact hs43
   ·intro f25_ w25_ X25_ qp qo qu qk
    obtain ⟨hu24,-⟩:=qo
    obtain ⟨a40,c41,hu24⟩:=(show ∃ a40 : Option Addr,∃ c41 : Nat,f25_ 42 = .slice a40 ((je m).length) c41 from hu24)
    have qk : St _ _ _ ((ownI 5 1 (zf (f25_ 42)) (vcap (f25_ 42)) ((je m).length) ((je m).flatMap encB)) :: X25_) _:=qk
    rw [hu24] at qk; simp only [vblk,zf,vcap,z3] at qk
    refine qe rfl (qf (v:=.slice a40 ((je m).length) c41) hu24 rfl ?_)
    refine ⟨.slice a40 ((je m).length) c41,rfl,⟨_,_,rfl⟩,?_⟩
    show St _ _ _ ((ownI 5 1 (zf ((upd f25_ 4 (.slice a40 ((je m).length) c41)) 4)) (vcap ((upd f25_ 4 (.slice a40 ((je m).length) c41)) 4)) ((je m).length) ((je m).flatMap encB)) :: X25_) _
    exact qk
   intro f49 w50 qp qo hs51
   obtain ⟨hu1,hu6,hu9,hu22,hu23,hu25,-⟩:=qo
   obtain ⟨b21,hu1⟩:=(show ∃ b21 : Nat,f49 19 = .slice (some ⟨b21,0,none⟩) 2 2 from hu1)
   obtain ⟨b22,hu6⟩:=(show ∃ b22 : Nat,f49 24 = .slice (some ⟨b22,0,none⟩) 2 2 from hu6)
   obtain ⟨b26,hu9⟩:=(show ∃ b26 : Nat,f49 27 = .slice (some ⟨b26,0,none⟩) 2 2 from hu9)
   obtain ⟨b32,hu22⟩:=(show ∃ b32 : Nat,f49 40 = .slice (some ⟨b32,0,none⟩) 3 3 from hu22)
   obtain ⟨b36,hu23⟩:=(show ∃ b36 : Nat,f49 41 = .slice (some ⟨b36,0,none⟩) 4 4 from hu23)
   obtain ⟨a47,c48,hu25⟩:=(show ∃ a47 : Option Addr,∃ c48 : Nat,f49 4 = .slice a47 ((je m).length) c48 from hu25)
   have hs51 : St _ _ _ [ownI 5 1 (zf (f49 4)) (vcap (f49 4)) ((je m).length) ((je m).flatMap encB),blk (vblk (f49 41)) [.slice (some ⟨(vblk (f49 19)),0,none⟩) 2 2,.slice (some ⟨(vblk (f49 24)),0,none⟩) 2 2,.slice (some ⟨(vblk (f49 27)),0,none⟩) 2 2,.slice (some ⟨(vblk (f49 40)),0,none⟩) 3 3] 27,blk (vblk (f49 40)) [.int .u8 ((zh m.comps.length).toNat : Int),.int .u8 ((zh m.links.length).toNat : Int),.int .u8 ((zh m.shares.length).toNat : Int)] 5,blk (vblk (f49 27)) [.int .u8 ((zh (m.full / 256)).toNat : Int),.int .u8 ((zh m.full).toNat : Int)] 5,blk (vblk (f49 24)) [.int .u8 ((jn m).toNat : Int),.int .u8 ((zh m.heap).toNat : Int)] 5,rdI (vblk (f49 19)) 0 [.int .u8 83,.int .u8 90],blk b1 (qn m) 26] _:=hs51
   simp only [hu1,hu6,hu9,hu22,hu23,hu25,vblk,zf,vcap,z3] at hs51
   have hs51 : St _ _ _ [ownI 5 1 a47 c48 ((je m).length) ((je m).flatMap encB),blk b36 [.slice (some ⟨b21,0,none⟩) 2 2,.slice (some ⟨b22,0,none⟩) 2 2,.slice (some ⟨b26,0,none⟩) 2 2,.slice (some ⟨b32,0,none⟩) 3 3] 27,blk b32 [.int .u8 ((zh m.comps.length).toNat : Int),.int .u8 ((zh m.links.length).toNat : Int),.int .u8 ((zh m.shares.length).toNat : Int)] 5,blk b26 [.int .u8 ((zh (m.full / 256)).toNat : Int),.int .u8 ((zh m.full).toNat : Int)] 5,blk b22 [.int .u8 ((jn m).toNat : Int),.int .u8 ((zh m.heap).toNat : Int)] 5,rdI b21 0 [.int .u8 83,.int .u8 90],blk b1 (qn m) 26] _:=hs51
   have e52 : f49 1 = .pointer (some ⟨b1,0,none⟩):=(qp 1 rfl)
   rewrite [qm e52]
   rewrite [qm hu25]
   refine qb (qi (qi (qc ?_)))
   refine qa rfl (qg rfl jq rfl (o':=3) rfl rfl ?_)
   refine qa rfl (qq (v:=.slice m.ca m.comps.length m.ccap) rfl ag22 (qh (hs51.get 6 rfl) rfl) rfl ?_)
   refine qa rfl (qx (len:=m.comps.length) rfl un22 rfl ?_)
   refine qa rfl (qj (v:=vI 0) rfl rfl ?_)
   refine ql (qb (zy ?_))
   have he53 : je m = put1 m 0:=(List.append_nil _).symm
   have hsq:=hs51; rw [he53] at hsq
   have hs55 : St w (fun _=>False) w50 [ownI 5 1 a47 c48 ((put1 m 0).length) ((put1 m 0).flatMap encB),blk b1 (qn m) 26] (kh m):=(hsq.sel [0,6] _ rfl (by decide))
   refine kw (fun m_ f_ w_=>∃ k : Nat,∃ a5 : Option Addr,∃ c5 : Nat,m_ = m.comps.length - k ∧ (k ≤ m.comps.length) ∧ f_ 1 = .pointer (some ⟨b1,0,none⟩) ∧ f_ 4 = .slice a5 ((put1 m k).length) c5 ∧ f_ 44 = .slice m.ca m.comps.length m.ccap ∧ f_ 45 = vI ((m.comps.length : Nat) : Int) ∧ f_ 46 = vI ((k : Nat) : Int) ∧ St w (fun _=>False) w_ [ownI 5 1 a5 c5 ((put1 m k).length) ((put1 m k).flatMap encB),blk b1 (qn m) 26] (kh m)) ?_ ?_
   ·exact ⟨_,0,a47,c48,rfl,by omega,rfl,(congrArg (fun z : List UInt8=>Value.slice a47 z.length c48) he53),rfl,rfl,rfl,hs55⟩
   ·intro m59 f56 w57; rintro ⟨k,a5,c5,rfl,hk,e60,e61,e62,e63,e64,hs58⟩
    rewrite [qm e60]
    rewrite [qm e61]
    rewrite [qm e62]
    rewrite [qm e63]
    rewrite [qm e64]
    refine qi (qc ?_)
    refine qa rfl (qt (k:=.i64) (k':=.i64) (a:=((k : Nat) : Int)) (b:=((m.comps.length : Nat) : Int)) rfl rfl rfl jg ?_)
    refine ql (qb (qi ?_))
    refine zd rfl (fun hc65=>?_) (fun hc65=>?_)
    ·refine zn (qb (qi (zy (qi (qc ?_)))))
     obtain ⟨b66,o67,ha68,hs69⟩:=hs58.elem 0 rfl k (by omega)
     refine qa rfl (qs rfl ha68 rfl un22 sz53 (by omega) (by omega) (o':=o67 + k * 2) (by omega) rfl ?_)
     refine qa rfl (qw (vs:=[.slice ((m.comps[k]'(by omega)).a) ((m.comps[k]'(by omega)).code.length) ((m.comps[k]'(by omega)).cap),vI ((m.comps[k]'(by omega)).data)]) rfl ag53 sz53 ((hs69.getR 0 rfl).2) rfl rfl ?_)
     refine qa rfl (kk (cs:=[.slice none 0 0,vI 0]) hs69 zv53 rfl rfl ?_)
     intro b70 w71 hb73 hs72
     refine qa rfl (zx (v:=.agg #[.slice ((m.comps[k]'(by omega)).a) ((m.comps[k]'(by omega)).code.length) ((m.comps[k]'(by omega)).cap),vI ((m.comps[k]'(by omega)).data)]) (vs:=[.slice ((m.comps[k]'(by omega)).a) ((m.comps[k]'(by omega)).code.length) ((m.comps[k]'(by omega)).cap),vI ((m.comps[k]'(by omega)).data)]) (cs':=[.slice ((m.comps[k]'(by omega)).a) ((m.comps[k]'(by omega)).code.length) ((m.comps[k]'(by omega)).cap),vI ((m.comps[k]'(by omega)).data)]) hs72 0 rfl rfl rfl sz53 rfl rfl rfl rfl rfl ?_)
     intro w74 hs75
     refine ql (qb ?_)
     have hco:=hb.co _ (List.getElem_mem (by omega : k < m.comps.length))
     refine jc js (show St _ _ _ [blk b70 [.slice ((m.comps[k]'(by omega)).a) ((m.comps[k]'(by omega)).code.length) ((m.comps[k]'(by omega)).cap),vI ((m.comps[k]'(by omega)).data)] 53,ownI 5 1 a5 c5 ((put1 m k).length) ((put1 m k).flatMap encB),blk b1 (qn m) 26] _ from hs75) (fun i_=>match i_ with|4=>some ([54],fun vs_=>match vs_ with|[x54]=>blk (vblk x54) [.int .u8 ((zh ((((m.comps[k]'(by omega)).code.length : Nat) : Int) / 256)).toNat : Int),.int .u8 ((zh (((m.comps[k]'(by omega)).code.length : Nat) : Int)).toNat : Int)] 5|_=>emp)|5=>some ([55],fun vs_=>match vs_ with|[x55]=>ownI 5 1 (zf x55) (vcap x55) ((put1 m k ++ twoB ((m.comps[k]'(by omega)).code.length : Nat)).length) ((put1 m k ++ twoB ((m.comps[k]'(by omega)).code.length : Nat)).flatMap encB)|_=>emp)|9=>some ([59],fun vs_=>match vs_ with|[x59]=>blk (vblk x59) [.int .u8 ((zh ((m.comps[k]'(by omega)).data)).toNat : Int)] 5|_=>emp)|10=>some ([60],fun vs_=>match vs_ with|[x60]=>ownI 5 1 (zf x60) (vcap x60) ((put1 m (k + 1)).length) ((put1 m (k + 1)).flatMap encB)|_=>emp)|11=>some ([4],fun vs_=>match vs_ with|[x4]=>ownI 5 1 (zf x4) (vcap x4) ((put1 m (k + 1)).length) ((put1 m (k + 1)).flatMap encB)|_=>emp)|_=>none) (fun i_=>match i_ with|5=>[13]|10=>[5]|11=>[10]|_=>[]) (fun i_=>match i_ with|2=>[12]|5=>[4]|7=>[12]|10=>[9]|_=>[]) (fun i_=>match i_ with|2=>[1]|3=>[2]|4=>[3]|5=>[0,4]|7=>[6]|8=>[7]|9=>[8]|10=>[5,9]|11=>[10]|_=>[]) [9,4,12,11,14,0,1,2,3,6,7,8,15,16,17,18,19,20,21,22,23,24,25,26] [4,9,11] (fun i_ v_=>match i_ with|0=>v_ = .slice a5 ((put1 m k).length) c5|1=>v_ = .pointer (some ⟨b70,0,none⟩)|2=>v_ = .slice ((m.comps[k]'(by omega)).a) ((m.comps[k]'(by omega)).code.length) ((m.comps[k]'(by omega)).cap)|3=>v_ = vI (((m.comps[k]'(by omega)).code.length : Nat) : Int)|4=>∃ b76 : Nat,v_ = .slice (some ⟨b76,0,none⟩) 2 2|5=>∃ a82 : Option Addr,∃ c83 : Nat,v_ = .slice a82 ((put1 m k ++ twoB ((m.comps[k]'(by omega)).code.length : Nat)).length) c83|6=>v_ = .pointer (some ⟨b70,1,none⟩)|7=>v_ = vI ((m.comps[k]'(by omega)).data)|8=>v_ = .int .u8 ((zh ((m.comps[k]'(by omega)).data)).toNat : Int)|9=>∃ b86 : Nat,v_ = .slice (some ⟨b86,0,none⟩) 1 1|10=>∃ a90 : Option Addr,∃ c91 : Nat,v_ = .slice a90 ((put1 m (k + 1)).length) c91|11=>∃ a94 : Option Addr,∃ c95 : Nat,v_ = .slice a94 ((put1 m (k + 1)).length) c95|_=>True) (by kernel_rfl) (by kernel_rfl) ⟨?_,?_,?_,?_,?_,?_,?_,?_,?_,?_,?_,?_,trivial⟩ ?_
     ·intro f0_ w0_ X0_ qp qo qu qk
      have hb4 : f0_ 4 = .slice a5 ((put1 m k).length) c5:=(qp 4 rfl)
      refine qe rfl (qj (v:=.slice a5 ((put1 m k).length) c5) hb4 rfl ?_)
      exact ⟨.slice a5 ((put1 m k).length) c5,rfl,rfl,qk⟩
     ·intro f1_ w1_ X1_ qp qo qu qk
      have hb6 : f1_ 6 = .pointer (some ⟨b70,0,none⟩):=(qp 6 rfl)
      refine qe rfl (qg hb6 ym rfl (o':=0) rfl rfl ?_)
      exact ⟨.pointer (some ⟨b70,0,none⟩),rfl,rfl,qk⟩
     ·intro f2_ w2_ X2_ qp qo qu qk
      obtain ⟨hu1,-⟩:=qo
      have hu1 : f2_ 51 = .pointer (some ⟨b70,0,none⟩):=hu1
      obtain ⟨hr12,-⟩:=qu
      have hr12 : Item.φ (blk b70 [.slice ((m.comps[k]'(by omega)).a) ((m.comps[k]'(by omega)).code.length) ((m.comps[k]'(by omega)).cap),vI ((m.comps[k]'(by omega)).data)] 53) w2_:=hr12
      refine qe rfl (qq (v:=.slice ((m.comps[k]'(by omega)).a) ((m.comps[k]'(by omega)).code.length) ((m.comps[k]'(by omega)).cap)) hu1 ag27 (qh (hr12) rfl) rfl ?_)
      exact ⟨.slice ((m.comps[k]'(by omega)).a) ((m.comps[k]'(by omega)).code.length) ((m.comps[k]'(by omega)).cap),rfl,rfl,qk⟩
     ·intro f3_ w3_ X3_ qp qo qu qk
      obtain ⟨hu2,-⟩:=qo
      have hu2 : f3_ 52 = .slice ((m.comps[k]'(by omega)).a) ((m.comps[k]'(by omega)).code.length) ((m.comps[k]'(by omega)).cap):=hu2
      refine qe rfl (qx (len:=((m.comps[k]'(by omega)).code.length)) hu2 un27 rfl ?_)
      exact ⟨vI (((m.comps[k]'(by omega)).code.length : Nat) : Int),rfl,rfl,qk⟩
     ·intro f4_ w4_ X4_ qp qo qu qk
      obtain ⟨hu3,-⟩:=qo
      have hu3 : f4_ 53 = vI (((m.comps[k]'(by omega)).code.length : Nat) : Int):=hu3
      refine qe rfl (zi (args:=[vI (((m.comps[k]'(by omega)).code.length : Nat) : Int)]) rfl (by simp only [List.map_cons,List.map_nil,List.nil_append,List.cons_append,List.append_nil,ev,Value.cells,hu3]) rfl en42 (two_c (((m.comps[k]'(by omega)).code.length : Nat) : Int) _) ?_)
      rintro _ w77 ⟨⟨b76,rfl,ha79,hn80⟩,hk81⟩
      have hs78:=qk.add hk81 (blk b76 [.int .u8 ((zh ((((m.comps[k]'(by omega)).code.length : Nat) : Int) / 256)).toNat : Int),.int .u8 ((zh (((m.comps[k]'(by omega)).code.length : Nat) : Int)).toNat : Int)] 5) ha79 hn80
      refine ⟨.slice (some ⟨b76,0,none⟩) 2 2,rfl,⟨_,rfl⟩,?_⟩
      show St _ _ _ ((blk (vblk ((upd f4_ 54 (.slice (some ⟨b76,0,none⟩) 2 2)) 54)) [.int .u8 ((zh ((((m.comps[k]'(by omega)).code.length : Nat) : Int) / 256)).toNat : Int),.int .u8 ((zh (((m.comps[k]'(by omega)).code.length : Nat) : Int)).toNat : Int)] 5) :: X4_) _
      exact hs78
     ·intro f5_ w5_ X5_ qp qo qu qk
      obtain ⟨hu0,hu4,-⟩:=qo
      have hu0 : f5_ 50 = .slice a5 ((put1 m k).length) c5:=hu0
      obtain ⟨b76,hu4⟩:=(show ∃ b76 : Nat,f5_ 54 = .slice (some ⟨b76,0,none⟩) 2 2 from hu4)
      have qk : St _ _ _ ((ownI 5 1 a5 c5 ((put1 m k).length) ((put1 m k).flatMap encB)) :: X5_) _:=qk
      obtain ⟨hr4,-⟩:=qu
      have hr4 : Item.φ (blk (vblk (f5_ 54)) [.int .u8 ((zh ((((m.comps[k]'(by omega)).code.length : Nat) : Int) / 256)).toNat : Int),.int .u8 ((zh (((m.comps[k]'(by omega)).code.length : Nat) : Int)).toNat : Int)] 5) w5_:=hr4
      rw [hu4] at hr4; simp only [vblk,zf,vcap,z3] at hr4
      refine qe rfl (k7 (n2:=(put1 m k ++ twoB ((m.comps[k]'(by omega)).code.length : Nat)).length) (xs2:=(put1 m k ++ twoB ((m.comps[k]'(by omega)).code.length : Nat)).flatMap encB) qk 0 rfl hu0 hu4 un27 ni27 inf5 rfl (Src.rd (news:=[.int .u8 ((zh ((((m.comps[k]'(by omega)).code.length : Nat) : Int) / 256)).toNat : Int),.int .u8 ((zh (((m.comps[k]'(by omega)).code.length : Nat) : Int)).toNat : Int)]) (Rd.of_blk (hr4) 0 2) rfl rfl) (by simp [twoB]) ((flat_app (put1 m k) (twoB ((m.comps[k]'(by omega)).code.length : Nat)))) (by have h8:=put1_len m k; simp [twoB] <;> omega) (by have h8:=put1_len m k; simp [twoB] <;> omega) rfl ?_)
      intro a82 c83 w84 hs85
      refine ⟨.slice a82 ((put1 m k ++ twoB ((m.comps[k]'(by omega)).code.length : Nat)).length) c83,rfl,⟨_,_,rfl⟩,?_⟩
      show St _ _ _ ((ownI 5 1 (zf ((upd f5_ 55 (.slice a82 ((put1 m k ++ twoB ((m.comps[k]'(by omega)).code.length : Nat)).length) c83)) 55)) (vcap ((upd f5_ 55 (.slice a82 ((put1 m k ++ twoB ((m.comps[k]'(by omega)).code.length : Nat)).length) c83)) 55)) ((put1 m k ++ twoB ((m.comps[k]'(by omega)).code.length : Nat)).length) ((put1 m k ++ twoB ((m.comps[k]'(by omega)).code.length : Nat)).flatMap encB)) :: X5_) _
      exact hs85
     ·intro f6_ w6_ X6_ qp qo qu qk
      have hb6 : f6_ 6 = .pointer (some ⟨b70,0,none⟩):=(qp 6 rfl)
      refine qe rfl (qg hb6 fd53_1 rfl (o':=1) rfl rfl ?_)
      exact ⟨.pointer (some ⟨b70,1,none⟩),rfl,rfl,qk⟩
     ·intro f7_ w7_ X7_ qp qo qu qk
      obtain ⟨hu6,-⟩:=qo
      have hu6 : f7_ 56 = .pointer (some ⟨b70,1,none⟩):=hu6
      obtain ⟨hr12,-⟩:=qu
      have hr12 : Item.φ (blk b70 [.slice ((m.comps[k]'(by omega)).a) ((m.comps[k]'(by omega)).code.length) ((m.comps[k]'(by omega)).cap),vI ((m.comps[k]'(by omega)).data)] 53) w7_:=hr12
      refine qe rfl (qq (v:=vI ((m.comps[k]'(by omega)).data)) hu6 ag3 (qh (hr12) rfl) rfl ?_)
      exact ⟨vI ((m.comps[k]'(by omega)).data),rfl,rfl,qk⟩
     ·intro f8_ w8_ X8_ qp qo qu qk
      obtain ⟨hu7,-⟩:=qo
      have hu7 : f8_ 57 = vI ((m.comps[k]'(by omega)).data):=hu7
      refine qe rfl (ky hu7 un3 un5 rfl (c:=((zh ((m.comps[k]'(by omega)).data)).toNat : Int)) (xm _) ?_)
      exact ⟨.int .u8 ((zh ((m.comps[k]'(by omega)).data)).toNat : Int),rfl,rfl,qk⟩
     ·intro f9_ w9_ X9_ qp qo qu qk
      obtain ⟨hu8,-⟩:=qo
      have hu8 : f9_ 58 = .int .u8 ((zh ((m.comps[k]'(by omega)).data)).toNat : Int):=hu8
      refine qe rfl (zz (zs:=[.int .u8 0]) (ps:=[(0,[.int .u8 ((zh ((m.comps[k]'(by omega)).data)).toNat : Int)])]) (cs:=[.int .u8 ((zh ((m.comps[k]'(by omega)).data)).toNat : Int)]) qk un27 sz5 zv5 rfl rfl (by simp only [List.map_cons,List.map_nil,List.nil_append,List.cons_append,List.append_nil,ev,Value.cells,hu8]) rfl rfl ?_)
      intro b86 w87 hb89 hs88
      refine ⟨.slice (some ⟨b86,0,none⟩) 1 1,rfl,⟨_,rfl⟩,?_⟩
      show St _ _ _ ((blk (vblk ((upd f9_ 59 (.slice (some ⟨b86,0,none⟩) 1 1)) 59)) [.int .u8 ((zh ((m.comps[k]'(by omega)).data)).toNat : Int)] 5) :: X9_) _
      exact hs88
     ·intro f10_ w10_ X10_ qp qo qu qk
      obtain ⟨hu5,hu9,-⟩:=qo
      obtain ⟨a82,c83,hu5⟩:=(show ∃ a82 : Option Addr,∃ c83 : Nat,f10_ 55 = .slice a82 ((put1 m k ++ twoB ((m.comps[k]'(by omega)).code.length : Nat)).length) c83 from hu5)
      obtain ⟨b86,hu9⟩:=(show ∃ b86 : Nat,f10_ 59 = .slice (some ⟨b86,0,none⟩) 1 1 from hu9)
      have qk : St _ _ _ ((ownI 5 1 (zf (f10_ 55)) (vcap (f10_ 55)) ((put1 m k ++ twoB ((m.comps[k]'(by omega)).code.length : Nat)).length) ((put1 m k ++ twoB ((m.comps[k]'(by omega)).code.length : Nat)).flatMap encB)) :: X10_) _:=qk
      rw [hu5] at qk; simp only [vblk,zf,vcap,z3] at qk
      obtain ⟨hr9,-⟩:=qu
      have hr9 : Item.φ (blk (vblk (f10_ 59)) [.int .u8 ((zh ((m.comps[k]'(by omega)).data)).toNat : Int)] 5) w10_:=hr9
      rw [hu9] at hr9; simp only [vblk,zf,vcap,z3] at hr9
      refine qe rfl (k7 (n2:=(put1 m (k + 1)).length) (xs2:=(put1 m (k + 1)).flatMap encB) qk 0 rfl hu5 hu9 un27 ni27 inf5 rfl (Src.rd (news:=[.int .u8 ((zh ((m.comps[k]'(by omega)).data)).toNat : Int)]) (Rd.of_blk (hr9) 0 1) rfl rfl) (by rw [← (put1_succ (by omega : k < m.comps.length))]; simp [putComp,twoB]) (by rw [← (put1_succ (by omega : k < m.comps.length))]; simp [putComp,twoB,encB]) (by have h8:=put1_len m k; simp [twoB] <;> omega) (by have h8:=put1_len m k; simp [twoB] <;> omega) rfl ?_)
      intro a90 c91 w92 hs93
      refine ⟨.slice a90 ((put1 m (k + 1)).length) c91,rfl,⟨_,_,rfl⟩,?_⟩
      show St _ _ _ ((ownI 5 1 (zf ((upd f10_ 60 (.slice a90 ((put1 m (k + 1)).length) c91)) 60)) (vcap ((upd f10_ 60 (.slice a90 ((put1 m (k + 1)).length) c91)) 60)) ((put1 m (k + 1)).length) ((put1 m (k + 1)).flatMap encB)) :: X10_) _
      exact hs93
     ·intro f11_ w11_ X11_ qp qo qu qk
      obtain ⟨hu10,-⟩:=qo
      obtain ⟨a90,c91,hu10⟩:=(show ∃ a90 : Option Addr,∃ c91 : Nat,f11_ 60 = .slice a90 ((put1 m (k + 1)).length) c91 from hu10)
      have qk : St _ _ _ ((ownI 5 1 (zf (f11_ 60)) (vcap (f11_ 60)) ((put1 m (k + 1)).length) ((put1 m (k + 1)).flatMap encB)) :: X11_) _:=qk
      rw [hu10] at qk; simp only [vblk,zf,vcap,z3] at qk
      refine qe rfl (qf (v:=.slice a90 ((put1 m (k + 1)).length) c91) hu10 rfl ?_)
      refine ⟨.slice a90 ((put1 m (k + 1)).length) c91,rfl,⟨_,_,rfl⟩,?_⟩
      show St _ _ _ ((ownI 5 1 (zf ((upd f11_ 4 (.slice a90 ((put1 m (k + 1)).length) c91)) 4)) (vcap ((upd f11_ 4 (.slice a90 ((put1 m (k + 1)).length) c91)) 4)) ((put1 m (k + 1)).length) ((put1 m (k + 1)).flatMap encB)) :: X11_) _
      exact qk
     intro f96 w97 qp qo hs98
     obtain ⟨hu4,hu9,hu11,-⟩:=qo
     obtain ⟨b76,hu4⟩:=(show ∃ b76 : Nat,f96 54 = .slice (some ⟨b76,0,none⟩) 2 2 from hu4)
     obtain ⟨b86,hu9⟩:=(show ∃ b86 : Nat,f96 59 = .slice (some ⟨b86,0,none⟩) 1 1 from hu9)
     obtain ⟨a94,c95,hu11⟩:=(show ∃ a94 : Option Addr,∃ c95 : Nat,f96 4 = .slice a94 ((put1 m (k + 1)).length) c95 from hu11)
     have hs98 : St _ _ _ [blk (vblk (f96 59)) [.int .u8 ((zh ((m.comps[k]'(by omega)).data)).toNat : Int)] 5,blk (vblk (f96 54)) [.int .u8 ((zh ((((m.comps[k]'(by omega)).code.length : Nat) : Int) / 256)).toNat : Int),.int .u8 ((zh (((m.comps[k]'(by omega)).code.length : Nat) : Int)).toNat : Int)] 5,blk b70 [.slice ((m.comps[k]'(by omega)).a) ((m.comps[k]'(by omega)).code.length) ((m.comps[k]'(by omega)).cap),vI ((m.comps[k]'(by omega)).data)] 53,ownI 5 1 (zf (f96 4)) (vcap (f96 4)) ((put1 m (k + 1)).length) ((put1 m (k + 1)).flatMap encB),blk b1 (qn m) 26] _:=hs98
     simp only [hu4,hu9,hu11,vblk,zf,vcap,z3] at hs98
     have hs98 : St _ _ _ [blk b86 [.int .u8 ((zh ((m.comps[k]'(by omega)).data)).toNat : Int)] 5,blk b76 [.int .u8 ((zh ((((m.comps[k]'(by omega)).code.length : Nat) : Int) / 256)).toNat : Int),.int .u8 ((zh (((m.comps[k]'(by omega)).code.length : Nat) : Int)).toNat : Int)] 5,blk b70 [.slice ((m.comps[k]'(by omega)).a) ((m.comps[k]'(by omega)).code.length) ((m.comps[k]'(by omega)).cap),vI ((m.comps[k]'(by omega)).data)] 53,ownI 5 1 a94 c95 ((put1 m (k + 1)).length) ((put1 m (k + 1)).flatMap encB),blk b1 (qn m) 26] _:=hs98
     have e99 : f96 1 = .pointer (some ⟨b1,0,none⟩):=(qp 1 rfl)
     rewrite [qm e99]
     rewrite [qm hu11]
     have e100 : f96 44 = .slice m.ca m.comps.length m.ccap:=(qp 44 rfl)
     rewrite [qm e100]
     have e101 : f96 45 = vI ((m.comps.length : Nat) : Int):=(qp 45 rfl)
     rewrite [qm e101]
     have e102 : f96 46 = vI ((k : Nat) : Int):=(qp 46 rfl)
     rewrite [qm e102]
     refine z7 (qb (qc ?_))
     refine qa rfl (qt (v:=vI ((k + 1 : Nat) : Int)) rfl rfl rfl (ki (qz (by omega) (by omega))) ?_)
     refine qa rfl (qj (v:=vI ((k + 1 : Nat) : Int)) rfl rfl ?_)
     refine ql (qb ?_)
     refine ⟨_,?_,k + 1,a94,c95,rfl,by omega,rfl,rfl,rfl,rfl,rfl,hs98.popR.popM.popM.popM⟩
     omega
    ·refine ja (z0 (z0 (ke (qb (qi (qi (qc ?_)))))))
     refine qa rfl (qg rfl xx rfl (o':=4) rfl rfl ?_)
     refine qa rfl (qq (v:=.slice m.la m.links.length m.lcap) rfl ag23 (qh (hs58.get 1 rfl) rfl) rfl ?_)
     refine qa rfl (qx (len:=m.links.length) rfl un23 rfl ?_)
     refine qa rfl (qj (v:=vI 0) rfl rfl ?_)
     refine ql (qb (zy ?_))
     have he103 : put1 m k = put2 m 0:=put2_0 (by omega)
     have hsq:=hs58; rw [he103] at hsq
     have hs105 : St w (fun _=>False) w57 [ownI 5 1 a5 c5 ((put2 m 0).length) ((put2 m 0).flatMap encB),blk b1 (qn m) 26] (kh m):=hsq
     refine kw (fun m_ f_ w_=>∃ k : Nat,∃ a5 : Option Addr,∃ c5 : Nat,m_ = m.links.length - k ∧ (k ≤ m.links.length) ∧ f_ 1 = .pointer (some ⟨b1,0,none⟩) ∧ f_ 4 = .slice a5 ((put2 m k).length) c5 ∧ f_ 63 = .slice m.la m.links.length m.lcap ∧ f_ 64 = vI ((m.links.length : Nat) : Int) ∧ f_ 65 = vI ((k : Nat) : Int) ∧ St w (fun _=>False) w_ [ownI 5 1 a5 c5 ((put2 m k).length) ((put2 m k).flatMap encB),blk b1 (qn m) 26] (kh m)) ?_ ?_
     ·exact ⟨_,0,a5,c5,rfl,by omega,rfl,(congrArg (fun z : List UInt8=>Value.slice a5 z.length c5) he103),rfl,rfl,rfl,hs105⟩
     ·intro m109 f106 w107; rintro ⟨k,a5,c5,rfl,hk,e110,e111,e112,e113,e114,hs108⟩
      rewrite [qm e110]
      rewrite [qm e111]
      rewrite [qm e112]
      rewrite [qm e113]
      rewrite [qm e114]
      refine qi (qc ?_)
      refine qa rfl (qt (k:=.i64) (k':=.i64) (a:=((k : Nat) : Int)) (b:=((m.links.length : Nat) : Int)) rfl rfl rfl jg ?_)
      refine ql (qb (qi ?_))
      refine zd rfl (fun hc115=>?_) (fun hc115=>?_)
      ·refine zn (qb (qi (zy (qi (qc ?_)))))
       obtain ⟨b116,o117,ha118,hs119⟩:=hs108.elem 1 rfl k (by omega)
       refine qa rfl (qs rfl ha118 rfl un23 sz68 (by omega) (by omega) (o':=o117 + k * 3) (by omega) rfl ?_)
       refine qa rfl (qw (vs:=[vI ((m.links[k]'(by omega)).fr),vI ((m.links[k]'(by omega)).to),vI ((m.links[k]'(by omega)).ad)]) rfl ag68 sz68 ((hs119.getR 0 rfl).2) rfl rfl ?_)
       refine qa rfl (kk (cs:=[vI 0,vI 0,vI 0]) hs119 zv68 rfl rfl ?_)
       intro b120 w121 hb123 hs122
       refine qa rfl (zx (v:=.agg #[vI ((m.links[k]'(by omega)).fr),vI ((m.links[k]'(by omega)).to),vI ((m.links[k]'(by omega)).ad)]) (vs:=[vI ((m.links[k]'(by omega)).fr),vI ((m.links[k]'(by omega)).to),vI ((m.links[k]'(by omega)).ad)]) (cs':=[vI ((m.links[k]'(by omega)).fr),vI ((m.links[k]'(by omega)).to),vI ((m.links[k]'(by omega)).ad)]) hs122 0 rfl rfl rfl sz68 rfl rfl rfl rfl rfl ?_)
       intro w124 hs125
       refine ql (qb ?_)
       refine jc js (show St _ _ _ [blk b120 [vI ((m.links[k]'(by omega)).fr),vI ((m.links[k]'(by omega)).to),vI ((m.links[k]'(by omega)).ad)] 68,ownI 5 1 a5 c5 ((put2 m k).length) ((put2 m k).flatMap encB),blk b1 (qn m) 26] _ from hs125) (fun i_=>match i_ with|7=>some ([76],fun vs_=>match vs_ with|[x76]=>blk (vblk x76) [.int .u8 ((zh ((m.links[k]'(by omega)).fr)).toNat : Int),.int .u8 ((zh ((m.links[k]'(by omega)).to)).toNat : Int)] 5|_=>emp)|8=>some ([77],fun vs_=>match vs_ with|[x77]=>ownI 5 1 (zf x77) (vcap x77) ((put2 m k ++ [zh (m.links[k]'(by omega)).fr,zh (m.links[k]'(by omega)).to]).length) ((put2 m k ++ [zh (m.links[k]'(by omega)).fr,zh (m.links[k]'(by omega)).to]).flatMap encB)|_=>emp)|11=>some ([80],fun vs_=>match vs_ with|[x80]=>blk (vblk x80) [.int .u8 ((zh (((m.links[k]'(by omega)).ad) / 256)).toNat : Int),.int .u8 ((zh ((m.links[k]'(by omega)).ad)).toNat : Int)] 5|_=>emp)|12=>some ([81],fun vs_=>match vs_ with|[x81]=>ownI 5 1 (zf x81) (vcap x81) ((put2 m (k + 1)).length) ((put2 m (k + 1)).flatMap encB)|_=>emp)|13=>some ([4],fun vs_=>match vs_ with|[x4]=>ownI 5 1 (zf x4) (vcap x4) ((put2 m (k + 1)).length) ((put2 m (k + 1)).flatMap encB)|_=>emp)|_=>none) (fun i_=>match i_ with|8=>[15]|12=>[8]|13=>[12]|_=>[]) (fun i_=>match i_ with|2=>[14]|5=>[14]|8=>[7]|10=>[14]|12=>[11]|_=>[]) (fun i_=>match i_ with|2=>[1]|3=>[2]|5=>[4]|6=>[5]|7=>[3,6]|8=>[0,7]|10=>[9]|11=>[10]|12=>[8,11]|13=>[12]|_=>[]) [11,7,14,13,16,0,1,2,3,4,5,6,9,10,17,18,19,20,21,22,23,24,25,26,27,28,29,30] [7,11,13] (fun i_ v_=>match i_ with|0=>v_ = .slice a5 ((put2 m k).length) c5|1=>v_ = .pointer (some ⟨b120,0,none⟩)|2=>v_ = vI ((m.links[k]'(by omega)).fr)|3=>v_ = .int .u8 ((zh ((m.links[k]'(by omega)).fr)).toNat : Int)|4=>v_ = .pointer (some ⟨b120,1,none⟩)|5=>v_ = vI ((m.links[k]'(by omega)).to)|6=>v_ = .int .u8 ((zh ((m.links[k]'(by omega)).to)).toNat : Int)|7=>∃ b126 : Nat,v_ = .slice (some ⟨b126,0,none⟩) 2 2|8=>∃ a130 : Option Addr,∃ c131 : Nat,v_ = .slice a130 ((put2 m k ++ [zh (m.links[k]'(by omega)).fr,zh (m.links[k]'(by omega)).to]).length) c131|9=>v_ = .pointer (some ⟨b120,2,none⟩)|10=>v_ = vI ((m.links[k]'(by omega)).ad)|11=>∃ b134 : Nat,v_ = .slice (some ⟨b134,0,none⟩) 2 2|12=>∃ a140 : Option Addr,∃ c141 : Nat,v_ = .slice a140 ((put2 m (k + 1)).length) c141|13=>∃ a144 : Option Addr,∃ c145 : Nat,v_ = .slice a144 ((put2 m (k + 1)).length) c145|_=>True) (by kernel_rfl) (by kernel_rfl) ⟨?_,?_,?_,?_,?_,?_,?_,?_,?_,?_,?_,?_,?_,?_,trivial⟩ ?_
       ·intro f0_ w0_ X0_ qp qo qu qk
        have hb4 : f0_ 4 = .slice a5 ((put2 m k).length) c5:=(qp 4 rfl)
        refine qe rfl (qj (v:=.slice a5 ((put2 m k).length) c5) hb4 rfl ?_)
        exact ⟨.slice a5 ((put2 m k).length) c5,rfl,rfl,qk⟩
       ·intro f1_ w1_ X1_ qp qo qu qk
        have hb8 : f1_ 8 = .pointer (some ⟨b120,0,none⟩):=(qp 8 rfl)
        refine qe rfl (qg hb8 fd68_0 rfl (o':=0) rfl rfl ?_)
        exact ⟨.pointer (some ⟨b120,0,none⟩),rfl,rfl,qk⟩
       ·intro f2_ w2_ X2_ qp qo qu qk
        obtain ⟨hu1,-⟩:=qo
        have hu1 : f2_ 70 = .pointer (some ⟨b120,0,none⟩):=hu1
        obtain ⟨hr14,-⟩:=qu
        have hr14 : Item.φ (blk b120 [vI ((m.links[k]'(by omega)).fr),vI ((m.links[k]'(by omega)).to),vI ((m.links[k]'(by omega)).ad)] 68) w2_:=hr14
        refine qe rfl (qq (v:=vI ((m.links[k]'(by omega)).fr)) hu1 ag3 (qh (hr14) rfl) rfl ?_)
        exact ⟨vI ((m.links[k]'(by omega)).fr),rfl,rfl,qk⟩
       ·intro f3_ w3_ X3_ qp qo qu qk
        obtain ⟨hu2,-⟩:=qo
        have hu2 : f3_ 71 = vI ((m.links[k]'(by omega)).fr):=hu2
        refine qe rfl (ky hu2 un3 un5 rfl (c:=((zh ((m.links[k]'(by omega)).fr)).toNat : Int)) (xm _) ?_)
        exact ⟨.int .u8 ((zh ((m.links[k]'(by omega)).fr)).toNat : Int),rfl,rfl,qk⟩
       ·intro f4_ w4_ X4_ qp qo qu qk
        have hb8 : f4_ 8 = .pointer (some ⟨b120,0,none⟩):=(qp 8 rfl)
        refine qe rfl (qg hb8 fd68_1 rfl (o':=1) rfl rfl ?_)
        exact ⟨.pointer (some ⟨b120,1,none⟩),rfl,rfl,qk⟩
       ·intro f5_ w5_ X5_ qp qo qu qk
        obtain ⟨hu4,-⟩:=qo
        have hu4 : f5_ 73 = .pointer (some ⟨b120,1,none⟩):=hu4
        obtain ⟨hr14,-⟩:=qu
        have hr14 : Item.φ (blk b120 [vI ((m.links[k]'(by omega)).fr),vI ((m.links[k]'(by omega)).to),vI ((m.links[k]'(by omega)).ad)] 68) w5_:=hr14
        refine qe rfl (qq (v:=vI ((m.links[k]'(by omega)).to)) hu4 ag3 (qh (hr14) rfl) rfl ?_)
        exact ⟨vI ((m.links[k]'(by omega)).to),rfl,rfl,qk⟩
       ·intro f6_ w6_ X6_ qp qo qu qk
        obtain ⟨hu5,-⟩:=qo
        have hu5 : f6_ 74 = vI ((m.links[k]'(by omega)).to):=hu5
        refine qe rfl (ky hu5 un3 un5 rfl (c:=((zh ((m.links[k]'(by omega)).to)).toNat : Int)) (xm _) ?_)
        exact ⟨.int .u8 ((zh ((m.links[k]'(by omega)).to)).toNat : Int),rfl,rfl,qk⟩
       ·intro f7_ w7_ X7_ qp qo qu qk
        obtain ⟨hu3,hu6,-⟩:=qo
        have hu3 : f7_ 72 = .int .u8 ((zh ((m.links[k]'(by omega)).fr)).toNat : Int):=hu3
        have hu6 : f7_ 75 = .int .u8 ((zh ((m.links[k]'(by omega)).to)).toNat : Int):=hu6
        refine qe rfl (zz (zs:=[.int .u8 0,.int .u8 0]) (ps:=[(0,[.int .u8 ((zh ((m.links[k]'(by omega)).fr)).toNat : Int)]),(1,[.int .u8 ((zh ((m.links[k]'(by omega)).to)).toNat : Int)])]) (cs:=[.int .u8 ((zh ((m.links[k]'(by omega)).fr)).toNat : Int),.int .u8 ((zh ((m.links[k]'(by omega)).to)).toNat : Int)]) qk un27 sz5 zv5 rfl rfl (by simp only [List.map_cons,List.map_nil,List.nil_append,List.cons_append,List.append_nil,ev,Value.cells,hu3,hu6]) rfl rfl ?_)
        intro b126 w127 hb129 hs128
        refine ⟨.slice (some ⟨b126,0,none⟩) 2 2,rfl,⟨_,rfl⟩,?_⟩
        show St _ _ _ ((blk (vblk ((upd f7_ 76 (.slice (some ⟨b126,0,none⟩) 2 2)) 76)) [.int .u8 ((zh ((m.links[k]'(by omega)).fr)).toNat : Int),.int .u8 ((zh ((m.links[k]'(by omega)).to)).toNat : Int)] 5) :: X7_) _
        exact hs128
       ·intro f8_ w8_ X8_ qp qo qu qk
        obtain ⟨hu0,hu7,-⟩:=qo
        have hu0 : f8_ 69 = .slice a5 ((put2 m k).length) c5:=hu0
        obtain ⟨b126,hu7⟩:=(show ∃ b126 : Nat,f8_ 76 = .slice (some ⟨b126,0,none⟩) 2 2 from hu7)
        have qk : St _ _ _ ((ownI 5 1 a5 c5 ((put2 m k).length) ((put2 m k).flatMap encB)) :: X8_) _:=qk
        obtain ⟨hr7,-⟩:=qu
        have hr7 : Item.φ (blk (vblk (f8_ 76)) [.int .u8 ((zh ((m.links[k]'(by omega)).fr)).toNat : Int),.int .u8 ((zh ((m.links[k]'(by omega)).to)).toNat : Int)] 5) w8_:=hr7
        rw [hu7] at hr7; simp only [vblk,zf,vcap,z3] at hr7
        refine qe rfl (k7 (n2:=(put2 m k ++ [zh (m.links[k]'(by omega)).fr,zh (m.links[k]'(by omega)).to]).length) (xs2:=(put2 m k ++ [zh (m.links[k]'(by omega)).fr,zh (m.links[k]'(by omega)).to]).flatMap encB) qk 0 rfl hu0 hu7 un27 ni27 inf5 rfl (Src.rd (news:=[.int .u8 ((zh ((m.links[k]'(by omega)).fr)).toNat : Int),.int .u8 ((zh ((m.links[k]'(by omega)).to)).toNat : Int)]) (Rd.of_blk (hr7) 0 2) rfl rfl) (by simp [twoB]) ((flat_app (put2 m k) ([zh (m.links[k]'(by omega)).fr,zh (m.links[k]'(by omega)).to]))) (by have h8:=put2_len m k; simp [twoB] <;> omega) (by have h8:=put2_len m k; simp [twoB] <;> omega) rfl ?_)
        intro a130 c131 w132 hs133
        refine ⟨.slice a130 ((put2 m k ++ [zh (m.links[k]'(by omega)).fr,zh (m.links[k]'(by omega)).to]).length) c131,rfl,⟨_,_,rfl⟩,?_⟩
        show St _ _ _ ((ownI 5 1 (zf ((upd f8_ 77 (.slice a130 ((put2 m k ++ [zh (m.links[k]'(by omega)).fr,zh (m.links[k]'(by omega)).to]).length) c131)) 77)) (vcap ((upd f8_ 77 (.slice a130 ((put2 m k ++ [zh (m.links[k]'(by omega)).fr,zh (m.links[k]'(by omega)).to]).length) c131)) 77)) ((put2 m k ++ [zh (m.links[k]'(by omega)).fr,zh (m.links[k]'(by omega)).to]).length) ((put2 m k ++ [zh (m.links[k]'(by omega)).fr,zh (m.links[k]'(by omega)).to]).flatMap encB)) :: X8_) _
        exact hs133
       ·intro f9_ w9_ X9_ qp qo qu qk
        have hb8 : f9_ 8 = .pointer (some ⟨b120,0,none⟩):=(qp 8 rfl)
        refine qe rfl (qg hb8 fd68_2 rfl (o':=2) rfl rfl ?_)
        exact ⟨.pointer (some ⟨b120,2,none⟩),rfl,rfl,qk⟩
       ·intro f10_ w10_ X10_ qp qo qu qk
        obtain ⟨hu9,-⟩:=qo
        have hu9 : f10_ 78 = .pointer (some ⟨b120,2,none⟩):=hu9
        obtain ⟨hr14,-⟩:=qu
        have hr14 : Item.φ (blk b120 [vI ((m.links[k]'(by omega)).fr),vI ((m.links[k]'(by omega)).to),vI ((m.links[k]'(by omega)).ad)] 68) w10_:=hr14
        refine qe rfl (qq (v:=vI ((m.links[k]'(by omega)).ad)) hu9 ag3 (qh (hr14) rfl) rfl ?_)
        exact ⟨vI ((m.links[k]'(by omega)).ad),rfl,rfl,qk⟩
       ·intro f11_ w11_ X11_ qp qo qu qk
        obtain ⟨hu10,-⟩:=qo
        have hu10 : f11_ 79 = vI ((m.links[k]'(by omega)).ad):=hu10
        refine qe rfl (zi (args:=[vI ((m.links[k]'(by omega)).ad)]) rfl (by simp only [List.map_cons,List.map_nil,List.nil_append,List.cons_append,List.append_nil,ev,Value.cells,hu10]) rfl en42 (two_c ((m.links[k]'(by omega)).ad) _) ?_)
        rintro _ w135 ⟨⟨b134,rfl,ha137,hn138⟩,hk139⟩
        have hs136:=qk.add hk139 (blk b134 [.int .u8 ((zh (((m.links[k]'(by omega)).ad) / 256)).toNat : Int),.int .u8 ((zh ((m.links[k]'(by omega)).ad)).toNat : Int)] 5) ha137 hn138
        refine ⟨.slice (some ⟨b134,0,none⟩) 2 2,rfl,⟨_,rfl⟩,?_⟩
        show St _ _ _ ((blk (vblk ((upd f11_ 80 (.slice (some ⟨b134,0,none⟩) 2 2)) 80)) [.int .u8 ((zh (((m.links[k]'(by omega)).ad) / 256)).toNat : Int),.int .u8 ((zh ((m.links[k]'(by omega)).ad)).toNat : Int)] 5) :: X11_) _
        exact hs136
       ·intro f12_ w12_ X12_ qp qo qu qk
        obtain ⟨hu8,hu11,-⟩:=qo
        obtain ⟨a130,c131,hu8⟩:=(show ∃ a130 : Option Addr,∃ c131 : Nat,f12_ 77 = .slice a130 ((put2 m k ++ [zh (m.links[k]'(by omega)).fr,zh (m.links[k]'(by omega)).to]).length) c131 from hu8)
        obtain ⟨b134,hu11⟩:=(show ∃ b134 : Nat,f12_ 80 = .slice (some ⟨b134,0,none⟩) 2 2 from hu11)
        have qk : St _ _ _ ((ownI 5 1 (zf (f12_ 77)) (vcap (f12_ 77)) ((put2 m k ++ [zh (m.links[k]'(by omega)).fr,zh (m.links[k]'(by omega)).to]).length) ((put2 m k ++ [zh (m.links[k]'(by omega)).fr,zh (m.links[k]'(by omega)).to]).flatMap encB)) :: X12_) _:=qk
        rw [hu8] at qk; simp only [vblk,zf,vcap,z3] at qk
        obtain ⟨hr11,-⟩:=qu
        have hr11 : Item.φ (blk (vblk (f12_ 80)) [.int .u8 ((zh (((m.links[k]'(by omega)).ad) / 256)).toNat : Int),.int .u8 ((zh ((m.links[k]'(by omega)).ad)).toNat : Int)] 5) w12_:=hr11
        rw [hu11] at hr11; simp only [vblk,zf,vcap,z3] at hr11
        refine qe rfl (k7 (n2:=(put2 m (k + 1)).length) (xs2:=(put2 m (k + 1)).flatMap encB) qk 0 rfl hu8 hu11 un27 ni27 inf5 rfl (Src.rd (news:=[.int .u8 ((zh (((m.links[k]'(by omega)).ad) / 256)).toNat : Int),.int .u8 ((zh ((m.links[k]'(by omega)).ad)).toNat : Int)]) (Rd.of_blk (hr11) 0 2) rfl rfl) (by rw [← (put2_succ (by omega : k < m.links.length))]; simp [yq,twoB]) (by rw [← (put2_succ (by omega : k < m.links.length))]; simp [yq,twoB,encB]) (by have h8:=put2_len m k; simp [twoB] <;> omega) (by have h8:=put2_len m k; simp [twoB] <;> omega) rfl ?_)
        intro a140 c141 w142 hs143
        refine ⟨.slice a140 ((put2 m (k + 1)).length) c141,rfl,⟨_,_,rfl⟩,?_⟩
        show St _ _ _ ((ownI 5 1 (zf ((upd f12_ 81 (.slice a140 ((put2 m (k + 1)).length) c141)) 81)) (vcap ((upd f12_ 81 (.slice a140 ((put2 m (k + 1)).length) c141)) 81)) ((put2 m (k + 1)).length) ((put2 m (k + 1)).flatMap encB)) :: X12_) _
        exact hs143
       ·intro f13_ w13_ X13_ qp qo qu qk
        obtain ⟨hu12,-⟩:=qo
        obtain ⟨a140,c141,hu12⟩:=(show ∃ a140 : Option Addr,∃ c141 : Nat,f13_ 81 = .slice a140 ((put2 m (k + 1)).length) c141 from hu12)
        have qk : St _ _ _ ((ownI 5 1 (zf (f13_ 81)) (vcap (f13_ 81)) ((put2 m (k + 1)).length) ((put2 m (k + 1)).flatMap encB)) :: X13_) _:=qk
        rw [hu12] at qk; simp only [vblk,zf,vcap,z3] at qk
        refine qe rfl (qf (v:=.slice a140 ((put2 m (k + 1)).length) c141) hu12 rfl ?_)
        refine ⟨.slice a140 ((put2 m (k + 1)).length) c141,rfl,⟨_,_,rfl⟩,?_⟩
        show St _ _ _ ((ownI 5 1 (zf ((upd f13_ 4 (.slice a140 ((put2 m (k + 1)).length) c141)) 4)) (vcap ((upd f13_ 4 (.slice a140 ((put2 m (k + 1)).length) c141)) 4)) ((put2 m (k + 1)).length) ((put2 m (k + 1)).flatMap encB)) :: X13_) _
        exact qk
       intro f146 w147 qp qo hs148
       obtain ⟨hu7,hu11,hu13,-⟩:=qo
       obtain ⟨b126,hu7⟩:=(show ∃ b126 : Nat,f146 76 = .slice (some ⟨b126,0,none⟩) 2 2 from hu7)
       obtain ⟨b134,hu11⟩:=(show ∃ b134 : Nat,f146 80 = .slice (some ⟨b134,0,none⟩) 2 2 from hu11)
       obtain ⟨a144,c145,hu13⟩:=(show ∃ a144 : Option Addr,∃ c145 : Nat,f146 4 = .slice a144 ((put2 m (k + 1)).length) c145 from hu13)
       have hs148 : St _ _ _ [blk (vblk (f146 80)) [.int .u8 ((zh (((m.links[k]'(by omega)).ad) / 256)).toNat : Int),.int .u8 ((zh ((m.links[k]'(by omega)).ad)).toNat : Int)] 5,blk (vblk (f146 76)) [.int .u8 ((zh ((m.links[k]'(by omega)).fr)).toNat : Int),.int .u8 ((zh ((m.links[k]'(by omega)).to)).toNat : Int)] 5,blk b120 [vI ((m.links[k]'(by omega)).fr),vI ((m.links[k]'(by omega)).to),vI ((m.links[k]'(by omega)).ad)] 68,ownI 5 1 (zf (f146 4)) (vcap (f146 4)) ((put2 m (k + 1)).length) ((put2 m (k + 1)).flatMap encB),blk b1 (qn m) 26] _:=hs148
       simp only [hu7,hu11,hu13,vblk,zf,vcap,z3] at hs148
       have hs148 : St _ _ _ [blk b134 [.int .u8 ((zh (((m.links[k]'(by omega)).ad) / 256)).toNat : Int),.int .u8 ((zh ((m.links[k]'(by omega)).ad)).toNat : Int)] 5,blk b126 [.int .u8 ((zh ((m.links[k]'(by omega)).fr)).toNat : Int),.int .u8 ((zh ((m.links[k]'(by omega)).to)).toNat : Int)] 5,blk b120 [vI ((m.links[k]'(by omega)).fr),vI ((m.links[k]'(by omega)).to),vI ((m.links[k]'(by omega)).ad)] 68,ownI 5 1 a144 c145 ((put2 m (k + 1)).length) ((put2 m (k + 1)).flatMap encB),blk b1 (qn m) 26] _:=hs148
       have e149 : f146 1 = .pointer (some ⟨b1,0,none⟩):=(qp 1 rfl)
       rewrite [qm e149]
       rewrite [qm hu13]
       have e150 : f146 63 = .slice m.la m.links.length m.lcap:=(qp 63 rfl)
       rewrite [qm e150]
       have e151 : f146 64 = vI ((m.links.length : Nat) : Int):=(qp 64 rfl)
       rewrite [qm e151]
       have e152 : f146 65 = vI ((k : Nat) : Int):=(qp 65 rfl)
       rewrite [qm e152]
       refine z7 (qb (qc ?_))
       refine qa rfl (qt (v:=vI ((k + 1 : Nat) : Int)) rfl rfl rfl (ki (qz (by omega) (by omega))) ?_)
       refine qa rfl (qj (v:=vI ((k + 1 : Nat) : Int)) rfl rfl ?_)
       refine ql (qb ?_)
       refine ⟨_,?_,k + 1,a144,c145,rfl,by omega,rfl,rfl,rfl,rfl,rfl,hs148.popR.popM.popM.popM⟩
       omega
      ·refine ja (z0 (z0 (ke (qb (qi (qi (qc ?_)))))))
       refine qa rfl (qg rfl xo rfl (o':=5) rfl rfl ?_)
       refine qa rfl (qq (v:=.slice m.sa m.shares.length m.scap) rfl ag24 (qh (hs108.get 1 rfl) rfl) rfl ?_)
       refine qa rfl (qx (len:=m.shares.length) rfl un24 rfl ?_)
       refine qa rfl (qj (v:=vI 0) rfl rfl ?_)
       refine ql (qb (zy ?_))
       have he153 : put2 m k = put3 m 0:=put3_0 (by omega)
       have hsq:=hs108; rw [he153] at hsq
       have hs155 : St w (fun _=>False) w107 [ownI 5 1 a5 c5 ((put3 m 0).length) ((put3 m 0).flatMap encB),blk b1 (qn m) 26] (kh m):=hsq
       refine kw (fun m_ f_ w_=>∃ k : Nat,∃ a5 : Option Addr,∃ c5 : Nat,m_ = m.shares.length - k ∧ (k ≤ m.shares.length) ∧ f_ 1 = .pointer (some ⟨b1,0,none⟩) ∧ f_ 4 = .slice a5 ((put3 m k).length) c5 ∧ f_ 84 = .slice m.sa m.shares.length m.scap ∧ f_ 85 = vI ((m.shares.length : Nat) : Int) ∧ f_ 86 = vI ((k : Nat) : Int) ∧ St w (fun _=>False) w_ [ownI 5 1 a5 c5 ((put3 m k).length) ((put3 m k).flatMap encB),blk b1 (qn m) 26] (kh m)) ?_ ?_
       ·exact ⟨_,0,a5,c5,rfl,by omega,rfl,(congrArg (fun z : List UInt8=>Value.slice a5 z.length c5) he153),rfl,rfl,rfl,hs155⟩
       ·intro m159 f156 w157; rintro ⟨k,a5,c5,rfl,hk,e160,e161,e162,e163,e164,hs158⟩
        rewrite [qm e160]
        rewrite [qm e161]
        rewrite [qm e162]
        rewrite [qm e163]
        rewrite [qm e164]
        refine qi (qc ?_)
        refine qa rfl (qt (k:=.i64) (k':=.i64) (a:=((k : Nat) : Int)) (b:=((m.shares.length : Nat) : Int)) rfl rfl rfl jg ?_)
        refine ql (qb (qi ?_))
        refine zd rfl (fun hc165=>?_) (fun hc165=>?_)
        ·refine zn (qb (qi (zy (qi (qc ?_)))))
         obtain ⟨b166,o167,ha168,hs169⟩:=hs158.elem 2 rfl k (by omega)
         refine qa rfl (qs rfl ha168 rfl un24 sz70 (by omega) (by omega) (o':=o167 + k * 2) (by omega) rfl ?_)
         refine qa rfl (qw (vs:=[vI ((m.shares[k]'(by omega)).rd),vI ((m.shares[k]'(by omega)).wr)]) rfl ag70 sz70 ((hs169.getR 0 rfl).2) rfl rfl ?_)
         refine qa rfl (kk (cs:=[vI 0,vI 0]) hs169 zv70 rfl rfl ?_)
         intro b170 w171 hb173 hs172
         refine qa rfl (zx (v:=.agg #[vI ((m.shares[k]'(by omega)).rd),vI ((m.shares[k]'(by omega)).wr)]) (vs:=[vI ((m.shares[k]'(by omega)).rd),vI ((m.shares[k]'(by omega)).wr)]) (cs':=[vI ((m.shares[k]'(by omega)).rd),vI ((m.shares[k]'(by omega)).wr)]) hs172 0 rfl rfl rfl sz70 rfl rfl rfl rfl rfl ?_)
         intro w174 hs175
         refine ql (qb (qc ?_))
         refine qa rfl (qj (v:=.slice a5 ((put3 m k).length) c5) rfl rfl ?_)
         refine qa rfl (qg rfl fd70_0 rfl (o':=0) rfl rfl ?_)
         refine qa rfl (qq (v:=vI ((m.shares[k]'(by omega)).rd)) rfl ag3 (qh (hs175.get 0 rfl) rfl) rfl ?_)
         refine qa rfl (ky rfl un3 un5 rfl (c:=((zh ((m.shares[k]'(by omega)).rd)).toNat : Int)) (xm _) ?_)
         refine qa rfl (qg rfl fd70_1 rfl (o':=1) rfl rfl ?_)
         refine qa rfl (qq (v:=vI ((m.shares[k]'(by omega)).wr)) rfl ag3 (qh (hs175.get 0 rfl) rfl) rfl ?_)
         refine qa rfl (ky rfl un3 un5 rfl (c:=((zh ((m.shares[k]'(by omega)).wr)).toNat : Int)) (xm _) ?_)
         refine qa rfl (zz (zs:=[.int .u8 0,.int .u8 0]) (ps:=[(0,[.int .u8 ((zh ((m.shares[k]'(by omega)).rd)).toNat : Int)]),(1,[.int .u8 ((zh ((m.shares[k]'(by omega)).wr)).toNat : Int)])]) (cs:=[.int .u8 ((zh ((m.shares[k]'(by omega)).rd)).toNat : Int),.int .u8 ((zh ((m.shares[k]'(by omega)).wr)).toNat : Int)]) hs175 un27 sz5 zv5 rfl rfl rfl rfl rfl ?_)
         intro b176 w177 hb179 hs178
         refine qa rfl (k7 (n2:=(put3 m (k + 1)).length) (xs2:=(put3 m (k + 1)).flatMap encB) hs178 2 rfl rfl rfl un27 ni27 inf5 rfl (Src.rd (news:=[.int .u8 ((zh ((m.shares[k]'(by omega)).rd)).toNat : Int),.int .u8 ((zh ((m.shares[k]'(by omega)).wr)).toNat : Int)]) (Rd.of_blk (hs178.get 0 rfl) 0 2) rfl rfl) (by rw [← (put3_succ (by omega : k < m.shares.length))]; simp [xu,twoB]) (by rw [← (put3_succ (by omega : k < m.shares.length))]; simp [xu,twoB,encB]) (by have h8:=put3_len m k; omega) (by have h8:=put3_len m k; omega) rfl ?_)
         intro a180 c181 w182 hs183
         refine qa rfl (qf (v:=.slice a180 ((put3 m (k + 1)).length) c181) rfl rfl ?_)
         refine ql (z7 (qb (qc ?_)))
         refine qa rfl (qt (v:=vI ((k + 1 : Nat) : Int)) rfl rfl rfl (ki (qz (by omega) (by omega))) ?_)
         refine qa rfl (qj (v:=vI ((k + 1 : Nat) : Int)) rfl rfl ?_)
         refine ql (qb ?_)
         refine ⟨_,?_,k + 1,a180,c181,rfl,by omega,rfl,rfl,rfl,rfl,rfl,hs183.popR.popM.popM⟩
         omega
        ·refine ja (z0 (z0 (ke (qb (qi (qi (qc ?_)))))))
         refine qa rfl (qg rfl jq rfl (o':=3) rfl rfl ?_)
         refine qa rfl (qq (v:=.slice m.ca m.comps.length m.ccap) rfl ag22 (qh (hs158.get 1 rfl) rfl) rfl ?_)
         refine qa rfl (qx (len:=m.comps.length) rfl un22 rfl ?_)
         refine qa rfl (qj (v:=vI 0) rfl rfl ?_)
         refine ql (qb (zy ?_))
         have he184 : put3 m k = put4 m 0:=put4_0 (by omega)
         have hsq:=hs158; rw [he184] at hsq
         have hs186 : St w (fun _=>False) w157 [ownI 5 1 a5 c5 ((put4 m 0).length) ((put4 m 0).flatMap encB),blk b1 (qn m) 26] (kh m):=hsq
         refine kw (fun m_ f_ w_=>∃ k : Nat,∃ a5 : Option Addr,∃ c5 : Nat,m_ = m.comps.length - k ∧ (k ≤ m.comps.length) ∧ f_ 4 = .slice a5 ((put4 m k).length) c5 ∧ f_ 101 = .slice m.ca m.comps.length m.ccap ∧ f_ 102 = vI ((m.comps.length : Nat) : Int) ∧ f_ 103 = vI ((k : Nat) : Int) ∧ St w (fun _=>False) w_ [ownI 5 1 a5 c5 ((put4 m k).length) ((put4 m k).flatMap encB),blk b1 (qn m) 26] (kh m)) ?_ ?_
         ·exact ⟨_,0,a5,c5,rfl,by omega,(congrArg (fun z : List UInt8=>Value.slice a5 z.length c5) he184),rfl,rfl,rfl,hs186⟩
         ·intro m190 f187 w188; rintro ⟨k,a5,c5,rfl,hk,e191,e192,e193,e194,hs189⟩
          rewrite [qm e191]
          rewrite [qm e192]
          rewrite [qm e193]
          rewrite [qm e194]
          refine qi (qc ?_)
          refine qa rfl (qt (k:=.i64) (k':=.i64) (a:=((k : Nat) : Int)) (b:=((m.comps.length : Nat) : Int)) rfl rfl rfl jg ?_)
          refine ql (qb (qi ?_))
          refine zd rfl (fun hc195=>?_) (fun hc195=>?_)
          ·refine zn (qb (qi (zy (qi (qc ?_)))))
           obtain ⟨b196,o197,ha198,hs199⟩:=hs189.elem 0 rfl k (by omega)
           refine qa rfl (qs rfl ha198 rfl un22 sz53 (by omega) (by omega) (o':=o197 + k * 2) (by omega) rfl ?_)
           refine qa rfl (qw (vs:=[.slice ((m.comps[k]'(by omega)).a) ((m.comps[k]'(by omega)).code.length) ((m.comps[k]'(by omega)).cap),vI ((m.comps[k]'(by omega)).data)]) rfl ag53 sz53 ((hs199.getR 0 rfl).2) rfl rfl ?_)
           refine qa rfl (kk (cs:=[.slice none 0 0,vI 0]) hs199 zv53 rfl rfl ?_)
           intro b200 w201 hb203 hs202
           refine qa rfl (zx (v:=.agg #[.slice ((m.comps[k]'(by omega)).a) ((m.comps[k]'(by omega)).code.length) ((m.comps[k]'(by omega)).cap),vI ((m.comps[k]'(by omega)).data)]) (vs:=[.slice ((m.comps[k]'(by omega)).a) ((m.comps[k]'(by omega)).code.length) ((m.comps[k]'(by omega)).cap),vI ((m.comps[k]'(by omega)).data)]) (cs':=[.slice ((m.comps[k]'(by omega)).a) ((m.comps[k]'(by omega)).code.length) ((m.comps[k]'(by omega)).cap),vI ((m.comps[k]'(by omega)).data)]) hs202 0 rfl rfl rfl sz53 rfl rfl rfl rfl rfl ?_)
           intro w204 hs205
           refine ql (qb ?_)
           have hco:=hb.co _ (List.getElem_mem (by omega : k < m.comps.length))
           have hs206:=hs205.addRsub 4 rfl (arrI encB 1 ((m.comps[k]'(by omega)).a) ((m.comps[k]'(by omega)).code)) (hs205.getR 4 rfl _ (List.getElem_mem (by omega))) (fun b hb=>⟨_,List.getElem_mem (by omega),hb⟩)
           refine qc ?_
           refine qa rfl (qj (v:=.slice a5 ((put4 m k).length) c5) rfl rfl ?_)
           refine qa rfl (qg rfl ym rfl (o':=0) rfl rfl ?_)
           refine qa rfl (qq (v:=.slice ((m.comps[k]'(by omega)).a) ((m.comps[k]'(by omega)).code.length) ((m.comps[k]'(by omega)).cap)) rfl ag27 (qh (hs206.get 0 rfl) rfl) rfl ?_)
           refine qa rfl (k7 (n2:=(put4 m (k + 1)).length) (xs2:=(put4 m (k + 1)).flatMap encB) hs206 1 rfl rfl rfl un27 ni27 inf5 rfl (Src.arr (hs206.getR 0 rfl) (fun _=>rfl) (fun _=>rfl) ((hb.co _ (List.getElem_mem (by omega : k < m.comps.length))).2.2) ((hb.co _ (List.getElem_mem (by omega : k < m.comps.length))).2.1)) (by rw [put4_succ (by omega : k < m.comps.length),List.length_append]) (by rw [put4_succ (by omega : k < m.comps.length),flat_app]) (by have h8:=put4_len hcx k; omega) (by have h8:=put4_len hcx k; omega) rfl ?_)
           intro a207 c208 w209 hs210
           refine qa rfl (qf (v:=.slice a207 ((put4 m (k + 1)).length) c208) rfl rfl ?_)
           refine ql (z7 (qb (qc ?_)))
           refine qa rfl (qt (v:=vI ((k + 1 : Nat) : Int)) rfl rfl rfl (ki (qz (by omega) (by omega))) ?_)
           refine qa rfl (qj (v:=vI ((k + 1 : Nat) : Int)) rfl rfl ?_)
           refine ql (qb ?_)
           refine ⟨_,?_,k + 1,a207,c208,rfl,by omega,rfl,rfl,rfl,rfl,hs210.popR.popR.popM⟩
           omega
          ·refine ja (z0 (z0 (ke (qb (qi (qc ?_))))))
           refine qa rfl (qj (v:=.slice a5 ((put4 m k).length) c5) rfl rfl ?_)
           refine qa rfl (qf (v:=.slice a5 ((put4 m k).length) c5) rfl rfl ?_)
           refine ql (qb (zo ?_))
           refine ⟨.slice a5 ((put4 m k).length) c5,res1 rfl,?_⟩
           have he : putS m = put4 m k:=putS_yes hright (by omega)
           exact ⟨⟨a5,c5,by rw [he],by rw [he]; exact hs189.get 0 rfl,fun x ⟨o,e⟩=>hs189.newB 0 rfl x ⟨o,e⟩⟩,hs189.base⟩



/-- (*seizin/image.bytes).some -/
theorem some_c (bb n len cap : Nat) (a : Option Addr) (bad : Bool) (w : World) (h : (blk bb [.slice a len cap,.bool bad] 62).φ w) (hn : n ≤ 100000) (hlen : len ≤ 100000) (hlc : len ≤ cap) :
  C Try.prog 30 [.pointer (some ⟨bb,0,none⟩),vI ((n : Nat) : Int)] w fun v w'=>((n ≤ len ∧ v = .slice a n cap ∧ (blk bb [.slice (subA a n cap 1) (len - n) (cap - n),.bool bad] 62).φ w') ∨ (len < n ∧ ∃ b,v = .slice (some ⟨b,0,none⟩) n n ∧ (ownI 5 1 (some ⟨b,0,none⟩) n n (List.replicate n (.int .u8 0))).φ w' ∧ (∀ x,(ownI 5 1 (some ⟨b,0,none⟩) n n (List.replicate n (.int .u8 0))).fp x → w.heap.size ≤ x) ∧ (blk bb [.slice a len cap,.bool true] 62).φ w')) ∧ Keeps (fun x=>x = bb) w w':=by
 have hs0 : St w (fun x=>x = bb) w [blk bb [.slice a len cap,.bool bad] 62] []:=St.start1 w (blk bb [.slice a len cap,.bool bad] 62) [] h (fun _ h=>by cases h) (fun _ h=>by cases h)
 refine z8 [.tmp 4] 34 Try.func30 rfl Try.ntmps30 rfl rfl ?_
 refine qi (qc ?_)
 refine qa rfl (qf (v:=.slice none 0 0) rfl rfl ?_)
 refine ql (qb (qi (qi (qc ?_))))
 refine qa rfl (qj (v:=vI ((n : Nat) : Int)) rfl rfl ?_)
 refine qa rfl (qj (v:=.pointer (some ⟨bb,0,none⟩)) rfl rfl ?_)
 refine qa rfl (O_nilCheck rfl rfl ?_)
 refine qa rfl (qg rfl fd62_0 rfl (o':=0) rfl rfl ?_)
 refine qa rfl (qq (v:=.slice a len cap) rfl ag27 (qh (hs0.get 0 rfl) rfl) rfl ?_)
 refine qa rfl (qx (len:=len) rfl un27 rfl ?_)
 refine qa rfl (qt (k:=.i64) (k':=.i64) (a:=((n : Nat) : Int)) (b:=((len : Nat) : Int)) rfl rfl rfl b_gtr ?_)
 refine ql (qb ?_)
 refine zd rfl (fun hc1=>?_) (fun hc1=>?_)
 ·refine qi (qc ?_)
  refine qa rfl (qj (v:=.pointer (some ⟨bb,0,none⟩)) rfl rfl ?_)
  refine qa rfl (O_nilCheck rfl rfl ?_)
  refine qa rfl (qg rfl fd62_1 rfl (o':=1) rfl rfl ?_)
  refine qa rfl (zx (v:=.bool true) (vs:=[.bool true]) (cs':=[.slice a len cap,.bool true]) hs0 0 rfl rfl rfl sz4 rfl rfl rfl rfl rfl ?_)
  intro w2 hs3
  refine ql (qb (qi ?_))
  have hz:=hs3.base.size
  refine qc ?_
  refine qa rfl (qj (v:=vI ((n : Nat) : Int)) rfl rfl ?_)
  refine qa rfl (O_makeSlice hs3 rfl (rfl) rfl (rfl) un27 inf5 rfl (by omega) (by omega) (by simp only [maxLen]; omega) rfl ?_)
  intro b4 w5 hb7 hs6
  refine qa rfl (qf (v:=.slice (some ⟨b4,0,none⟩) n n) rfl rfl ?_)
  refine ql (qb (zo (q9 ?_)))
  refine ⟨.slice (some ⟨b4,0,none⟩) n n,res1 rfl,?_⟩
  exact ⟨.inr ⟨by omega,_,rfl,hs6.get 0 rfl,fun x hx=>by obtain ⟨o,e⟩:=hx; cases e; omega,hs6.get 1 rfl⟩,hs6.base⟩
 ·refine zn (qb (qi (qc ?_)))
  refine qa rfl (qj (v:=.pointer (some ⟨bb,0,none⟩)) rfl rfl ?_)
  refine qa rfl (O_nilCheck rfl rfl ?_)
  refine qa rfl (qg rfl fd62_0 rfl (o':=0) rfl rfl ?_)
  refine qa rfl (qq (v:=.slice a len cap) rfl ag27 (qh (hs0.get 0 rfl) rfl) rfl ?_)
  refine qa rfl (qj (v:=vI ((n : Nat) : Int)) rfl rfl ?_)
  refine qa rfl (O_slice0 rfl un27 sz5 (Bds.h rfl (rfl) (by omega)) rfl ?_)
  refine qa rfl (qf (v:=.slice a n cap) rfl rfl ?_)
  refine ql (qb (qi (qc ?_)))
  refine qa rfl (qj (v:=.pointer (some ⟨bb,0,none⟩)) rfl rfl ?_)
  refine qa rfl (qj (v:=.pointer (some ⟨bb,0,none⟩)) rfl rfl ?_)
  refine qa rfl (O_nilCheck rfl rfl ?_)
  refine qa rfl (qg rfl fd62_0 rfl (o':=0) rfl rfl ?_)
  refine qa rfl (qq (v:=.slice a len cap) rfl ag27 (qh (hs0.get 0 rfl) rfl) rfl ?_)
  refine qa rfl (qj (v:=vI ((n : Nat) : Int)) rfl rfl ?_)
  refine qa rfl (O_slice (n':=len - n) (c':=cap - n) rfl un27 sz5 (Bds.l rfl (rfl) (by omega)) (by omega) (by omega) rfl ?_)
  refine qa rfl (O_nilCheck rfl rfl ?_)
  refine qa rfl (qg rfl fd62_0 rfl (o':=0) rfl rfl ?_)
  refine qa rfl (zx (v:=.slice (subA a n cap 1) (len - n) (cap - n)) (vs:=[.slice (subA a n cap 1) (len - n) (cap - n)]) (cs':=[.slice (subA a n cap 1) (len - n) (cap - n),.bool bad]) hs0 0 rfl rfl rfl sz27 rfl rfl rfl rfl rfl ?_)
  intro w8 hs9
  refine ql (qb (qi (qc ?_)))
  refine qa rfl (qj (v:=.slice a n cap) rfl rfl ?_)
  refine qa rfl (qf (v:=.slice a n cap) rfl rfl ?_)
  refine ql (qb (zo ?_))
  refine ⟨.slice a n cap,res1 rfl,?_⟩
  exact ⟨.inl ⟨by omega,rfl,hs9.get 0 rfl⟩,hs9.base⟩



theorem some_r (bb n : Nat) (a0 : Option Addr) (l0 : List UInt8) (s : RS) (w : World) (h : (rdrI a0 l0 bb 62 s).φ w) (hn : n ≤ 100000) (hl0 : l0.length ≤ 100000) :
  C Try.prog 30 [.pointer (some ⟨bb,0,none⟩),vI ((n : Nat) : Int)] w fun v w'=>∃ a2 c2,v = .slice a2 n c2 ∧ (rdrI a0 l0 bb 62 (zv l0 s n)).φ w' ∧ (resI 5 a0 l0 s.off n a2 c2).φ w' ∧ (∀ b,(resI 5 a0 l0 s.off n a2 c2).fp b → w.heap.size ≤ b) ∧ Keeps (fun b=>b = bb) w w':=by
 obtain ⟨a,c,hb,hoff,hsub,hlc,hnil⟩:=h
 refine C.mono (some_c bb n (l0.length - s.off) c a s.bad w hb hn (by omega) hlc) ?_
 rintro v w' ⟨⟨hle,rfl,hb'⟩|⟨hlt,b,rfl,hown,hnew,hb'⟩,hk⟩
 ·have hin : s.off + n ≤ l0.length:=by omega
  refine ⟨a,c,rfl,?_,?_,?_,hk⟩
  ·unfold zv
   rw [if_pos hin]
   refine ⟨subA a n c 1,c - n,?_,hin,fun hlt=>?_,by show l0.length - (s.off + n) ≤ c - n; omega,fun e=>?_⟩
   ·have e : l0.length - (s.off + n) = l0.length - s.off - n:=by omega
    show w'.heap[bb]? = some (.cells [.slice (subA a n c 1) (l0.length - (s.off + n)) (c - n),.bool s.bad].toArray _ _)
    rw [e]; exact hb'
   ·have hlt : s.off + n < l0.length:=hlt
    obtain ⟨b,o,e1,e2⟩:=hsub (by omega)
    refine ⟨b,o,e1,?_⟩
    rw [e2,subA_some (by omega),Nat.mul_one,Nat.add_assoc]
   ·unfold subA at e
    split at e
    ·rename_i e'; omega
    ·cases a with
    |none=>rw [hnil rfl,Nat.zero_sub]
    |some a=>simp at e
  ·unfold resI
   rw [if_pos hin]
   exact ⟨trivial,fun h0 hl=>hsub hl,by omega,hnil⟩
  ·intro b hb; unfold resI at hb; rw [if_pos hin] at hb; exact hb.elim
 ·have hin : ¬ s.off + n ≤ l0.length:=by omega
  have hz : List.replicate n (Value.int .u8 0) = (List.replicate n (0 : UInt8)).flatMap encB:=by
   clear hown hnew hin hlt
   induction n with
  |zero=>rfl
  |succ n ih=>rw [List.replicate_succ,List.replicate_succ,List.flatMap_cons,← ih (by omega)]; rfl
  rw [hz] at hown hnew
  refine ⟨_,_,rfl,?_,?_,?_,hk⟩
  ·unfold zv
   rw [if_neg hin]
   exact ⟨a,c,hb',hoff,hsub,hlc,hnil⟩
  ·unfold resI; rw [if_neg hin]; exact hown
  ·intro x hx; unfold resI at hx; rw [if_neg hin] at hx; exact hnew x hx

theorem shl8_i64 (c : UInt8) : IntKind.i64.wrap ((c.toNat : Int) * 2 ^ (min (8 : Int).toNat IntKind.i64.bits)) = (c.toNat : Int) * 256:=by
 have:=c.toNat_lt
 exact qz (by rfl) (by constructor <;> (simp [IntKind.bits]; omega))
theorem or_i64b (c d : UInt8) : jf .or .i64 ((c.toNat : Int) * 256) (d.toNat : Int) = (c.toNat : Int) * 256 + (d.toNat : Int):=by
 obtain ⟨n,hn⟩:=Int.eq_ofNat_of_zero_le (show (0 : Int) ≤ c.toNat from by omega)
 have hc:=c.toNat_lt
 have hd:=d.toNat_lt
 have h1 : BitVec.ofInt IntKind.i64.bits ((c.toNat : Int) * 256) = BitVec.ofNat 64 (c.toNat * 256):=by
  have : ((c.toNat : Int) * 256) = ((c.toNat * 256 : Nat) : Int):=by omega
  rw [this]; exact BitVec.ofInt_natCast 64 _
 have h2 : BitVec.ofInt IntKind.i64.bits (d.toNat : Int) = BitVec.ofNat 64 d.toNat:=BitVec.ofInt_natCast 64 _
 unfold jf
 simp only [h1,h2]
 have h3 : (BitVec.ofNat 64 (c.toNat * 256) ||| BitVec.ofNat 64 d.toNat).toNat = c.toNat * 256 + d.toNat:=by
  rw [BitVec.toNat_or,BitVec.toNat_ofNat,BitVec.toNat_ofNat,Nat.mod_eq_of_lt (by omega),Nat.mod_eq_of_lt (by omega)]
  have:=Nat.shiftLeft_add_eq_or_of_lt (i:=8) (b:=d.toNat) (by omega) c.toNat
  rw [Nat.shiftLeft_eq] at this
  exact this.symm
 have h4 : IntKind.i64.wrap (((BitVec.ofNat 64 (c.toNat * 256) ||| BitVec.ofNat 64 d.toNat).toNat : Nat) : Int) = (c.toNat : Int) * 256 + (d.toNat : Int):=by
  rw [h3,wrap_i64 (by omega)]; omega
 exact h4
theorem byteAt_get {l : List UInt8} {i : Nat} (h : i < l.length) : yk l i = l[i]:=by unfold yk; rw [List.getElem?_eq_getElem h]; rfl

/-- (seizin/image.reader).one -/
theorem one_c (bb : Nat) (a0 : Option Addr) (l0 : List UInt8) (s : RS) (w : World) (h : (rdrI a0 l0 bb 62 s).φ w) (h0 : (arrI encB 1 a0 l0).φ w) (hs0 : ∀ b,(arrI encB 1 a0 l0).fp b → ¬ b = bb) (hl0 : l0.length ≤ 100000) :
  C Try.prog 31 [.agg #[.pointer (some ⟨bb,0,none⟩)]] w fun v w'=>(v = vI (oneV l0 s) ∧ (rdrI a0 l0 bb 62 (zv l0 s 1)).φ w') ∧ Keeps (fun x=>x = bb) w w':=by
 have hs0 : St w (fun x=>x = bb) w [rdrI a0 l0 bb 62 s] [arrI encB 1 a0 l0]:=St.start1 w (rdrI a0 l0 bb 62 s) _ h (List.forall_mem_cons.2 ⟨h0,fun _ h=>by cases h⟩) (List.forall_mem_cons.2 ⟨hs0,fun _ h=>by cases h⟩)
 refine z8 [.tmp 2] 9 Try.func31 rfl Try.ntmps31 rfl rfl ?_
 refine qi (qc ?_)
 refine qa rfl (jw (v:=.agg #[.pointer (some ⟨bb,0,none⟩)]) (cs:=[.pointer (some ⟨bb,0,none⟩)]) hs0 rfl rfl rfl ?_)
 intro b1 w2 hb4 hs3
 refine qa rfl (qf (v:=vI 0) rfl rfl ?_)
 refine ql (qb (qi (qc ?_)))
 refine qa rfl (qg rfl fd64_0 rfl (o':=0) rfl rfl ?_)
 refine qa rfl (qq (v:=.pointer (some ⟨bb,0,none⟩)) rfl ag60 (qh (hs3.get 0 rfl) rfl) rfl ?_)
 refine qa rfl (zi (args:=[.pointer (some ⟨bb,0,none⟩),vI 1]) rfl rfl rfl en30 (some_r bb 1 a0 l0 s _ (hs3.get 1 rfl) (by omega) hl0) ?_)
 rintro _ w7 ⟨a5,c6,rfl,hr9,hz10,hn11,hk12⟩
 have hs8:=hs3.mutR 1 rfl hk12 (rdrI a0 l0 bb 62 (zv l0 s 1)) hr9 (fun _ h=>h) [resI 5 a0 l0 s.off 1 a5 c6] (List.forall_mem_cons.2 ⟨⟨hz10,hn11⟩,fun _ h=>by cases h⟩)
 have hs13:=hs8.addRes 1 rfl 0 rfl
 have hcp:=res_cap hz10
 have htl:=xg l0 s.off 1
 obtain ⟨b14,o15,ha16,hs17⟩:=hs13.elem 0 rfl 0 (by omega)
 refine qa rfl (qs rfl ha16 rfl un27 sz5 (by omega) (by omega) (o':=o15 + 0 * 1) (by omega) rfl ?_)
 refine qa rfl (qq (v:=.int .u8 (((kb l0 s.off 1)[0]'(by omega)).toNat : Int)) rfl ag5 ((hs17.getR 0 rfl).2 0 _ rfl) rfl ?_)
 refine qa rfl (ky rfl un5 un3 rfl (c:=(((kb l0 s.off 1)[0]'(by omega)).toNat : Int)) (j6 _) ?_)
 refine qa rfl (qf (v:=vI (((kb l0 s.off 1)[0]'(by omega)).toNat : Int)) rfl rfl ?_)
 refine ql (qb (zo ?_))
 refine ⟨vI (((kb l0 s.off 1)[0]'(by omega)).toNat : Int),res1 rfl,?_⟩
 exact ⟨⟨by unfold oneV; rw [byteAt_get (by omega : 0 < (kb l0 s.off 1).length)],hs17.get 1 rfl⟩,hs17.base⟩

/-- (seizin/image.reader).two -/
theorem rtwo_c (bb : Nat) (a0 : Option Addr) (l0 : List UInt8) (s : RS) (w : World) (h : (rdrI a0 l0 bb 62 s).φ w) (h0 : (arrI encB 1 a0 l0).φ w) (hs0 : ∀ b,(arrI encB 1 a0 l0).fp b → ¬ b = bb) (hl0 : l0.length ≤ 100000) :
  C Try.prog 32 [.agg #[.pointer (some ⟨bb,0,none⟩)]] w fun v w'=>(v = vI (twoV l0 s) ∧ (rdrI a0 l0 bb 62 (zv l0 s 2)).φ w') ∧ Keeps (fun x=>x = bb) w w':=by
 have hs0 : St w (fun x=>x = bb) w [rdrI a0 l0 bb 62 s] [arrI encB 1 a0 l0]:=St.start1 w (rdrI a0 l0 bb 62 s) _ h (List.forall_mem_cons.2 ⟨h0,fun _ h=>by cases h⟩) (List.forall_mem_cons.2 ⟨hs0,fun _ h=>by cases h⟩)
 refine z8 [.tmp 2] 17 Try.func32 rfl Try.ntmps32 rfl rfl ?_
 refine qi (qc ?_)
 refine qa rfl (jw (v:=.agg #[.pointer (some ⟨bb,0,none⟩)]) (cs:=[.pointer (some ⟨bb,0,none⟩)]) hs0 rfl rfl rfl ?_)
 intro b1 w2 hb4 hs3
 refine qa rfl (qf (v:=vI 0) rfl rfl ?_)
 refine ql (qb (qi (qc ?_)))
 refine qa rfl (qg rfl fd64_0 rfl (o':=0) rfl rfl ?_)
 refine qa rfl (qq (v:=.pointer (some ⟨bb,0,none⟩)) rfl ag60 (qh (hs3.get 0 rfl) rfl) rfl ?_)
 refine qa rfl (zi (args:=[.pointer (some ⟨bb,0,none⟩),vI 2]) rfl rfl rfl en30 (some_r bb 2 a0 l0 s _ (hs3.get 1 rfl) (by omega) hl0) ?_)
 rintro _ w7 ⟨a5,c6,rfl,hr9,hz10,hn11,hk12⟩
 have hs8:=hs3.mutR 1 rfl hk12 (rdrI a0 l0 bb 62 (zv l0 s 2)) hr9 (fun _ h=>h) [resI 5 a0 l0 s.off 2 a5 c6] (List.forall_mem_cons.2 ⟨⟨hz10,hn11⟩,fun _ h=>by cases h⟩)
 have hs13:=hs8.addRes 1 rfl 0 rfl
 have hcp:=res_cap hz10
 have htl:=xg l0 s.off 2
 refine qa rfl (qf (v:=.slice a5 2 c6) rfl rfl ?_)
 refine ql (qb (qi ?_))
 obtain ⟨b14,o15,ha16,hs17⟩:=hs13.elem 0 rfl 0 (by omega)
 obtain ⟨b18,o19,ha20,hs21⟩:=hs17.elem 1 rfl 1 (by omega)
 refine jc js (show St _ _ _ [blk b1 [.pointer (some ⟨bb,0,none⟩)] 64,rdrI a0 l0 bb 62 (zv l0 s 2)] _ from hs21) (fun i_=>match i_ with|_=>none) (fun i_=>match i_ with|_=>[]) (fun i_=>match i_ with|_=>[]) (fun i_=>match i_ with|1=>[0]|2=>[1]|3=>[2]|4=>[3]|6=>[5]|7=>[6]|8=>[7]|9=>[4,8]|10=>[9]|_=>[]) [11,12,0,1,2,3,4,5,6,7,8,9,10,13,14,15,16,17,18,19,20,21,22,23] [10] (fun i_ v_=>match i_ with|0=>v_ = .slice a5 2 c6|1=>v_ = .pointer (some ⟨b14,o15 + 0 * 1,none⟩)|2=>v_ = .int .u8 (((kb l0 s.off 2)[0]'(by omega)).toNat : Int)|3=>v_ = vI (((kb l0 s.off 2)[0]'(by omega)).toNat : Int)|4=>v_ = vI ((((kb l0 s.off 2)[0]'(by omega)).toNat : Int) * 256)|5=>v_ = .slice a5 2 c6|6=>v_ = .pointer (some ⟨b18,o19 + 1 * 1,none⟩)|7=>v_ = .int .u8 (((kb l0 s.off 2)[1]'(by omega)).toNat : Int)|8=>v_ = vI (((kb l0 s.off 2)[1]'(by omega)).toNat : Int)|9=>v_ = vI ((((kb l0 s.off 2)[0]'(by omega)).toNat : Int) * 256 + (((kb l0 s.off 2)[1]'(by omega)).toNat : Int))|10=>v_ = vI ((((kb l0 s.off 2)[0]'(by omega)).toNat : Int) * 256 + (((kb l0 s.off 2)[1]'(by omega)).toNat : Int))|_=>True) (by kernel_rfl) (by kernel_rfl) ⟨?_,?_,?_,?_,?_,?_,?_,?_,?_,?_,?_,trivial⟩ ?_
 ·intro f0_ w0_ X0_ qp qo qu qk
  have hb3 : f0_ 3 = .slice a5 2 c6:=(qp 3 rfl)
  refine qe rfl (qj (v:=.slice a5 2 c6) hb3 rfl ?_)
  exact ⟨.slice a5 2 c6,rfl,rfl,qk⟩
 ·intro f1_ w1_ X1_ qp qo qu qk
  obtain ⟨hu0,-⟩:=qo
  have hu0 : f1_ 7 = .slice a5 2 c6:=hu0
  refine qe rfl (qs hu0 ha16 rfl un27 sz5 (by omega) (by omega) (o':=o15 + 0 * 1) (by omega) rfl ?_)
  exact ⟨.pointer (some ⟨b14,o15 + 0 * 1,none⟩),rfl,rfl,qk⟩
 ·intro f2_ w2_ X2_ qp qo qu qk
  obtain ⟨hu1,-⟩:=qo
  have hu1 : f2_ 8 = .pointer (some ⟨b14,o15 + 0 * 1,none⟩):=hu1
  refine qe rfl (qq (v:=.int .u8 (((kb l0 s.off 2)[0]'(by omega)).toNat : Int)) hu1 ag5 ((qk.getR 1 rfl).2 0 _ rfl) rfl ?_)
  exact ⟨.int .u8 (((kb l0 s.off 2)[0]'(by omega)).toNat : Int),rfl,rfl,qk⟩
 ·intro f3_ w3_ X3_ qp qo qu qk
  obtain ⟨hu2,-⟩:=qo
  have hu2 : f3_ 9 = .int .u8 (((kb l0 s.off 2)[0]'(by omega)).toNat : Int):=hu2
  refine qe rfl (ky hu2 un5 un3 rfl (c:=(((kb l0 s.off 2)[0]'(by omega)).toNat : Int)) (j6 _) ?_)
  exact ⟨vI (((kb l0 s.off 2)[0]'(by omega)).toNat : Int),rfl,rfl,qk⟩
 ·intro f4_ w4_ X4_ qp qo qu qk
  obtain ⟨hu3,-⟩:=qo
  have hu3 : f4_ 10 = vI (((kb l0 s.off 2)[0]'(by omega)).toNat : Int):=hu3
  refine qe rfl (qt (v:=vI ((((kb l0 s.off 2)[0]'(by omega)).toNat : Int) * 256)) hu3 rfl rfl (b_shl (by omega) (shl8_i64 _)) ?_)
  exact ⟨vI ((((kb l0 s.off 2)[0]'(by omega)).toNat : Int) * 256),rfl,rfl,qk⟩
 ·intro f5_ w5_ X5_ qp qo qu qk
  have hb3 : f5_ 3 = .slice a5 2 c6:=(qp 3 rfl)
  refine qe rfl (qj (v:=.slice a5 2 c6) hb3 rfl ?_)
  exact ⟨.slice a5 2 c6,rfl,rfl,qk⟩
 ·intro f6_ w6_ X6_ qp qo qu qk
  obtain ⟨hu5,-⟩:=qo
  have hu5 : f6_ 12 = .slice a5 2 c6:=hu5
  refine qe rfl (qs hu5 ha20 rfl un27 sz5 (by omega) (by omega) (o':=o19 + 1 * 1) (by omega) rfl ?_)
  exact ⟨.pointer (some ⟨b18,o19 + 1 * 1,none⟩),rfl,rfl,qk⟩
 ·intro f7_ w7_ X7_ qp qo qu qk
  obtain ⟨hu6,-⟩:=qo
  have hu6 : f7_ 13 = .pointer (some ⟨b18,o19 + 1 * 1,none⟩):=hu6
  refine qe rfl (qq (v:=.int .u8 (((kb l0 s.off 2)[1]'(by omega)).toNat : Int)) hu6 ag5 ((qk.getR 0 rfl).2 0 _ rfl) rfl ?_)
  exact ⟨.int .u8 (((kb l0 s.off 2)[1]'(by omega)).toNat : Int),rfl,rfl,qk⟩
 ·intro f8_ w8_ X8_ qp qo qu qk
  obtain ⟨hu7,-⟩:=qo
  have hu7 : f8_ 14 = .int .u8 (((kb l0 s.off 2)[1]'(by omega)).toNat : Int):=hu7
  refine qe rfl (ky hu7 un5 un3 rfl (c:=(((kb l0 s.off 2)[1]'(by omega)).toNat : Int)) (j6 _) ?_)
  exact ⟨vI (((kb l0 s.off 2)[1]'(by omega)).toNat : Int),rfl,rfl,qk⟩
 ·intro f9_ w9_ X9_ qp qo qu qk
  obtain ⟨hu4,hu8,-⟩:=qo
  have hu4 : f9_ 11 = vI ((((kb l0 s.off 2)[0]'(by omega)).toNat : Int) * 256):=hu4
  have hu8 : f9_ 15 = vI (((kb l0 s.off 2)[1]'(by omega)).toNat : Int):=hu8
  refine qe rfl (qt (v:=vI ((((kb l0 s.off 2)[0]'(by omega)).toNat : Int) * 256 + (((kb l0 s.off 2)[1]'(by omega)).toNat : Int))) hu4 hu8 rfl (b_or (or_i64b _ _)) ?_)
  exact ⟨vI ((((kb l0 s.off 2)[0]'(by omega)).toNat : Int) * 256 + (((kb l0 s.off 2)[1]'(by omega)).toNat : Int)),rfl,rfl,qk⟩
 ·intro f10_ w10_ X10_ qp qo qu qk
  obtain ⟨hu9,-⟩:=qo
  have hu9 : f10_ 16 = vI ((((kb l0 s.off 2)[0]'(by omega)).toNat : Int) * 256 + (((kb l0 s.off 2)[1]'(by omega)).toNat : Int)):=hu9
  refine qe rfl (qf (v:=vI ((((kb l0 s.off 2)[0]'(by omega)).toNat : Int) * 256 + (((kb l0 s.off 2)[1]'(by omega)).toNat : Int))) hu9 rfl ?_)
  exact ⟨vI ((((kb l0 s.off 2)[0]'(by omega)).toNat : Int) * 256 + (((kb l0 s.off 2)[1]'(by omega)).toNat : Int)),rfl,rfl,qk⟩
 intro f22 w23 qp qo hs24
 obtain ⟨hu10,-⟩:=qo
 have hu10 : f22 2 = vI ((((kb l0 s.off 2)[0]'(by omega)).toNat : Int) * 256 + (((kb l0 s.off 2)[1]'(by omega)).toNat : Int)):=hu10
 have hs24 : St _ _ _ [blk b1 [.pointer (some ⟨bb,0,none⟩)] 64,rdrI a0 l0 bb 62 (zv l0 s 2)] _:=hs24
 rewrite [qm hu10]
 refine qb (zo ?_)
 refine ⟨vI ((((kb l0 s.off 2)[0]'(by omega)).toNat : Int) * 256 + (((kb l0 s.off 2)[1]'(by omega)).toNat : Int)),res1 rfl,?_⟩
 exact ⟨⟨by unfold twoV; rw [byteAt_get (by omega : 0 < (kb l0 s.off 2).length),byteAt_get (by omega : 1 < (kb l0 s.off 2).length)] <;> rfl,hs24.get 1 rfl⟩,hs24.base⟩

/-- slices.Clone[[]byte,byte] -/
theorem clone_c (a : Option Addr) (cap : Nat) (l : List UInt8) (w : World) (h : (arrI encB 1 a l).φ w) (hl : l.length ≤ 100000) (hlc : l.length ≤ cap) (hnil : a = none → cap = 0) :
  C Try.prog 33 [.slice a l.length cap] w fun v w'=>(∃ a2 c2,v = .slice a2 l.length c2 ∧ (ownI 5 1 a2 c2 l.length (l.flatMap encB)).φ w' ∧ ∀ x,(ownI 5 1 a2 c2 l.length (l.flatMap encB)).fp x → w.heap.size ≤ x) ∧ Grow w w':=by
 have hs0 : St w (fun _=>False) w [] [arrI encB 1 a l]:=St.start w _ (by simpa using h)
 refine z8 [.tmp 2] 8 Try.func33 rfl Try.ntmps33 rfl rfl ?_
 refine qi (qc ?_)
 refine qa rfl (qf (v:=.slice none 0 0) rfl rfl ?_)
 refine ql (qb (qi (qi (qc ?_))))
 refine qa rfl (qj (v:=.slice a l.length cap) rfl rfl ?_)
 refine qa rfl (O_binv rfl rfl rfl eg_slice (b_eql_nil un27) ?_)
 refine ql (qb ?_)
 refine k5 (t:=a.isNone) rfl (fun hc1=>?_) (fun hc1=>?_)
 ·try simp only [Bool.and_eq_true,Bool.or_eq_true,Bool.not_eq_true',Bool.and_eq_false_iff,Bool.or_eq_false_iff,Bool.not_eq_false',decide_eq_true_eq,decide_eq_false_iff_not,Bool.and_eq_false_imp] at hc1
  refine qi (qc ?_)
  refine qa rfl (qf (v:=.slice none 0 0) rfl rfl ?_)
  refine ql (qb (zo (q9 ?_)))
  refine ⟨.slice none 0 0,res1 rfl,?_⟩
  have ha : a = none:=by simpa using hc1
  have hl2 : l = []:=by cases l with|nil=>rfl|cons=>have:=hnil ha; simp at hlc; omega
  subst hl2
  exact ⟨⟨none,0,rfl,⟨rfl,Nat.le_refl _,.inl ⟨rfl,rfl⟩⟩,fun x ⟨o,e⟩=>by cases e⟩,hs0.base⟩
 ·try simp only [Bool.and_eq_true,Bool.or_eq_true,Bool.not_eq_true',Bool.and_eq_false_iff,Bool.or_eq_false_iff,Bool.not_eq_false',decide_eq_true_eq,decide_eq_false_iff_not,Bool.and_eq_false_imp] at hc1
  refine zn (qb (qi (qc ?_)))
  refine qa rfl (zz (zs:=[]) (ps:=[]) (cs:=[]) hs0 un27 sz5 zv5 rfl rfl rfl rfl rfl ?_)
  intro b2 w3 hb5 hs4
  refine qa rfl (qj (v:=.slice a l.length cap) rfl rfl ?_)
  have hs6:=hs4.ownBlk 0 rfl 1 0 rfl (by decide)
  refine qa rfl (k7 (n2:=l.length) (xs2:=l.flatMap encB) hs6 0 rfl rfl rfl un27 ni27 inf5 rfl (Src.arr (hs6.getR 0 rfl) (fun _=>rfl) (fun _=>rfl) (hnil) (by omega)) (by simp) (rfl) (by omega) (by omega) rfl ?_)
  intro a7 c8 w9 hs10
  refine qa rfl (qf (v:=.slice a7 l.length c8) rfl rfl ?_)
  refine ql (qb (zo ?_))
  refine ⟨.slice a7 l.length c8,res1 rfl,?_⟩
  exact ⟨⟨_,_,rfl,hs10.get 0 rfl,hs10.newB 0 rfl⟩,hs10.base⟩


end Go.Proofs.Ytgddigkdldnmdaa
