import Derived.Test.YtgddigkdldnmdaaCWhere1
namespace Go.Proofs.Ytgddigkdldnmdaa
open Go Go.Vg Go.Img
set_option linter.unusedSimpArgs false
set_option maxHeartbeats 4000000


theorem get_at (a : Option Addr) (cap n : Nat) (l : List UInt8) (hn : l.length = n) (w : World) (h : (arrI encB 1 a l).φ w) (hl : l.length ≤ 20000) :
  C Try.prog 75 [.slice a n cap] w fun v w'=>v = .tuple #[.agg (insCells (getS l).1),vI (getS l).2] ∧ Grow w w':=by
 subst hn; exact get_c a cap l w h hl

/-- slices.Chunk[[]byte,byte] -/
theorem chunk_c (a : Option Addr) (n cap : Nat) (w : World)  :
  C Try.prog 74 [.slice a n cap,vI 4] w fun v w'=>(∃ b1 b2,v = .func (.func 82) #[] #[.pointer (some ⟨b1,0,none⟩),.pointer (some ⟨b2,0,none⟩)] ∧ ((blk b1 [.slice a n cap] 27).φ w' ∧ ∀ x,(blk b1 [.slice a n cap] 27).fp x → w.heap.size ≤ x) ∧ ((blk b2 [vI 4] 3).φ w' ∧ ∀ x,(blk b2 [vI 4] 3).fp x → w.heap.size ≤ x)) ∧ Grow w w':=by
 have hs0 : St w (fun _=>False) w [] []:=St.start w _ (by simp)
 refine z8 [.tmp 4] 9 Try.func74 rfl Try.ntmps74 rfl rfl ?_
 refine qi (qc ?_)
 refine qa rfl (jw (v:=.slice a n cap) (cs:=[.slice a n cap]) hs0 rfl rfl rfl ?_)
 intro b1 w2 hb4 hs3
 refine qa rfl (jw (v:=vI 4) (cs:=[vI 4]) hs3 rfl rfl rfl ?_)
 intro b5 w6 hb8 hs7
 refine qa rfl (qf (v:=.nilFunc) rfl rfl ?_)
 refine ql (qb (qi (qi (qc ?_))))
 refine qa rfl (qq (v:=vI 4) rfl ag3 (qh (hs7.get 0 rfl) rfl) rfl ?_)
 refine qa rfl (qt (k:=.i64) (k':=.i64) (a:=4) (b:=1) (v:=.bool false) rfl rfl rfl (fun w=>(jg w).trans (by first|rfl|decide)) ?_)
 refine ql (qb ?_)
 refine W_cond_f rfl ?_
 refine zn (qb (qi (qc ?_)))
 refine qa rfl (yh (fi:=[]) (cap:=[.pointer (some ⟨b1,0,none⟩),.pointer (some ⟨b5,0,none⟩)]) rfl rfl rfl ?_)
 refine qa rfl (qf (v:=.func (.func 82) #[] #[.pointer (some ⟨b1,0,none⟩),.pointer (some ⟨b5,0,none⟩)]) rfl rfl ?_)
 refine ql (qb (zo ?_))
 refine ⟨.func (.func 82) #[] #[.pointer (some ⟨b1,0,none⟩),.pointer (some ⟨b5,0,none⟩)],res1 rfl,?_⟩
 exact ⟨⟨_,_,rfl,⟨hs7.get 1 rfl,hs7.newB 1 rfl⟩,⟨hs7.get 0 rfl,hs7.newB 0 rfl⟩⟩,hs7.base⟩

/-- slices.Chunk[[]byte,byte]$1 -/
theorem chunk1_c (l : Nat) (it : Vg.Item) (A : List Nat → Vg.Item → Prop) (Ax : Vg.Item → Prop) (b1 b2 : Nat) (a : Option Addr) (n cap : Nat) (w : World) (hcap : n ≤ cap) (hn : n ≤ 1000000) (hit : it.φ w) (h1 : (blk b1 [.slice a n cap] 27).φ w) (h2 : (blk b2 [vI 4] 3).φ w) (s1 : ∀ b,(blk b1 [.slice a n cap] 27).fp b → ¬ it.fp b) (s2 : ∀ b,(blk b2 [vI 4] 3).fp b → ¬ it.fp b) (hA0 : A [] it) (hY : YSpec Try.prog l (fun x=>[.slice (subA a (4 * x) (4 * x + kz n x) 1) (kz n x) (kz n x)]) w it.fp (fun pre x=>x = pre.length ∧ 4 * x < n) A Ax) :
  C Try.prog 82 [.func (.yield l) #[] #[],.pointer (some ⟨b1,0,none⟩),.pointer (some ⟨b2,0,none⟩)] w fun v w'=>IterPost w it A Ax (fun xs=>n ≤ 4 * xs.length) v w':=by
 have hs0 : St w (it.fp) w [it] [blk b1 [.slice a n cap] 27,blk b2 [vI 4] 3]:=St.start1 w it _ hit (List.forall_mem_cons.2 ⟨h1,List.forall_mem_cons.2 ⟨h2,fun _ h=>by cases h⟩⟩) (List.forall_mem_cons.2 ⟨s1,List.forall_mem_cons.2 ⟨s2,fun _ h=>by cases h⟩⟩)
 refine z8 [] 31 Try.func82 rfl Try.ntmps82 rfl rfl ?_
 refine qi (qc ?_)
 refine qa rfl (qf (v:=vI 0) rfl rfl ?_)
 refine ql (qb (zy ?_))
 refine kw (fun m_ f_ w_=>∃ k : Nat,∃ it2 : Vg.Item,m_ = n + 4 - 4 * k ∧ (A (List.range k) it2) ∧ (4 * k < n + 4) ∧ f_ 0 = .func (.yield l) #[] #[] ∧ f_ 1 = .pointer (some ⟨b1,0,none⟩) ∧ f_ 2 = .pointer (some ⟨b2,0,none⟩) ∧ f_ 4 = vI ((4 * k : Nat) : Int) ∧ St w (it.fp) w_ [it2] [blk b1 [.slice a n cap] 27,blk b2 [vI 4] 3]) ?_ ?_
 ·exact ⟨_,0,it,rfl,hA0,by omega,rfl,rfl,rfl,rfl,hs0⟩
 ·intro m4 f1 w2; rintro ⟨k,it2,rfl,hA,hk,e5,e6,e7,e8,hs3⟩
  rewrite [qm e5]
  rewrite [qm e6]
  rewrite [qm e7]
  rewrite [qm e8]
  refine qi (qi (qc ?_))
  refine qa rfl (qj (v:=vI ((4 * k : Nat) : Int)) rfl rfl ?_)
  refine qa rfl (qq (v:=.slice a n cap) rfl ag27 (qh (hs3.getR 0 rfl) rfl) rfl ?_)
  refine qa rfl (qx (len:=n) rfl un27 rfl ?_)
  refine qa rfl (qt (k:=.i64) (k':=.i64) (a:=((4 * k : Nat) : Int)) (b:=((n : Nat) : Int)) rfl rfl rfl jg ?_)
  refine ql (qb ?_)
  refine zd rfl (fun hc9=>?_) (fun hc9=>?_)
  ·refine zn (qb (qi (zy (qi ?_))))
   have hcn:=chunkN_le n k
   refine jc js (show St _ _ _ [it2] _ from hs3) (fun i_=>match i_ with|_=>none) (fun i_=>match i_ with|_=>[]) (fun i_=>match i_ with|_=>[]) (fun i_=>match i_ with|3=>[1,2]|4=>[3]|5=>[0,4]|6=>[5]|_=>[]) [7,0,1,2,3,4,5,6,8,9,10,11,12,13,14] [6] (fun i_ v_=>match i_ with|0=>v_ = vI 4|1=>v_ = .slice a n cap|2=>v_ = vI ((4 * k : Nat) : Int)|3=>v_ = .slice (subA a (4 * k) cap 1) (n - (4 * k)) (cap - (4 * k))|4=>v_ = vI ((n - (4 * k) : Nat) : Int)|5=>v_ = vI ((kz n k : Nat) : Int)|6=>v_ = vI ((kz n k : Nat) : Int)|_=>True) (by kernel_rfl) (by kernel_rfl) ⟨?_,?_,?_,?_,?_,?_,?_,trivial⟩ ?_
   ·intro f0_ w0_ X0_ qp qo qu qk
    have hb2 : f0_ 2 = .pointer (some ⟨b2,0,none⟩):=(qp 2 rfl)
    refine qe rfl (qq (v:=vI 4) hb2 ag3 (qh (qk.getR 1 rfl) rfl) rfl ?_)
    exact ⟨vI 4,rfl,rfl,qk⟩
   ·intro f1_ w1_ X1_ qp qo qu qk
    have hb1 : f1_ 1 = .pointer (some ⟨b1,0,none⟩):=(qp 1 rfl)
    refine qe rfl (qq (v:=.slice a n cap) hb1 ag27 (qh (qk.getR 0 rfl) rfl) rfl ?_)
    exact ⟨.slice a n cap,rfl,rfl,qk⟩
   ·intro f2_ w2_ X2_ qp qo qu qk
    have hb4 : f2_ 4 = vI ((4 * k : Nat) : Int):=(qp 4 rfl)
    refine qe rfl (qj (v:=vI ((4 * k : Nat) : Int)) hb4 rfl ?_)
    exact ⟨vI ((4 * k : Nat) : Int),rfl,rfl,qk⟩
   ·intro f3_ w3_ X3_ qp qo qu qk
    obtain ⟨hu1,hu2,-⟩:=qo
    have hu1 : f3_ 14 = .slice a n cap:=hu1
    have hu2 : f3_ 15 = vI ((4 * k : Nat) : Int):=hu2
    refine qe rfl (O_slice (n':=n - (4 * k)) (c':=cap - (4 * k)) hu1 un27 sz5 (Bds.l hu2 (rfl) (by omega)) (by omega) (by omega) rfl ?_)
    exact ⟨.slice (subA a (4 * k) cap 1) (n - (4 * k)) (cap - (4 * k)),rfl,rfl,qk⟩
   ·intro f4_ w4_ X4_ qp qo qu qk
    obtain ⟨hu3,-⟩:=qo
    have hu3 : f4_ 16 = .slice (subA a (4 * k) cap 1) (n - (4 * k)) (cap - (4 * k)):=hu3
    refine qe rfl (qx (len:=(n - (4 * k))) hu3 un27 rfl ?_)
    exact ⟨vI ((n - (4 * k) : Nat) : Int),rfl,rfl,qk⟩
   ·intro f5_ w5_ X5_ qp qo qu qk
    obtain ⟨hu0,hu4,-⟩:=qo
    have hu0 : f5_ 13 = vI 4:=hu0
    have hu4 : f5_ 17 = vI ((n - (4 * k) : Nat) : Int):=hu4
    refine qe rfl (O_minE (c:=((kz n k : Nat) : Int)) hu0 hu4 (chunk_min (by omega)) rfl ?_)
    exact ⟨vI ((kz n k : Nat) : Int),rfl,rfl,qk⟩
   ·intro f6_ w6_ X6_ qp qo qu qk
    obtain ⟨hu5,-⟩:=qo
    have hu5 : f6_ 18 = vI ((kz n k : Nat) : Int):=hu5
    refine qe rfl (qf (v:=vI ((kz n k : Nat) : Int)) hu5 rfl ?_)
    exact ⟨vI ((kz n k : Nat) : Int),rfl,rfl,qk⟩
   intro f10 w11 qp qo hs12
   obtain ⟨hu6,-⟩:=qo
   have hu6 : f10 5 = vI ((kz n k : Nat) : Int):=hu6
   have hs12 : St _ _ _ [it2] _:=hs12
   have e13 : f10 0 = .func (.yield l) #[] #[]:=(qp 0 rfl)
   rewrite [qm e13]
   have e14 : f10 1 = .pointer (some ⟨b1,0,none⟩):=(qp 1 rfl)
   rewrite [qm e14]
   have e15 : f10 2 = .pointer (some ⟨b2,0,none⟩):=(qp 2 rfl)
   rewrite [qm e15]
   have e16 : f10 4 = vI ((4 * k : Nat) : Int):=(qp 4 rfl)
   rewrite [qm e16]
   rewrite [qm hu6]
   refine qb (qi (qc ?_))
   refine qa rfl (qj (v:=.func (.yield l) #[] #[]) rfl rfl ?_)
   refine qa rfl (qq (v:=.slice a n cap) rfl ag27 (qh (hs12.getR 0 rfl) rfl) rfl ?_)
   refine qa rfl (qj (v:=vI ((4 * k : Nat) : Int)) rfl rfl ?_)
   refine qa rfl (qj (v:=vI ((4 * k : Nat) : Int)) rfl rfl ?_)
   refine qa rfl (qj (v:=vI ((kz n k : Nat) : Int)) rfl rfl ?_)
   refine qa rfl (qt (v:=vI ((4 * k + (kz n k) : Nat) : Int)) rfl rfl rfl (ki (qz (by omega) (by omega))) ?_)
   refine qa rfl (qj (v:=vI ((4 * k : Nat) : Int)) rfl rfl ?_)
   refine qa rfl (qj (v:=vI ((kz n k : Nat) : Int)) rfl rfl ?_)
   refine qa rfl (qt (v:=vI ((4 * k + (kz n k) : Nat) : Int)) rfl rfl rfl (ki (qz (by omega) (by omega))) ?_)
   refine qa rfl (O_slice (n':=kz n k) (c':=kz n k) rfl un27 sz5 (Bds.lhm rfl (rfl) rfl (rfl) rfl (rfl) (by omega) (by omega) (by have:=chunkN_le n k; omega)) (by omega) (by omega) rfl ?_)
   refine qa rfl (O_yield (args:=[.slice (subA a (4 * k) (4 * k + (kz n k)) 1) (kz n k) (kz n k)]) hs12 0 rfl rfl rfl rfl (YSpec.at hY hs12 0 rfl (pre:=List.range k) (x:=k) ⟨List.length_range.symm,by omega⟩ hA) ?_)
   intro b19 it20 w17 hy21 hs18
   refine qa rfl (j0 (b:=b19) rfl rfl ?_)
   refine ql (qb ?_)
   refine k5 (t:=(!b19)) rfl (fun hc22=>?_) (fun hc22=>?_)
   ·try simp only [Bool.and_eq_true,Bool.or_eq_true,Bool.not_eq_true',Bool.and_eq_false_iff,Bool.or_eq_false_iff,Bool.not_eq_false',decide_eq_true_eq,decide_eq_false_iff_not,Bool.and_eq_false_imp] at hc22
    refine zo (zk (q9 (q9 (zk ?_))))
    refine ⟨.tuple #[],res0 _ _,?_⟩
    exact IterPost.of hs18 0 rfl (.inr (hy21.resolve_left (fun h=>by simp [hc22] at h)).2) _
   ·try simp only [Bool.and_eq_true,Bool.or_eq_true,Bool.not_eq_true',Bool.and_eq_false_iff,Bool.or_eq_false_iff,Bool.not_eq_false',decide_eq_true_eq,decide_eq_false_iff_not,Bool.and_eq_false_imp] at hc22
    refine zn (z7 (qb (qc ?_)))
    refine qa rfl (qj (v:=vI ((4 * k : Nat) : Int)) rfl rfl ?_)
    refine qa rfl (qq (v:=vI 4) rfl ag3 (qh (hs18.getR 1 rfl) rfl) rfl ?_)
    refine qa rfl (qt (v:=vI ((4 * (k + 1) : Nat) : Int)) rfl rfl rfl (ki (qz (by omega) (by omega))) ?_)
    refine qa rfl (qf (v:=vI ((4 * (k + 1) : Nat) : Int)) rfl rfl ?_)
    refine ql (qb ?_)
    refine ⟨_,?_,k + 1,it20,rfl,(List.range_succ ▸ (hy21.resolve_right (fun h=>by simp [hc22] at h)).2),by omega,rfl,rfl,rfl,rfl,hs18⟩
    omega
  ·refine ja (z0 (z0 (ke ?_)))
   refine ⟨.tuple #[],res0 _ _,?_⟩
   exact IterPost.of hs3 0 rfl (.inl ⟨_,by rw [List.length_range]; omega,hA⟩) _

/-- seizin/code.All -/
theorem all_c (a : Option Addr) (cap : Nat) (l : List UInt8) (w : World) (h : (arrI encB 1 a l).φ w) (hl : l.length ≤ 20000) (hcap : l.length ≤ cap) :
  C Try.prog 62 [.slice a l.length cap] w fun v w'=>(∃ a2 cap2,v = .tuple #[.slice a2 (allS l).1.length cap2,vI (allS l).2.1,vI (allS l).2.2] ∧ (arrI xi 4 a2 (allS l).1).φ w' ∧ ∀ b,(arrI xi 4 a2 (allS l).1).fp b → w.heap.size ≤ b) ∧ Grow w w':=by
 have hs0 : St w (fun _=>False) w [] [arrI encB 1 a l]:=St.start w _ (by simpa using h)
 refine C_of_WA 30 Try.func62 rfl Try.ntmps62 rfl ?_
 refine WA_seq ?_
 refine qc ?_
 refine qa rfl (kk (cs:=[.slice none 0 0]) hs0 zv75 rfl rfl ?_)
 intro b1 w2 hb4 hs3
 refine qa rfl (kk (cs:=[vI 0]) hs3 zv3 rfl rfl ?_)
 intro b5 w6 hb8 hs7
 refine qa rfl (kk (cs:=[vI 0]) hs7 zv30 rfl rfl ?_)
 intro b9 w10 hb12 hs11
 refine ql ?_
 refine onlyN_n ?_
 refine WA_seq ?_
 refine qc ?_
 refine qa rfl (kk (cs:=[.slice none 0 0]) hs11 zv75 rfl rfl ?_)
 intro b13 w14 hb16 hs15
 refine ql ?_
 refine onlyN_n ?_
 refine WA_seq ?_
 refine qc ?_
 refine qa rfl (kk (cs:=[vI 0]) hs15 zv3 rfl rfl ?_)
 intro b17 w18 hb20 hs19
 refine qa rfl (zx (v:=vI 0) (vs:=[vI 0]) (cs':=[vI 0]) hs19 0 rfl rfl rfl sz3 rfl rfl rfl rfl rfl ?_)
 intro w21 hs22
 refine ql ?_
 refine onlyN_n ?_
 refine WA_seqA ?_
 refine WA_seq ?_
 refine qc ?_
 refine qa rfl (qj (v:=.slice a l.length cap) rfl rfl ?_)
 refine qa rfl (zi (args:=[.slice a l.length cap,vI 4]) rfl rfl rfl en74 (chunk_c a l.length cap _) ?_)
 rintro _ w25 ⟨⟨b23,b24,rfl,hb27,hb28⟩,hk29⟩
 have hs26:=hs22.addRf hk29 [blk b23 [.slice a l.length cap] 27,blk b24 [vI 4] 3] (List.forall_mem_cons.2 ⟨hb27,List.forall_mem_cons.2 ⟨hb28,fun _ h=>by cases h⟩⟩)
 refine ql ?_
 refine onlyN_n ?_
 refine WA_blockA ?_
 have hs30:=hs26.ownNil 79 4
 refine WA_range (α:=Nat) hs30 rfl en82 (fun x=>[.slice (subA a (4 * x) (4 * x + kz l.length x) 1) (kz l.length x) (kz l.length x)]) (fun _=>rfl) rfl (fun pre x=>x = pre.length ∧ 4 * x < l.length) (fun xs=>l.length ≤ 4 * xs.length) (fun pre M_=>∃ k : Nat,∃ a5 : Option Addr,∃ c5 : Nat,M_ = [ownI 79 4 a5 c5 k (((List.range k).map (k9 l)).flatMap xi),blk b17 [vI ((4 * k : Nat) : Int)] 3,blk b13 [.slice a5 k c5] 75,blk b9 [vI 0] 30,blk b5 [vI 0] 3,blk b1 [.slice none 0 0] 75] ∧ (pre.length = k) ∧ (4 * k < l.length + 4) ∧ (∀ i,i < k → j7 l i = 0)) (fun (c_ : Code) M_=>(c_ = .ret ∧ ∃ k : Nat,∃ a5 : Option Addr,∃ c5 : Nat,M_ = [ownI 79 4 a5 c5 k (((List.range k).map (k9 l)).flatMap xi),blk b17 [vI ((4 * k : Nat) : Int)] 3,blk b13 [.slice a5 k c5] 75,blk b9 [vI (j7 l k)] 30,blk b5 [vI ((4 * k : Nat) : Int)] 3,blk b1 [.slice none 0 0] 75] ∧ (∀ i,i < k → j7 l i = 0) ∧ (4 * k < l.length) ∧ (j7 l k ≠ 0))) ⟨0,none,0,rfl,rfl,by omega,fun _ h=>absurd h (Nat.not_lt_zero _)⟩ ?_ ?_ ?_ ?_
 ·intro l_ W1 it_ A_ Ax_ hit_ hR_ hsep_ hA_ hY_
  exact chunk1_c l_ it_ A_ Ax_ b23 b24 a l.length cap W1 hcap (by omega) hit_ (hR_ _ (List.mem_of_getElem? (i:=0) rfl)) (hR_ _ (List.mem_of_getElem? (i:=1) rfl)) (hsep_ _ (List.mem_of_getElem? (i:=0) rfl)) (hsep_ _ (List.mem_of_getElem? (i:=1) rfl)) hA_ hY_
 ·rintro wb_ Sb_ l_ D_ o_ V_ M_ pre x ⟨k,a5,c5,rfl,hi1,hi2,hi3⟩ hok32 hs31
  obtain ⟨hx,hlt⟩:=hok32
  have hxk : k = x:=(hx.trans hi1).symm
  subst hxk
  refine qc ?_
  refine qa rfl (qf (v:=.slice (subA a (4 * k) (4 * k + kz l.length k) 1) (kz l.length k) (kz l.length k)) rfl rfl ?_)
  refine ql ?_
  refine onlyN_n ⟨_,hs31,fun o2_ V2_ hs33=>?_⟩
  refine zy (qi ?_)
  have hs34:=hs33.arrSub 2 rfl (4 * k) (kz l.length k) (4 * k + kz l.length k) (by have:=chunkN_le l.length k; omega)
  refine qc ?_
  refine qa rfl (qj (v:=.slice (subA a (4 * k) (4 * k + kz l.length k) 1) (kz l.length k) (kz l.length k)) rfl rfl ?_)
  refine qa rfl (zi (args:=[.slice (subA a (4 * k) (4 * k + kz l.length k) 1) (kz l.length k) (kz l.length k)]) rfl rfl rfl en75 (get_at (subA a (4 * k) (4 * k + kz l.length k) 1) (kz l.length k) (kz l.length k) (kg l k) (yj l k) _ (hs34.getR 0 rfl) (by have:=chunkN_le l.length k; rw [yj]; omega)) ?_)
  rintro _ w35 ⟨rfl,hk37⟩
  have hs36:=hs34.keep hk37
  refine qa rfl (qj (v:=.tuple #[.agg #[vI ((k9 l k).op),vI ((k9 l k).a),vI ((k9 l k).b),vI ((k9 l k).c)],vI (j7 l k)]) rfl rfl ?_)
  refine qa rfl (jh (v:=.agg #[vI ((k9 l k).op),vI ((k9 l k).a),vI ((k9 l k).b),vI ((k9 l k).c)]) rfl rfl rfl ?_)
  refine qa rfl (jh (v:=vI (j7 l k)) rfl rfl rfl ?_)
  refine qa rfl (kk (cs:=[vI 0,vI 0,vI 0,vI 0]) hs36 zv79 rfl rfl ?_)
  intro b38 w39 hb41 hs40
  refine qa rfl (zx (v:=.agg #[vI ((k9 l k).op),vI ((k9 l k).a),vI ((k9 l k).b),vI ((k9 l k).c)]) (vs:=[vI ((k9 l k).op),vI ((k9 l k).a),vI ((k9 l k).b),vI ((k9 l k).c)]) (cs':=[vI ((k9 l k).op),vI ((k9 l k).a),vI ((k9 l k).b),vI ((k9 l k).c)]) hs40 0 rfl rfl rfl sz79 rfl rfl rfl rfl rfl ?_)
  intro w42 hs43
  refine qa rfl (qf (v:=vI (j7 l k)) rfl rfl ?_)
  refine ql (qb (qi (qi (qc ?_))))
  refine qa rfl (qj (v:=vI (j7 l k)) rfl rfl ?_)
  refine qa rfl (qt (k:=.i64) (k':=.i64) (a:=(j7 l k)) (b:=0) rfl rfl rfl yd ?_)
  refine ql (qb ?_)
  refine zd rfl (fun hc44=>?_) (fun hc44=>?_)
  ·refine qi ?_
   refine jc js (show St _ _ _ [blk b38 [vI ((k9 l k).op),vI ((k9 l k).a),vI ((k9 l k).b),vI ((k9 l k).c)] 79,objI l_ o2_,objI D_ (.deferred (some [])),ownI 79 4 a5 c5 k (((List.range k).map (k9 l)).flatMap xi),blk b17 [vI ((4 * k : Nat) : Int)] 3,blk b13 [.slice a5 k c5] 75,blk b9 [vI 0] 30,blk b5 [vI 0] 3,blk b1 [.slice none 0 0] 75] _ from hs43) (fun i_=>match i_ with|2=>some ([],fun _=>blk b1 [.slice none 0 0] 75)|3=>some ([],fun _=>blk b5 [vI ((4 * k : Nat) : Int)] 3)|4=>some ([],fun _=>blk b9 [vI (j7 l k)] 30)|_=>none) (fun i_=>match i_ with|2=>[13]|3=>[12]|4=>[11]|_=>[]) (fun i_=>match i_ with|0=>[9]|_=>[]) (fun i_=>match i_ with|3=>[0]|4=>[1]|_=>[]) [5,6,7,8,9,10,4,3,2,0,1,14,15,16,17,18] [] (fun i_ v_=>match i_ with|0=>v_ = vI ((4 * k : Nat) : Int)|1=>v_ = vI (j7 l k)|_=>True) (by kernel_rfl) (by kernel_rfl) ⟨?_,?_,?_,?_,?_,trivial⟩ ?_
   ·intro f0_ w0_ X0_ qp qo qu qk
    have hb6 : f0_ 6 = .pointer (some ⟨b17,0,none⟩):=(qp 6 rfl)
    obtain ⟨hr9,-⟩:=qu
    have hr9 : Item.φ (blk b17 [vI ((4 * k : Nat) : Int)] 3) w0_:=hr9
    refine qe rfl (qq (v:=vI ((4 * k : Nat) : Int)) hb6 ag3 (qh (hr9) rfl) rfl ?_)
    exact ⟨vI ((4 * k : Nat) : Int),rfl,rfl,qk⟩
   ·intro f1_ w1_ X1_ qp qo qu qk
    have hb9 : f1_ 9 = vI (j7 l k):=(qp 9 rfl)
    refine qe rfl (qj (v:=vI (j7 l k)) hb9 rfl ?_)
    exact ⟨vI (j7 l k),rfl,rfl,qk⟩
   ·intro f2_ w2_ X2_ qp qo qu qk
    have hb2 : f2_ 2 = .pointer (some ⟨b1,0,none⟩):=(qp 2 rfl)
    have qk : St _ _ _ ((blk b1 [.slice none 0 0] 75) :: X2_) _:=qk
    refine qe rfl (zx (v:=.slice none 0 0) (vs:=[.slice none 0 0]) (cs':=[.slice none 0 0]) qk 0 rfl hb2 rfl sz75 rfl rfl rfl rfl rfl ?_)
    intro w45 hs46
    refine ⟨undef,rfl,trivial,?_⟩
    show St _ _ _ ((blk b1 [.slice none 0 0] 75) :: X2_) _
    exact hs46
   ·intro f3_ w3_ X3_ qp qo qu qk
    obtain ⟨hu0,-⟩:=qo
    have hu0 : f3_ 20 = vI ((4 * k : Nat) : Int):=hu0
    have hb3 : f3_ 3 = .pointer (some ⟨b5,0,none⟩):=(qp 3 rfl)
    have qk : St _ _ _ ((blk b5 [vI 0] 3) :: X3_) _:=qk
    refine qe rfl (zx (v:=vI ((4 * k : Nat) : Int)) (vs:=[vI ((4 * k : Nat) : Int)]) (cs':=[vI ((4 * k : Nat) : Int)]) qk 0 rfl hb3 hu0 sz3 rfl rfl rfl rfl rfl ?_)
    intro w47 hs48
    refine ⟨undef,rfl,trivial,?_⟩
    show St _ _ _ ((blk b5 [vI ((4 * k : Nat) : Int)] 3) :: X3_) _
    exact hs48
   ·intro f4_ w4_ X4_ qp qo qu qk
    obtain ⟨hu1,-⟩:=qo
    have hu1 : f4_ 21 = vI (j7 l k):=hu1
    have hb4 : f4_ 4 = .pointer (some ⟨b9,0,none⟩):=(qp 4 rfl)
    have qk : St _ _ _ ((blk b9 [vI 0] 30) :: X4_) _:=qk
    refine qe rfl (zx (v:=vI (j7 l k)) (vs:=[vI (j7 l k)]) (cs':=[vI (j7 l k)]) qk 0 rfl hb4 hu1 sz30 rfl rfl rfl rfl rfl ?_)
    intro w49 hs50
    refine ⟨undef,rfl,trivial,?_⟩
    show St _ _ _ ((blk b9 [vI (j7 l k)] 30) :: X4_) _
    exact hs50
   intro f51 w52 qp qo hs53
   have hs53 : St _ _ _ [blk b38 [vI ((k9 l k).op),vI ((k9 l k).a),vI ((k9 l k).b),vI ((k9 l k).c)] 79,objI l_ o2_,objI D_ (.deferred (some [])),ownI 79 4 a5 c5 k (((List.range k).map (k9 l)).flatMap xi),blk b17 [vI ((4 * k : Nat) : Int)] 3,blk b13 [.slice a5 k c5] 75,blk b9 [vI (j7 l k)] 30,blk b5 [vI ((4 * k : Nat) : Int)] 3,blk b1 [.slice none 0 0] 75] _:=hs53
   have e54 : f51 2 = .pointer (some ⟨b1,0,none⟩):=(qp 2 rfl)
   rewrite [qm e54]
   have e55 : f51 3 = .pointer (some ⟨b5,0,none⟩):=(qp 3 rfl)
   rewrite [qm e55]
   have e56 : f51 4 = .pointer (some ⟨b9,0,none⟩):=(qp 4 rfl)
   rewrite [qm e56]
   refine qb (zo (q9 (zk ?_)))
   have hs57:=hs53.popR
   refine roundQ_r ⟨_,hs57.popM,rfl,k,a5,c5,rfl,hi3,hlt,hc44⟩
  ·refine zn (qb (qi (qc ?_)))
   refine qa rfl (qq (v:=.slice a5 k c5) rfl ag75 (qh (hs43.get 5 rfl) rfl) rfl ?_)
   refine qa rfl (qw (vs:=[vI ((k9 l k).op),vI ((k9 l k).a),vI ((k9 l k).b),vI ((k9 l k).c)]) rfl ag79 sz79 (Rd.of_blk (hs43.get 0 rfl) 0 4) rfl rfl ?_)
   refine qa rfl (zz (zs:=[vI 0,vI 0,vI 0,vI 0]) (ps:=[(0,[vI ((k9 l k).op),vI ((k9 l k).a),vI ((k9 l k).b),vI ((k9 l k).c)])]) (cs:=[vI ((k9 l k).op),vI ((k9 l k).a),vI ((k9 l k).b),vI ((k9 l k).c)]) hs43 un75 sz79 zv79 rfl rfl rfl rfl rfl ?_)
   intro b58 w59 hb61 hs60
   refine qa rfl (k7 (n2:=k + 1) (xs2:=((List.range (k + 1)).map (k9 l)).flatMap xi) hs60 4 rfl rfl rfl un75 ni75 inf79 rfl (Src.rd (news:=[vI ((k9 l k).op),vI ((k9 l k).a),vI ((k9 l k).b),vI ((k9 l k).c)]) (Rd.of_blk (hs60.get 0 rfl) 0 4) rfl rfl) (by omega) (ins_flat l k) (by omega) (by omega) rfl ?_)
   intro a62 c63 w64 hs65
   refine qa rfl (zx (v:=.slice a62 (k + 1) c63) (vs:=[.slice a62 (k + 1) c63]) (cs':=[.slice a62 (k + 1) c63]) hs65 6 rfl rfl rfl sz75 rfl rfl rfl rfl rfl ?_)
   intro w66 hs67
   refine ql (qb (qc ?_))
   refine qa rfl (qq (v:=vI ((4 * k : Nat) : Int)) rfl ag3 (qh (hs67.get 5 rfl) rfl) rfl ?_)
   refine qa rfl (qt (v:=vI ((4 * (k + 1) : Nat) : Int)) rfl rfl rfl (ki (qz (by omega) (by omega))) ?_)
   refine qa rfl (zx (v:=vI ((4 * (k + 1) : Nat) : Int)) (vs:=[vI ((4 * (k + 1) : Nat) : Int)]) (cs':=[vI ((4 * (k + 1) : Nat) : Int)]) hs67 5 rfl rfl rfl sz3 rfl rfl rfl rfl rfl ?_)
   intro w68 hs69
   refine ql (z7 ?_)
   have hs70:=hs69.popR
   refine roundQ_n ⟨_,hs70.popM.popM,k + 1,a62,c63,rfl,by rw [List.length_append]; simp [hi1],by omega,bad_succ hi3 hc44⟩
 ·rintro D_ V_ xs M_ hfin_ ⟨k,a5,c5,rfl,hi1,hi2,hi3⟩ hs71
  refine End.of (End.block_n (End.then_n ?_))
  refine WA_finE ?_
  refine qi ?_
  refine jc js (show St _ _ _ [objI D_ (.deferred (some [])),ownI 79 4 a5 c5 k (((List.range k).map (k9 l)).flatMap xi),blk b17 [vI ((4 * k : Nat) : Int)] 3,blk b13 [.slice a5 k c5] 75,blk b9 [vI 0] 30,blk b5 [vI 0] 3,blk b1 [.slice none 0 0] 75] _ from hs71) (fun i_=>match i_ with|2=>some ([],fun _=>blk b1 [.slice a5 k c5] 75)|3=>some ([],fun _=>blk b5 [vI ((4 * k : Nat) : Int)] 3)|4=>some ([],fun _=>blk b9 [vI 0] 30)|_=>none) (fun i_=>match i_ with|2=>[11]|3=>[10]|4=>[9]|_=>[]) (fun i_=>match i_ with|0=>[8]|1=>[7]|_=>[]) (fun i_=>match i_ with|2=>[0]|3=>[1]|_=>[]) [5,6,7,8,4,3,2,0,1,12,13,14,15,16] [] (fun i_ v_=>match i_ with|0=>v_ = .slice a5 k c5|1=>v_ = vI ((4 * k : Nat) : Int)|_=>True) (by kernel_rfl) (by kernel_rfl) ⟨?_,?_,?_,?_,?_,trivial⟩ ?_
  ·intro f0_ w0_ X0_ qp qo qu qk
   have hb5 : f0_ 5 = .pointer (some ⟨b13,0,none⟩):=(qp 5 rfl)
   obtain ⟨hr8,-⟩:=qu
   have hr8 : Item.φ (blk b13 [.slice a5 k c5] 75) w0_:=hr8
   refine qe rfl (qq (v:=.slice a5 k c5) hb5 ag75 (qh (hr8) rfl) rfl ?_)
   exact ⟨.slice a5 k c5,rfl,rfl,qk⟩
  ·intro f1_ w1_ X1_ qp qo qu qk
   have hb6 : f1_ 6 = .pointer (some ⟨b17,0,none⟩):=(qp 6 rfl)
   obtain ⟨hr7,-⟩:=qu
   have hr7 : Item.φ (blk b17 [vI ((4 * k : Nat) : Int)] 3) w1_:=hr7
   refine qe rfl (qq (v:=vI ((4 * k : Nat) : Int)) hb6 ag3 (qh (hr7) rfl) rfl ?_)
   exact ⟨vI ((4 * k : Nat) : Int),rfl,rfl,qk⟩
  ·intro f2_ w2_ X2_ qp qo qu qk
   obtain ⟨hu0,-⟩:=qo
   have hu0 : f2_ 28 = .slice a5 k c5:=hu0
   have hb2 : f2_ 2 = .pointer (some ⟨b1,0,none⟩):=(qp 2 rfl)
   have qk : St _ _ _ ((blk b1 [.slice none 0 0] 75) :: X2_) _:=qk
   refine qe rfl (zx (v:=.slice a5 k c5) (vs:=[.slice a5 k c5]) (cs':=[.slice a5 k c5]) qk 0 rfl hb2 hu0 sz75 rfl rfl rfl rfl rfl ?_)
   intro w72 hs73
   refine ⟨undef,rfl,trivial,?_⟩
   show St _ _ _ ((blk b1 [.slice a5 k c5] 75) :: X2_) _
   exact hs73
  ·intro f3_ w3_ X3_ qp qo qu qk
   obtain ⟨hu1,-⟩:=qo
   have hu1 : f3_ 29 = vI ((4 * k : Nat) : Int):=hu1
   have hb3 : f3_ 3 = .pointer (some ⟨b5,0,none⟩):=(qp 3 rfl)
   have qk : St _ _ _ ((blk b5 [vI 0] 3) :: X3_) _:=qk
   refine qe rfl (zx (v:=vI ((4 * k : Nat) : Int)) (vs:=[vI ((4 * k : Nat) : Int)]) (cs':=[vI ((4 * k : Nat) : Int)]) qk 0 rfl hb3 hu1 sz3 rfl rfl rfl rfl rfl ?_)
   intro w74 hs75
   refine ⟨undef,rfl,trivial,?_⟩
   show St _ _ _ ((blk b5 [vI ((4 * k : Nat) : Int)] 3) :: X3_) _
   exact hs75
  ·intro f4_ w4_ X4_ qp qo qu qk
   have hb4 : f4_ 4 = .pointer (some ⟨b9,0,none⟩):=(qp 4 rfl)
   have qk : St _ _ _ ((blk b9 [vI 0] 30) :: X4_) _:=qk
   refine qe rfl (zx (v:=vI 0) (vs:=[vI 0]) (cs':=[vI 0]) qk 0 rfl hb4 rfl sz30 rfl rfl rfl rfl rfl ?_)
   intro w76 hs77
   refine ⟨undef,rfl,trivial,?_⟩
   show St _ _ _ ((blk b9 [vI 0] 30) :: X4_) _
   exact hs77
  intro f78 w79 qp qo hs80
  have hs80 : St _ _ _ [objI D_ (.deferred (some [])),ownI 79 4 a5 c5 k (((List.range k).map (k9 l)).flatMap xi),blk b17 [vI ((4 * k : Nat) : Int)] 3,blk b13 [.slice a5 k c5] 75,blk b9 [vI 0] 30,blk b5 [vI ((4 * k : Nat) : Int)] 3,blk b1 [.slice a5 k c5] 75] _:=hs80
  have e81 : f78 2 = .pointer (some ⟨b1,0,none⟩):=(qp 2 rfl)
  rewrite [qm e81]
  have e82 : f78 3 = .pointer (some ⟨b5,0,none⟩):=(qp 3 rfl)
  rewrite [qm e82]
  have e83 : f78 4 = .pointer (some ⟨b9,0,none⟩):=(qp 4 rfl)
  rewrite [qm e83]
  refine qb (zo ?_)
  refine ⟨rfl,End.fin (rs:=[.cell 2 75,.cell 3 3,.cell 4 30]) rfl hs80 0 rfl (fun w84 hs85=>?_)⟩
  refine ⟨.tuple #[.slice a5 k c5,vI ((4 * k : Nat) : Int),vI 0],resn [.slice a5 k c5,vI ((4 * k : Nat) : Int),vI 0] ⟨(rv_cell rfl ag75 (qh (hs85.get 6 rfl) rfl)),(rv_cell rfl ag3 (qh (hs85.get 5 rfl) rfl)),(rv_cell rfl ag30 (qh (hs85.get 4 rfl) rfl)),trivial⟩ rfl,?_⟩
  rw [hi1] at hfin_
  rw [allS_good hi3 hfin_ hi2]
  have ho:=hs85.ownArr 1 (α:=InsV) (enc:=xi) (l:=(List.range k).map (k9 l)) rfl (fun _=>rfl) (by decide)
  refine ⟨⟨a5,c5,by rw [List.length_map,List.length_range],ho.getR 0 rfl,fun b ⟨_,o,e⟩=>hs85.newB 1 rfl b ⟨o,e⟩⟩,hs85.base⟩
 ·rintro D_ V_ c_ M_ hx_ hs_
  rcases hx_ with ⟨rfl,k,a5,c5,rfl,hx1,hx2,hx3⟩
  ·refine WA_ret ?_
   refine End.of (End.block_r (End.then_r ?_))
   refine End.fin (rs:=[.cell 2 75,.cell 3 3,.cell 4 30]) rfl hs_ 0 rfl (fun w86 hs87=>?_)
   refine ⟨.tuple #[.slice none 0 0,vI ((4 * k : Nat) : Int),vI (j7 l k)],resn [.slice none 0 0,vI ((4 * k : Nat) : Int),vI (j7 l k)] ⟨(rv_cell rfl ag75 (qh (hs87.get 6 rfl) rfl)),(rv_cell rfl ag3 (qh (hs87.get 5 rfl) rfl)),(rv_cell rfl ag30 (qh (hs87.get 4 rfl) rfl)),trivial⟩ rfl,?_⟩
   rw [allS_bad hx1 hx2 hx3]
   exact ⟨⟨none,0,rfl,fun i hi=>absurd hi (Nat.not_lt_zero _),fun b h=>absurd rfl h.1⟩,hs87.base⟩


end Go.Proofs.Ytgddigkdldnmdaa
