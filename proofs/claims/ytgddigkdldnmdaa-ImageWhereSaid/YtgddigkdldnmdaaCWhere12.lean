import Derived.Test.YtgddigkdldnmdaaCWhere11
namespace Go.Proofs.Ytgddigkdldnmdaa
open Go Go.Vg Go.Img
set_option linter.unusedSimpArgs false
set_option maxHeartbeats 4000000
theorem en29 : ∀ args w,(callFunc 29 args).run Try.prog w = .ok (.enter 29 args) w:=fun args w=>qy Try.func29 (by kernel_rfl) rfl args w
theorem en16 : ∀ args w,(callFunc 16 args).run Try.prog w = .ok (.enter 16 args) w:=fun args w=>qy Try.func16 (by kernel_rfl) rfl args w
theorem en12 : ∀ args w,(callFunc 12 args).run Try.prog w = .ok (.enter 12 args) w:=fun args w=>qy Try.func12 (by kernel_rfl) rfl args w
theorem en19 : ∀ args w,(callFunc 19 args).run Try.prog w = .ok (.enter 19 args) w:=fun args w=>qy Try.func19 (by kernel_rfl) rfl args w
theorem en18 : ∀ args w,(callFunc 18 args).run Try.prog w = .ok (.enter 18 args) w:=fun args w=>qy Try.func18 (by kernel_rfl) rfl args w

theorem one_ok {w : World} {b1 b2 b3 bh c : Nat} {a : Option Addr} {fr1 fr2 fr3 fr4 : Nat × Nat} (h1 : w.heap[b1]? = some (.cells [.slice a 8 c,vI 1,.slice (some ⟨bh,0,none⟩) 4 4,vI 2].toArray 53 fr1)) (h2 : w.heap[b2]? = some (.cells [vI 1,vI 0,vI 1].toArray 68 fr2)) (h3 : w.heap[b3]? = some (.cells [vI 3,vI 1].toArray 70 fr3))
  (h4 : (ownI 5 1 a c 8 (List.flatMap encB [1,1,0,7,0,0,0,0])).φ w) (h5 : w.heap[bh]? = some (.cells [.int .u8 0,.int .u8 0,.int .u8 0,.int .u8 0].toArray 5 fr4)) :
  ∀ i ∈ kh (⟨false,2,8,some ⟨b1,0,none⟩,2,[⟨a,c,[1,1,0,7,0,0,0,0],1⟩,⟨some ⟨bh,0,none⟩,4,[0,0,0,0],2⟩],some ⟨b2,0,none⟩,1,[⟨1,0,1⟩],some ⟨b3,0,none⟩,1,[⟨3,1⟩]⟩ : ImageV),i.φ w:=by
 intro i hi
 simp only [kh,List.mem_cons,List.not_mem_nil,or_false] at hi
 rcases hi with rfl|rfl|rfl|rfl
 ·exact jb (enc:=zu) (m:=2) (fun _=>rfl) _ h1 rfl
 ·exact jb (enc:=z1) (m:=3) (fun _=>rfl) _ h2 rfl
 ·exact jb (enc:=zw) (m:=2) (fun _=>rfl) _ h3 rfl
 ·intro x hx
  simp only [List.mem_cons,List.not_mem_nil,or_false] at hx
  rcases hx with rfl|rfl
  ·exact jp (m:=1) (fun _=>rfl) (by decide) h4
  ·exact jb (enc:=encB) (m:=1) (fun _=>rfl) _ h5 rfl
theorem one_new {n : Nat} {b1 b2 b3 bh c : Nat} {a : Option Addr} (h1 : ∀ b,b = b1 → n ≤ b) (h2 : ∀ b,b = b2 → n ≤ b) (h3 : ∀ b,b = b3 → n ≤ b) (h4 : ∀ b,(∃ o,a = some ⟨b,o,none⟩) → n ≤ b) (h5 : ∀ b,b = bh → n ≤ b) :
  ∀ i ∈ kh (⟨false,2,8,some ⟨b1,0,none⟩,2,[⟨a,c,[1,1,0,7,0,0,0,0],1⟩,⟨some ⟨bh,0,none⟩,4,[0,0,0,0],2⟩],some ⟨b2,0,none⟩,1,[⟨1,0,1⟩],some ⟨b3,0,none⟩,1,[⟨3,1⟩]⟩ : ImageV),∀ b,i.fp b → n ≤ b:=by
 intro i hi b hb
 simp only [kh,List.mem_cons,List.not_mem_nil,or_false] at hi
 rcases hi with rfl|rfl|rfl|rfl
 ·obtain ⟨_,o,e⟩:=hb; cases e; exact h1 _ rfl
 ·obtain ⟨_,o,e⟩:=hb; cases e; exact h2 _ rfl
 ·obtain ⟨_,o,e⟩:=hb; cases e; exact h3 _ rfl
 ·obtain ⟨x,hx,hb⟩:=hb
  simp only [List.mem_cons,List.not_mem_nil,or_false] at hx
  rcases hx with rfl|rfl
  ·exact h4 b hb.2
  ·obtain ⟨_,o,e⟩:=hb; cases e; exact h5 _ rfl
theorem one_B {w : World} {b1 b2 b3 bh c : Nat} {a : Option Addr} (h4 : (ownI 5 1 a c 8 (List.flatMap encB [1,1,0,7,0,0,0,0])).φ w) :
  ImgB (⟨false,2,8,some ⟨b1,0,none⟩,2,[⟨a,c,[1,1,0,7,0,0,0,0],1⟩,⟨some ⟨bh,0,none⟩,4,[0,0,0,0],2⟩],some ⟨b2,0,none⟩,1,[⟨1,0,1⟩],some ⟨b3,0,none⟩,1,[⟨3,1⟩]⟩ : ImageV) :=
 ⟨(show 2 ≤ 20000 by decide),(show 1 ≤ 20000 by decide),(show 1 ≤ 20000 by decide),Nat.le_refl 2,Nat.le_refl 1,Nat.le_refl 1,fun h=>(nomatch h),fun h=>(nomatch h),fun h=>(nomatch h),fun x hx=>by
  simp only [List.mem_cons,List.not_mem_nil,or_false] at hx
  rcases hx with rfl|rfl
  ·exact ⟨(show 8 ≤ 20000 by decide),j5 h4⟩
  ·exact ⟨(show 4 ≤ 20000 by decide),Nat.le_refl 4,fun h=>(nomatch h)⟩⟩

theorem encPair_len : ∀ p : CapV × CapV,(jt p).length = 12:=fun _=>rfl
theorem C.own {P : Program} {g : FuncId} {args : List Value} {w : World} {α : Type} {E m : Nat} {enc : α → List Value} {l l2 : List α} (h : C P g args w fun v w'=>(∃ a2 c2,v = .slice a2 l.length c2 ∧ (ownI E m a2 c2 l.length (l.flatMap enc)).φ w' ∧ ∀ x,(ownI E m a2 c2 l.length (l.flatMap enc)).fp x → w.heap.size ≤ x) ∧ Grow w w') (e : l = l2) :
  C P g args w fun v w'=>(∃ a2 c2,v = .slice a2 l2.length c2 ∧ (ownI E m a2 c2 l2.length (l2.flatMap enc)).φ w' ∧ ∀ x,(ownI E m a2 c2 l2.length (l2.flatMap enc)).fp x → w.heap.size ≤ x) ∧ Grow w w':=e ▸ h

set_option maxHeartbeats 1000000 in
/-- seizin/seizinlaw17.One -/
theorem one_img  (w : World)  :
  C Try.prog 29 [] w fun v w'=>(∃ m : ImageV,v = .agg (qn m).toArray ∧ (∀ i ∈ kh m,i.φ w') ∧ (∀ i ∈ kh m,∀ b,i.fp b → w.heap.size ≤ b) ∧ ImgB m ∧ m.canon = oneI) ∧ Grow w w':=by
 have hs0 : St w (fun _=>False) w [] []:=St.start w _ (by simp)
 refine z8 [.cell 0 26] 17 Try.func29 rfl Try.ntmps29 rfl rfl ?_
 refine qi (qc ?_)
 refine qa rfl (kk (cs:=[.bool false,vI 0,vI 0,.slice none 0 0,.slice none 0 0,.slice none 0 0]) hs0 zv26 rfl rfl ?_)
 intro b1 w2 hb4 hs3
 refine ql (qb (qi (qc ?_)))
 refine qa rfl (zz (zs:=[.int .u8 0,.int .u8 0,.int .u8 0,.int .u8 0]) (ps:=[(0,[.int .u8 0]),(1,[.int .u8 0]),(2,[.int .u8 0]),(3,[.int .u8 0])]) (cs:=[.int .u8 0,.int .u8 0,.int .u8 0,.int .u8 0]) hs3 un27 sz5 zv5 rfl rfl rfl rfl rfl ?_)
 intro b5 w6 hb8 hs7
 refine qa rfl (qf (v:=.slice (some ⟨b5,0,none⟩) 4 4) rfl rfl ?_)
 refine ql (qb (qi (qc ?_)))
 refine qa rfl (zz (zs:=[.int .u8 0,.int .u8 0,.int .u8 0,.int .u8 0]) (ps:=[(0,[.int .u8 1]),(1,[.int .u8 1]),(2,[.int .u8 0]),(3,[.int .u8 7])]) (cs:=[.int .u8 1,.int .u8 1,.int .u8 0,.int .u8 7]) hs7 un27 sz5 zv5 rfl rfl rfl rfl rfl ?_)
 intro b9 w10 hb12 hs11
 refine qa rfl (qj (v:=.slice (some ⟨b5,0,none⟩) 4 4) rfl rfl ?_)
 have hs13:=hs11.ownBlk 0 rfl 1 4 rfl (by decide)
 refine qa rfl (k7 (n2:=8) (xs2:=[.int .u8 1,.int .u8 1,.int .u8 0,.int .u8 7] ++ [.int .u8 0,.int .u8 0,.int .u8 0,.int .u8 0]) hs13 0 rfl rfl rfl un27 ni27 inf5 rfl (Src.rd (news:=[.int .u8 0,.int .u8 0,.int .u8 0,.int .u8 0]) (Rd.of_blk (hs13.get 1 rfl) 0 4) rfl rfl) (rfl) (rfl) (by omega) (by omega) rfl ?_)
 intro a14 c15 w16 hs17
 refine qa rfl (qf (v:=.slice a14 8 c15) rfl rfl ?_)
 refine ql (qb (qi (qc ?_)))
 refine qa rfl (qj (v:=.slice a14 8 c15) rfl rfl ?_)
 refine qa rfl (jl (ps:=[(0,[.slice a14 8 c15]),(1,[vI 1])]) (cells:=[.slice a14 8 c15,vI 1]) bt53 rfl rfl rfl ?_)
 refine qa rfl (qj (v:=.slice (some ⟨b5,0,none⟩) 4 4) rfl rfl ?_)
 refine qa rfl (jl (ps:=[(0,[.slice (some ⟨b5,0,none⟩) 4 4]),(1,[vI 2])]) (cells:=[.slice (some ⟨b5,0,none⟩) 4 4,vI 2]) bt53 rfl rfl rfl ?_)
 refine qa rfl (zz (zs:=[.slice none 0 0,vI 0,.slice none 0 0,vI 0]) (ps:=[(0,[.slice a14 8 c15,vI 1]),(1,[.slice (some ⟨b5,0,none⟩) 4 4,vI 2])]) (cs:=[.slice a14 8 c15,vI 1,.slice (some ⟨b5,0,none⟩) 4 4,vI 2]) hs17 un22 sz53 zv53 rfl rfl rfl rfl rfl ?_)
 intro b18 w19 hb21 hs20
 refine qa rfl (jl (ps:=[(0,[vI 1]),(1,[vI 0]),(2,[vI 1])]) (cells:=[vI 1,vI 0,vI 1]) bt68 rfl rfl rfl ?_)
 refine qa rfl (zz (zs:=[vI 0,vI 0,vI 0]) (ps:=[(0,[vI 1,vI 0,vI 1])]) (cs:=[vI 1,vI 0,vI 1]) hs20 un23 sz68 zv68 rfl rfl rfl rfl rfl ?_)
 intro b22 w23 hb25 hs24
 refine qa rfl (jl (ps:=[(0,[vI 3]),(1,[vI 1])]) (cells:=[vI 3,vI 1]) bt70 rfl rfl rfl ?_)
 refine qa rfl (zz (zs:=[vI 0,vI 0]) (ps:=[(0,[vI 3,vI 1])]) (cs:=[vI 3,vI 1]) hs24 un24 sz70 zv70 rfl rfl rfl rfl rfl ?_)
 intro b26 w27 hb29 hs28
 refine qa rfl (jl (ps:=[(1,[vI 2]),(2,[vI 8]),(3,[.slice (some ⟨b18,0,none⟩) 2 2]),(4,[.slice (some ⟨b22,0,none⟩) 1 1]),(5,[.slice (some ⟨b26,0,none⟩) 1 1])]) (cells:=[.bool false,vI 2,vI 8,.slice (some ⟨b18,0,none⟩) 2 2,.slice (some ⟨b22,0,none⟩) 1 1,.slice (some ⟨b26,0,none⟩) 1 1]) bt26 rfl rfl rfl ?_)
 refine qa rfl (zx (v:=.agg #[.bool false,vI 2,vI 8,.slice (some ⟨b18,0,none⟩) 2 2,.slice (some ⟨b22,0,none⟩) 1 1,.slice (some ⟨b26,0,none⟩) 1 1]) (vs:=[.bool false,vI 2,vI 8,.slice (some ⟨b18,0,none⟩) 2 2,.slice (some ⟨b22,0,none⟩) 1 1,.slice (some ⟨b26,0,none⟩) 1 1]) (cs':=[.bool false,vI 2,vI 8,.slice (some ⟨b18,0,none⟩) 2 2,.slice (some ⟨b22,0,none⟩) 1 1,.slice (some ⟨b26,0,none⟩) 1 1]) hs28 5 rfl rfl rfl sz26 rfl rfl rfl rfl rfl ?_)
 intro w30 hs31
 refine ql (qb (zo ?_))
 refine ⟨.agg #[.bool false,vI 2,vI 8,.slice (some ⟨b18,0,none⟩) 2 2,.slice (some ⟨b22,0,none⟩) 1 1,.slice (some ⟨b26,0,none⟩) 1 1],resn [.agg #[.bool false,vI 2,vI 8,.slice (some ⟨b18,0,none⟩) 2 2,.slice (some ⟨b22,0,none⟩) 1 1,.slice (some ⟨b26,0,none⟩) 1 1]] ⟨(xc rfl ag26 sz26 (vs:=[.bool false,vI 2,vI 8,.slice (some ⟨b18,0,none⟩) 2 2,.slice (some ⟨b22,0,none⟩) 1 1,.slice (some ⟨b26,0,none⟩) 1 1]) (Rd.of_blk (hs31.get 5 rfl) 0 6) rfl),trivial⟩ rfl,?_⟩
 exact ⟨⟨(⟨false,2,8,(some ⟨b18,0,none⟩),2,[⟨a14,c15,[1,1,0,7,0,0,0,0],1⟩,⟨(some ⟨b5,0,none⟩),4,[0,0,0,0],2⟩],(some ⟨b22,0,none⟩),1,[⟨1,0,1⟩],(some ⟨b26,0,none⟩),1,[⟨3,1⟩]⟩ : ImageV),rfl,one_ok (hs31.get 2 rfl) (hs31.get 1 rfl) (hs31.get 0 rfl) (hs31.get 3 rfl) (hs31.get 4 rfl),one_new (hs31.newB 2 rfl) (hs31.newB 1 rfl) (hs31.newB 0 rfl) (hs31.newB 3 rfl) (hs31.newB 4 rfl),one_B (hs31.get 3 rfl),rfl⟩,hs31.base⟩

set_option maxHeartbeats 4000000 in
/-- seizin/seizinlaw17.head -/
theorem head_c  (w : World)  :
  C Try.prog 10 [] w fun v w'=>v = .bool true ∧ Grow w w':=by
 have hs0 : St w (fun _=>False) w [] []:=St.start w _ (by simp)
 refine z8 [.tmp 0] 113 Try.func10 rfl Try.ntmps10 rfl rfl ?_
 refine qi (qc ?_)
 refine qa rfl (qf (v:=.bool false) rfl rfl ?_)
 refine ql (qb (qi (qc ?_)))
 refine qa rfl (zi (args:=[]) rfl rfl rfl en29 (one_img _) ?_)
 rintro _ w1 ⟨⟨m,rfl,hp3,hn4,hb,hcan⟩,hk5⟩
 have hs2:=hs0.addRf hk5 (kh m) (fun i hi=>⟨hp3 i hi,hn4 i hi⟩)
 have hright : z2 m = true:=by rw [← x3,hcan]; exact one_right
 refine qa rfl (kk (cs:=[.bool false,vI 0,vI 0,.slice none 0 0,.slice none 0 0,.slice none 0 0]) hs2 zv26 rfl rfl ?_)
 intro b6 w7 hb9 hs8
 refine qa rfl (zx (v:=.agg (qn m).toArray) (vs:=(qn m)) (cs':=(qn m)) hs8 0 rfl rfl rfl sz26 rfl rfl rfl rfl rfl ?_)
 intro w10 hs11
 refine ql (qb (qi (qc ?_)))
 refine qa rfl (qw (vs:=(qn m)) rfl ag26 sz26 (Rd.of_blk (hs11.get 0 rfl) 0 6) rfl rfl ?_)
 refine qa rfl (zi (args:=[.agg (qn m).toArray]) rfl rfl rfl en16 (C.own (put_c m _ (fun i hi=>hs11.r i (List.mem_of_mem_drop (l:=(kh m)) (i:=0) hi)) hb) ((putS_canon m).symm.trans ((congrArg putS hcan).trans one_put))) ?_)
 rintro _ w14 ⟨⟨a12,c13,rfl,ha16,hn17⟩,hk18⟩
 have hqa12:=j5 ha16
 have hs15:=hs11.addRf hk18 [arrI encB 1 a12 oneB] (List.forall_mem_cons.2 ⟨⟨jp (m:=1) (fun _=>rfl) (by decide) ha16,fun b hb=>hn17 b hb.2⟩,fun _ h=>by cases h⟩)
 refine qa rfl (qf (v:=.slice a12 33 c13) rfl rfl ?_)
 refine ql (qb (qi (qc ?_)))
 refine qa rfl (qj (v:=.slice a12 33 c13) rfl rfl ?_)
 refine qa rfl (zi (args:=[.slice a12 33 c13]) rfl rfl rfl en12 (getI_c a12 c13 oneB _ (hs15.getR 0 rfl) (by decide) hqa12.1 hqa12.2) ?_)
 rintro _ w19 ⟨⟨n0,e25,rfl,hp21,hn22,n0b,n0c,hx24⟩,hk23⟩
 rw [one_get] at n0c hx24; obtain rfl : e25 = 0:=hx24
 have hs20:=hs15.addRf hk23 (kh n0) (fun i hi=>⟨hp21 i hi,hn22 i hi⟩)
 refine qa rfl (qj (v:=.tuple #[.agg #[.bool n0.strict,vI n0.heap,vI n0.full,.slice n0.ca n0.comps.length n0.ccap,.slice n0.la n0.links.length n0.lcap,.slice n0.sa n0.shares.length n0.scap],vI 0]) rfl rfl ?_)
 refine qa rfl (jh (v:=.agg #[.bool n0.strict,vI n0.heap,vI n0.full,.slice n0.ca n0.comps.length n0.ccap,.slice n0.la n0.links.length n0.lcap,.slice n0.sa n0.shares.length n0.scap]) rfl rfl rfl ?_)
 refine qa rfl (jh (v:=vI 0) rfl rfl rfl ?_)
 refine qa rfl (kk (cs:=[.bool false,vI 0,vI 0,.slice none 0 0,.slice none 0 0,.slice none 0 0]) hs20 zv26 rfl rfl ?_)
 intro b26 w27 hb29 hs28
 refine qa rfl (zx (v:=.agg #[.bool n0.strict,vI n0.heap,vI n0.full,.slice n0.ca n0.comps.length n0.ccap,.slice n0.la n0.links.length n0.lcap,.slice n0.sa n0.shares.length n0.scap]) (vs:=[.bool n0.strict,vI n0.heap,vI n0.full,.slice n0.ca n0.comps.length n0.ccap,.slice n0.la n0.links.length n0.lcap,.slice n0.sa n0.shares.length n0.scap]) (cs':=[.bool n0.strict,vI n0.heap,vI n0.full,.slice n0.ca n0.comps.length n0.ccap,.slice n0.la n0.links.length n0.lcap,.slice n0.sa n0.shares.length n0.scap]) hs28 0 rfl rfl rfl sz26 rfl rfl rfl rfl rfl ?_)
 intro w30 hs31
 refine qa rfl (qf (v:=vI 0) rfl rfl ?_)
 refine ql (qb (qi (qc ?_)))
 refine qa rfl (zi (args:=[.slice none 0 0]) rfl rfl rfl en12 (getI_c none 0 [] _ ((fun i h=>by cases h)) (by decide) (Nat.le_refl _) (fun _=>rfl)) ?_)
 rintro _ w32 ⟨⟨n1,e38,rfl,hp34,hn35,n1b,n1c,hx37⟩,hk36⟩
 rw [nil_get] at n1c hx37; obtain rfl : e38 = 1:=hx37
 have hs33:=hs31.addRf hk36 (kh n1) (fun i hi=>⟨hp34 i hi,hn35 i hi⟩)
 refine qa rfl (qj (v:=.tuple #[.agg #[.bool n1.strict,vI n1.heap,vI n1.full,.slice n1.ca n1.comps.length n1.ccap,.slice n1.la n1.links.length n1.lcap,.slice n1.sa n1.shares.length n1.scap],vI 1]) rfl rfl ?_)
 refine qa rfl (jh (v:=.agg #[.bool n1.strict,vI n1.heap,vI n1.full,.slice n1.ca n1.comps.length n1.ccap,.slice n1.la n1.links.length n1.lcap,.slice n1.sa n1.shares.length n1.scap]) rfl rfl rfl ?_)
 refine qa rfl (jh (v:=vI 1) rfl rfl rfl ?_)
 refine qa rfl (kk (cs:=[.bool false,vI 0,vI 0,.slice none 0 0,.slice none 0 0,.slice none 0 0]) hs33 zv26 rfl rfl ?_)
 intro b39 w40 hb42 hs41
 refine qa rfl (zx (v:=.agg #[.bool n1.strict,vI n1.heap,vI n1.full,.slice n1.ca n1.comps.length n1.ccap,.slice n1.la n1.links.length n1.lcap,.slice n1.sa n1.shares.length n1.scap]) (vs:=[.bool n1.strict,vI n1.heap,vI n1.full,.slice n1.ca n1.comps.length n1.ccap,.slice n1.la n1.links.length n1.lcap,.slice n1.sa n1.shares.length n1.scap]) (cs':=[.bool n1.strict,vI n1.heap,vI n1.full,.slice n1.ca n1.comps.length n1.ccap,.slice n1.la n1.links.length n1.lcap,.slice n1.sa n1.shares.length n1.scap]) hs41 0 rfl rfl rfl sz26 rfl rfl rfl rfl rfl ?_)
 intro w43 hs44
 refine qa rfl (qf (v:=vI 1) rfl rfl ?_)
 refine ql (qb (qi (qc ?_)))
 refine qa rfl (zz (zs:=[]) (ps:=[]) (cs:=[]) hs44 un27 sz5 zv5 rfl rfl rfl rfl rfl ?_)
 intro b45 w46 hb48 hs47
 refine qa rfl (qj (v:=.slice a12 33 c13) rfl rfl ?_)
 have hs49:=hs47.ownBlk 0 rfl 1 0 rfl (by decide)
 refine qa rfl (k7 (n2:=33) (xs2:=oneB.flatMap encB) hs49 0 rfl rfl rfl un27 ni27 inf5 rfl (Src.arr (hs49.getR 8 rfl) (fun _=>rfl) (fun _=>rfl) (hqa12.2) (hqa12.1)) (rfl) (rfl) (by decide) (by decide) rfl ?_)
 intro a50 c51 w52 hs53
 refine qa rfl (qf (v:=.slice a50 33 c51) rfl rfl ?_)
 refine ql (qb (qi (qi (qc ?_))))
 refine qa rfl (qj (v:=.slice a50 33 c51) rfl rfl ?_)
 refine qa rfl (qx (len:=33) rfl un27 rfl ?_)
 refine qa rfl (qt (k:=.i64) (k':=.i64) (a:=33) (b:=33) (v:=.bool false) rfl rfl rfl (fun w=>(yd w).trans (by first|rfl|decide)) ?_)
 refine ql (qb ?_)
 refine W_cond_f rfl ?_
 refine zn (qb (qi (qc ?_)))
 refine qa rfl (qj (v:=.slice a50 33 c51) rfl rfl ?_)
 refine qa rfl (qs rfl (own_at (hs53.get 0 rfl) (by decide)) rfl un27 sz5 (by decide) (by decide) (o':=32) (by omega) rfl ?_)
 refine qa rfl (O_storeOwn (v:=.int .u8 9) (vs:=[.int .u8 9]) (xs':=badB.flatMap encB) hs53 0 rfl rfl rfl sz5 rfl rfl rfl (by decide) (by decide) (by rfl) ?_)
 intro w54 hs55
 refine ql (qb (qi (qc ?_)))
 refine qa rfl (qj (v:=.slice a50 33 c51) rfl rfl ?_)
 refine qa rfl (zi (args:=[.slice a50 33 c51]) rfl rfl rfl en12 (getI_c a50 c51 badB _ (jp (m:=1) (fun _=>rfl) (by decide) (hs55.get 0 rfl)) (by decide) (j5 (hs55.get 0 rfl)).1 (j5 (hs55.get 0 rfl)).2) ?_)
 rintro _ w56 ⟨⟨n2,e62,rfl,hp58,hn59,n2b,n2c,hx61⟩,hk60⟩
 rw [bad_get] at n2c hx61; obtain rfl : e62 = 151:=hx61
 have hs57:=hs55.addRf hk60 (kh n2) (fun i hi=>⟨hp58 i hi,hn59 i hi⟩)
 refine qa rfl (qj (v:=.tuple #[.agg #[.bool n2.strict,vI n2.heap,vI n2.full,.slice n2.ca n2.comps.length n2.ccap,.slice n2.la n2.links.length n2.lcap,.slice n2.sa n2.shares.length n2.scap],vI 151]) rfl rfl ?_)
 refine qa rfl (jh (v:=.agg #[.bool n2.strict,vI n2.heap,vI n2.full,.slice n2.ca n2.comps.length n2.ccap,.slice n2.la n2.links.length n2.lcap,.slice n2.sa n2.shares.length n2.scap]) rfl rfl rfl ?_)
 refine qa rfl (jh (v:=vI 151) rfl rfl rfl ?_)
 refine qa rfl (kk (cs:=[.bool false,vI 0,vI 0,.slice none 0 0,.slice none 0 0,.slice none 0 0]) hs57 zv26 rfl rfl ?_)
 intro b63 w64 hb66 hs65
 refine qa rfl (zx (v:=.agg #[.bool n2.strict,vI n2.heap,vI n2.full,.slice n2.ca n2.comps.length n2.ccap,.slice n2.la n2.links.length n2.lcap,.slice n2.sa n2.shares.length n2.scap]) (vs:=[.bool n2.strict,vI n2.heap,vI n2.full,.slice n2.ca n2.comps.length n2.ccap,.slice n2.la n2.links.length n2.lcap,.slice n2.sa n2.shares.length n2.scap]) (cs':=[.bool n2.strict,vI n2.heap,vI n2.full,.slice n2.ca n2.comps.length n2.ccap,.slice n2.la n2.links.length n2.lcap,.slice n2.sa n2.shares.length n2.scap]) hs65 0 rfl rfl rfl sz26 rfl rfl rfl rfl rfl ?_)
 intro w67 hs68
 refine qa rfl (qf (v:=vI 151) rfl rfl ?_)
 refine ql (qb (qi (qc ?_)))
 refine qa rfl (qw (vs:=(qn m)) rfl ag26 sz26 (Rd.of_blk (hs68.get 4 rfl) 0 6) rfl rfl ?_)
 refine qa rfl (zi (args:=[.agg (qn m).toArray]) rfl rfl rfl en22 (where_r m hright _ (fun i hi=>hs68.r i (List.mem_of_mem_drop (l:=[arrI zu 2 n2.ca n2.comps,arrI z1 3 n2.la n2.links,arrI zw 2 n2.sa n2.shares,ko n2.comps,arrI zu 2 n1.ca n1.comps,arrI z1 3 n1.la n1.links,arrI zw 2 n1.sa n1.shares,ko n1.comps,arrI zu 2 n0.ca n0.comps,arrI z1 3 n0.la n0.links,arrI zw 2 n0.sa n0.shares,ko n0.comps,arrI encB 1 a12 oneB,arrI zu 2 m.ca m.comps,arrI z1 3 m.la m.links,arrI zw 2 m.sa m.shares,ko m.comps]) (i:=13) hi)) hb) ?_)
 rintro _ w77 ⟨⟨a69,c70,a71,c72,a73,c74,a75,c76,rfl,hr79⟩,hk80⟩
 have hpg : z5 m + ((m.shares.length : Nat) : Int) = 11:=by have e1 : m.shares = [⟨3,1⟩]:=congrArg ImageV.shares hcan; rw [e1,← pgEnd_canon,hcan]; exact one_pages
 rw [hpg]
 have hs78:=hs68.keep hk80
 refine qa rfl (kk (cs:=[.slice none 0 0,.slice none 0 0,.slice none 0 0,.slice none 0 0,vI 0]) hs78 zv45 rfl rfl ?_)
 intro b81 w82 hb84 hs83
 refine qa rfl (zx (v:=.agg #[.slice a69 m.comps.length c70,.slice a71 m.comps.length c72,.slice a73 m.comps.length c74,.slice a75 m.shares.length c76,vI 11]) (vs:=[.slice a69 m.comps.length c70,.slice a71 m.comps.length c72,.slice a73 m.comps.length c74,.slice a75 m.shares.length c76,vI 11]) (cs':=[.slice a69 m.comps.length c70,.slice a71 m.comps.length c72,.slice a73 m.comps.length c74,.slice a75 m.shares.length c76,vI 11]) hs83 0 rfl rfl rfl sz45 rfl rfl rfl rfl rfl ?_)
 intro w85 hs86
 refine ql (qb (qi (qc ?_)))
 refine qa rfl (qw (vs:=(qn m)) rfl ag26 sz26 (Rd.of_blk (hs86.get 5 rfl) 0 6) rfl rfl ?_)
 refine qa rfl (zi (args:=[.agg (qn m).toArray,vI 1]) rfl rfl rfl en25 (C.own (grants_c m 1 _ (fun i hi=>hs86.r i (List.mem_of_mem_drop (l:=[arrI zu 2 n2.ca n2.comps,arrI z1 3 n2.la n2.links,arrI zw 2 n2.sa n2.shares,ko n2.comps,arrI zu 2 n1.ca n1.comps,arrI z1 3 n1.la n1.links,arrI zw 2 n1.sa n1.shares,ko n1.comps,arrI zu 2 n0.ca n0.comps,arrI z1 3 n0.la n0.links,arrI zw 2 n0.sa n0.shares,ko n0.comps,arrI encB 1 a12 oneB,arrI zu 2 m.ca m.comps,arrI z1 3 m.la m.links,arrI zw 2 m.sa m.shares,ko m.comps]) (i:=13) hi)) hb) ((grantsS_canon m 1).symm.trans ((congrArg (fun z=>zr z 1) hcan).trans one_grants))) ?_)
 rintro _ w89 ⟨⟨a87,c88,rfl,ha91,hn92⟩,hk93⟩
 have hqa87:=j5 ha91
 have hs90:=hs86.addRf hk93 [arrI z9 6 a87 oneG] (List.forall_mem_cons.2 ⟨⟨jp (m:=6) (fun _=>rfl) (by decide) ha91,fun b hb=>hn92 b hb.2⟩,fun _ h=>by cases h⟩)
 refine qa rfl (qf (v:=.slice a87 4 c88) rfl rfl ?_)
 refine ql (qb (qi (qc ?_)))
 refine qa rfl (qw (vs:=(qn m)) rfl ag26 sz26 (Rd.of_blk (hs90.get 5 rfl) 0 6) rfl rfl ?_)
 refine qa rfl (zi (args:=[.agg (qn m).toArray,vI 1]) rfl rfl rfl en19 (C.own (pairs_c m 1 _ (fun i hi=>hs90.r i (List.mem_of_mem_drop (l:=[arrI z9 6 a87 oneG,arrI zu 2 n2.ca n2.comps,arrI z1 3 n2.la n2.links,arrI zw 2 n2.sa n2.shares,ko n2.comps,arrI zu 2 n1.ca n1.comps,arrI z1 3 n1.la n1.links,arrI zw 2 n1.sa n1.shares,ko n1.comps,arrI zu 2 n0.ca n0.comps,arrI z1 3 n0.la n0.links,arrI zw 2 n0.sa n0.shares,ko n0.comps,arrI encB 1 a12 oneB,arrI zu 2 m.ca m.comps,arrI z1 3 m.la m.links,arrI zw 2 m.sa m.shares,ko m.comps]) (i:=14) hi)) hb) ((pairsS_canon m 1).symm.trans ((congrArg (fun z=>zc z 1) hcan).trans one_pairs))) ?_)
 rintro _ w96 ⟨⟨a94,c95,rfl,ha98,hn99⟩,hk100⟩
 have hqa94:=j5 ha98
 have hs97:=hs90.addRf hk100 [arrI jt 12 a94 oneP] (List.forall_mem_cons.2 ⟨⟨jp (m:=12) (encPair_len) (by decide) ha98,fun b hb=>hn99 b hb.2⟩,fun _ h=>by cases h⟩)
 refine qa rfl (qf (v:=.slice a94 1 c95) rfl rfl ?_)
 refine ql (qb (qi (qc ?_)))
 refine qa rfl (qw (vs:=(qn m)) rfl ag26 sz26 (Rd.of_blk (hs97.get 5 rfl) 0 6) rfl rfl ?_)
 refine qa rfl (qw (vs:=[.bool n0.strict,vI n0.heap,vI n0.full,.slice n0.ca n0.comps.length n0.ccap,.slice n0.la n0.links.length n0.lcap,.slice n0.sa n0.shares.length n0.scap]) rfl ag26 sz26 (Rd.of_blk (hs97.get 4 rfl) 0 6) rfl rfl ?_)
 refine qa rfl (zi (args:=[.agg (qn m).toArray,.agg #[.bool n0.strict,vI n0.heap,vI n0.full,.slice n0.ca n0.comps.length n0.ccap,.slice n0.la n0.links.length n0.lcap,.slice n0.sa n0.shares.length n0.scap]]) rfl rfl rfl en18 (same_c m n0 _ (List.forall_mem_append.2 ⟨(fun i hi=>hs97.r i (List.mem_of_mem_drop (l:=[arrI jt 12 a94 oneP,arrI z9 6 a87 oneG,arrI zu 2 n2.ca n2.comps,arrI z1 3 n2.la n2.links,arrI zw 2 n2.sa n2.shares,ko n2.comps,arrI zu 2 n1.ca n1.comps,arrI z1 3 n1.la n1.links,arrI zw 2 n1.sa n1.shares,ko n1.comps,arrI zu 2 n0.ca n0.comps,arrI z1 3 n0.la n0.links,arrI zw 2 n0.sa n0.shares,ko n0.comps,arrI encB 1 a12 oneB,arrI zu 2 m.ca m.comps,arrI z1 3 m.la m.links,arrI zw 2 m.sa m.shares,ko m.comps]) (i:=15) hi)),(fun i hi=>hs97.r i (List.mem_of_mem_drop (l:=[arrI jt 12 a94 oneP,arrI z9 6 a87 oneG,arrI zu 2 n2.ca n2.comps,arrI z1 3 n2.la n2.links,arrI zw 2 n2.sa n2.shares,ko n2.comps,arrI zu 2 n1.ca n1.comps,arrI z1 3 n1.la n1.links,arrI zw 2 n1.sa n1.shares,ko n1.comps,arrI zu 2 n0.ca n0.comps,arrI z1 3 n0.la n0.links,arrI zw 2 n0.sa n0.shares,ko n0.comps,arrI encB 1 a12 oneB,arrI zu 2 m.ca m.comps,arrI z1 3 m.la m.links,arrI zw 2 m.sa m.shares,ko m.comps]) (i:=10) (List.mem_append_left [arrI encB 1 a12 oneB,arrI zu 2 m.ca m.comps,arrI z1 3 m.la m.links,arrI zw 2 m.sa m.shares,ko m.comps] hi)))⟩) hb n0b) ?_)
 rintro _ w101 ⟨⟨b104,rfl,hb105⟩,hk103⟩
 obtain rfl : b104 = true:=hb105.2 (hcan.trans n0c.symm)
 have hs102:=hs97.keep hk103
 refine qa rfl (qj (v:=.bool true) rfl rfl ?_)
 refine zq rfl rfl (qj (v:=vI 0) rfl rfl ?_)
 refine zq rfl rfl (qt (k:=.i64) (k':=.i64) (a:=0) (b:=0) (v:=.bool true) rfl rfl rfl (fun w=>(k8 w).trans (by first|rfl|decide)) ?_)
 refine qa rfl (ka (v:=.bool true) rfl rfl rfl ?_)
 refine qa rfl (qj (v:=.bool true) rfl rfl ?_)
 refine zq rfl rfl (qj (v:=vI 1) rfl rfl ?_)
 refine zq rfl rfl (qt (k:=.i64) (k':=.i64) (a:=1) (b:=1) (v:=.bool true) rfl rfl rfl (fun w=>(k8 w).trans (by first|rfl|decide)) ?_)
 refine qa rfl (ka (v:=.bool true) rfl rfl rfl ?_)
 refine qa rfl (qj (v:=.bool true) rfl rfl ?_)
 refine zq rfl rfl (qj (v:=vI 151) rfl rfl ?_)
 refine zq rfl rfl (qt (k:=.i64) (k':=.i64) (a:=151) (b:=151) (v:=.bool true) rfl rfl rfl (fun w=>(k8 w).trans (by first|rfl|decide)) ?_)
 refine qa rfl (ka (v:=.bool true) rfl rfl rfl ?_)
 refine qa rfl (qj (v:=.bool true) rfl rfl ?_)
 refine zq rfl rfl (qg rfl fd45_4 rfl (o':=4) rfl rfl ?_)
 refine zq rfl rfl (qq (v:=vI 11) rfl ag3 (qh (hs102.get 0 rfl) rfl) rfl ?_)
 refine zq rfl rfl (qt (k:=.i64) (k':=.i64) (a:=11) (b:=11) (v:=.bool true) rfl rfl rfl (fun w=>(k8 w).trans (by first|rfl|decide)) ?_)
 refine qa rfl (ka (v:=.bool true) rfl rfl rfl ?_)
 refine qa rfl (qj (v:=.bool true) rfl rfl ?_)
 refine zq rfl rfl (qj (v:=.slice a87 4 c88) rfl rfl ?_)
 refine zq rfl rfl (qx (len:=4) rfl un48 rfl ?_)
 refine zq rfl rfl (qt (k:=.i64) (k':=.i64) (a:=4) (b:=4) (v:=.bool true) rfl rfl rfl (fun w=>(k8 w).trans (by first|rfl|decide)) ?_)
 refine qa rfl (ka (v:=.bool true) rfl rfl rfl ?_)
 refine qa rfl (qj (v:=.bool true) rfl rfl ?_)
 refine zq rfl rfl (qj (v:=.slice a87 4 c88) rfl rfl ?_)
 obtain ⟨b106,o107,ha108,hs109⟩:=hs102.elem 1 rfl 1 (by decide)
 refine zq rfl rfl (qs rfl ha108 rfl un48 sz39 (by omega) (by decide) (o':=o107 + 1 * 6) (by omega) rfl ?_)
 refine zq rfl rfl (qw (vs:=[.bool true,vI 1536,vI 2048,vI 1536,vI 27,vI 0]) rfl ag39 sz39 ((hs109.getR 0 rfl).2) rfl rfl ?_)
 refine zq rfl rfl (jl (ps:=[(0,[.bool true]),(1,[vI 1536]),(2,[vI 2048]),(3,[vI 1536]),(4,[vI 27])]) (cells:=[.bool true,vI 1536,vI 2048,vI 1536,vI 27,vI 0]) bt39 rfl rfl rfl ?_)
 refine zq rfl rfl (O_binv (a:=.agg #[.bool true,vI 1536,vI 2048,vI 1536,vI 27,vI 0]) (b:=.agg #[.bool true,vI 1536,vI 2048,vI 1536,vI 27,vI 0]) rfl rfl rfl (eg_agg eqg39) (b_eql_agg (d:=2) (EqV.to (b':=true) (EqV.struct Try.underlying39 stood39 (EF.cons (by decide) ag4 rfl rfl (EqV.bool un4) (EF.cons (by decide) ag3 rfl rfl (EqV.int un3) (EF.cons (by decide) ag3 rfl rfl (EqV.int un3) (EF.cons (by decide) ag3 rfl rfl (EqV.int un3) (EF.cons (by decide) ag3 rfl rfl (EqV.int un3) (EF.cons (by decide) ag3 rfl rfl (EqV.int un3) EF.nil))))))) (by decide)) rfl) ?_)
 refine qa rfl (ka (v:=.bool true) rfl rfl rfl ?_)
 refine qa rfl (qj (v:=.bool true) rfl rfl ?_)
 refine zq rfl rfl (qj (v:=.slice a87 4 c88) rfl rfl ?_)
 obtain ⟨b110,o111,ha112,hs113⟩:=hs109.elem 2 rfl 3 (by decide)
 refine zq rfl rfl (qs rfl ha112 rfl un48 sz39 (by omega) (by decide) (o':=o111 + 3 * 6) (by omega) rfl ?_)
 refine zq rfl rfl (qg rfl fd39_4 rfl (o':=o111 + 3 * 6 + 4) rfl rfl ?_)
 refine zq rfl rfl (qq (v:=vI 1) rfl ag3 ((hs113.getR 0 rfl).2 4 _ rfl) rfl ?_)
 refine zq rfl rfl (qt (k:=.i64) (k':=.i64) (a:=1) (b:=1) (v:=.bool true) rfl rfl rfl (fun w=>(k8 w).trans (by first|rfl|decide)) ?_)
 refine qa rfl (ka (v:=.bool true) rfl rfl rfl ?_)
 refine qa rfl (qj (v:=.bool true) rfl rfl ?_)
 refine zq rfl rfl (qj (v:=.slice a94 1 c95) rfl rfl ?_)
 refine zq rfl rfl (qx (len:=1) rfl un36 rfl ?_)
 refine zq rfl rfl (qt (k:=.i64) (k':=.i64) (a:=1) (b:=1) (v:=.bool true) rfl rfl rfl (fun w=>(k8 w).trans (by first|rfl|decide)) ?_)
 refine qa rfl (ka (v:=.bool true) rfl rfl rfl ?_)
 refine qa rfl (qj (v:=.bool true) rfl rfl ?_)
 refine zq rfl rfl (qj (v:=.slice a94 1 c95) rfl rfl ?_)
 obtain ⟨b114,o115,ha116,hs117⟩:=hs113.elem 2 rfl 0 (by decide)
 refine zq rfl rfl (qs rfl ha116 rfl un36 sz40 (by omega) (by decide) (o':=o115 + 0 * 12) (by omega) rfl ?_)
 refine zq rfl rfl (k6 rfl rfl un40 sz39 (by omega) (by omega) (o':=o115 + 0 * 12) (by omega) rfl ?_)
 refine zq rfl rfl (qw (vs:=[.bool true,vI 256,vI 264,vI 260,vI 5,vI 2]) rfl ag39 sz39 (Rd.part ((hs117.getR 0 rfl).2) 0 6) rfl rfl ?_)
 refine zq rfl rfl (jl (ps:=[(0,[.bool true]),(1,[vI 256]),(2,[vI 264]),(3,[vI 260]),(4,[vI 5]),(5,[vI 2])]) (cells:=[.bool true,vI 256,vI 264,vI 260,vI 5,vI 2]) bt39 rfl rfl rfl ?_)
 refine zq rfl rfl (O_binv (a:=.agg #[.bool true,vI 256,vI 264,vI 260,vI 5,vI 2]) (b:=.agg #[.bool true,vI 256,vI 264,vI 260,vI 5,vI 2]) rfl rfl rfl (eg_agg eqg39) (b_eql_agg (d:=2) (EqV.to (b':=true) (EqV.struct Try.underlying39 stood39 (EF.cons (by decide) ag4 rfl rfl (EqV.bool un4) (EF.cons (by decide) ag3 rfl rfl (EqV.int un3) (EF.cons (by decide) ag3 rfl rfl (EqV.int un3) (EF.cons (by decide) ag3 rfl rfl (EqV.int un3) (EF.cons (by decide) ag3 rfl rfl (EqV.int un3) (EF.cons (by decide) ag3 rfl rfl (EqV.int un3) EF.nil))))))) (by decide)) rfl) ?_)
 refine qa rfl (ka (v:=.bool true) rfl rfl rfl ?_)
 refine qa rfl (qj (v:=.bool true) rfl rfl ?_)
 refine zq rfl rfl (qj (v:=.slice a94 1 c95) rfl rfl ?_)
 refine zq rfl rfl (qs rfl ha116 rfl un36 sz40 (by omega) (by decide) (o':=o115 + 0 * 12) (by omega) rfl ?_)
 refine zq rfl rfl (k6 rfl rfl un40 sz39 (by omega) (by omega) (o':=o115 + 0 * 12 + 6) (by omega) rfl ?_)
 refine zq rfl rfl (qg rfl fd39_1 rfl (o':=o115 + 0 * 12 + 7) rfl rfl ?_)
 refine zq rfl rfl (qq (v:=vI 512) rfl ag3 ((hs117.getR 0 rfl).2 7 _ rfl) rfl ?_)
 refine zq rfl rfl (qt (k:=.i64) (k':=.i64) (a:=512) (b:=512) (v:=.bool true) rfl rfl rfl (fun w=>(k8 w).trans (by first|rfl|decide)) ?_)
 refine qa rfl (ka (v:=.bool true) rfl rfl rfl ?_)
 refine qa rfl (qj (v:=.bool true) rfl rfl ?_)
 refine zq rfl rfl (qw (vs:=(qn m)) rfl ag26 sz26 (Rd.of_blk (hs117.get 5 rfl) 0 6) rfl rfl ?_)
 refine zq rfl rfl (zi (args:=[.agg (qn m).toArray]) rfl rfl rfl en14 (C.vb (b:=z2 m) (iright_c m _ (fun i hi=>hs117.r i (List.mem_of_mem_drop (l:=[rdI b114 (o115 + 0 * 12) (jt (oneP[0])),rdI b110 (o111 + 3 * 6) (z9 (oneG[3])),rdI b106 (o107 + 1 * 6) (z9 (oneG[1])),arrI jt 12 a94 oneP,arrI z9 6 a87 oneG,arrI zu 2 n2.ca n2.comps,arrI z1 3 n2.la n2.links,arrI zw 2 n2.sa n2.shares,ko n2.comps,arrI zu 2 n1.ca n1.comps,arrI z1 3 n1.la n1.links,arrI zw 2 n1.sa n1.shares,ko n1.comps,arrI zu 2 n0.ca n0.comps,arrI z1 3 n0.la n0.links,arrI zw 2 n0.sa n0.shares,ko n0.comps,arrI encB 1 a12 oneB,arrI zu 2 m.ca m.comps,arrI z1 3 m.la m.links,arrI zw 2 m.sa m.shares,ko m.comps]) (i:=18) hi)) hb) hright) ?_)
 rintro _ w118 ⟨rfl,hk120⟩
 have hs119:=hs117.keep hk120
 refine qa rfl (ka (v:=.bool true) rfl rfl rfl ?_)
 refine qa rfl (qj (v:=.bool true) rfl rfl ?_)
 refine zq rfl rfl (jl (ps:=[]) (cells:=[.bool false,vI 0,vI 0,.slice none 0 0,.slice none 0 0,.slice none 0 0]) bt26 rfl rfl rfl ?_)
 refine zq rfl rfl (zi (args:=[.agg #[.bool false,vI 0,vI 0,.slice none 0 0,.slice none 0 0,.slice none 0 0]]) rfl rfl rfl en14 (C.vb (b:=z2 ya) (iright_c ya _ noImg_ok noImg_B) no_right) ?_)
 rintro _ w121 ⟨rfl,hk123⟩
 have hs122:=hs119.keep hk123
 refine zq rfl rfl (j0 (b:=false) rfl rfl ?_)
 refine qa rfl (ka (v:=.bool true) rfl rfl rfl ?_)
 refine qa rfl (qf (v:=.bool true) rfl rfl ?_)
 refine ql (qb (zo ?_))
 refine ⟨.bool true,res1 rfl,?_⟩
 exact ⟨rfl,hs122.base⟩

theorem en10 : ∀ args w,(callFunc 10 args).run Try.prog w = .ok (.enter 10 args) w:=fun args w=>qy Try.func10 (by kernel_rfl) rfl args w
theorem en11 : ∀ args w,(callFunc 11 args).run Try.prog w = .ok (.enter 11 args) w:=fun args w=>qy Try.func11 (by kernel_rfl) rfl args w

theorem imgB_of {m : ImageV} (h : ImgI m) (g : GreatOk m) : ImgB m:=⟨by have:=g.c; omega,g.l,g.s,h.cc,h.lc,h.sc,h.cn,h.ln,h.sn,fun c hc=>⟨g.code c hc,h.co c hc⟩⟩
theorem imgB_st {m : ImageV} {b : Bool} (h : ImgB m) : ImgB (withSt m b):=⟨h.cl,h.ll,h.sl,h.cc,h.lc,h.sc,h.cn,h.ln,h.sn,h.co⟩
theorem ask_step {code : List UInt8} {q q2 : Bool} {j : Nat} (h : 4 * j < code.length) (hq : q2 = (q || (List.range j).any fun t=>decide ((((code[4 * t]?).getD 0).toNat : Int) = 28))) :
  (q2 || decide (((code[4 * j]).toNat : Int) = 28)) = (q || (List.range (j + 1)).any fun t=>decide ((((code[4 * t]?).getD 0).toNat : Int) = 28)):=by
 rw [hq,List.range_succ,List.any_append,Bool.or_assoc,List.any_cons,List.any_nil,Bool.or_false,List.getElem?_eq_getElem h]; rfl
theorem ask_snoc {m : ImageV} {i j : Nat} {q q2 : Bool} (hi : i < m.comps.length) (hq : q = (m.comps.take i).any askC) (hq2 : q2 = (q || (List.range j).any fun t=>decide (((((m.comps[i]).code[4 * t]?).getD 0).toNat : Int) = 28))) (h1 : 4 * j ≤ (m.comps[i]).code.length) (h2 : (m.comps[i]).code.length < 4 * j + 4) :
  q2 = (m.comps.take (i + 1)).any askC:=by
 have e : j = (m.comps[i]).code.length / 4:=by omega
 rw [List.take_succ_eq_append_getElem hi,List.any_append,List.any_cons,List.any_nil,Bool.or_false,← hq,hq2]
 unfold askC
 rw [← e]
theorem strict_end {m : ImageV} {q : Bool} {i : Nat} (hq : q = (m.comps.take i).any askC) (hi : m.comps.length ≤ i) : z2 (withSt m true) = (z2 (withSt m false) && !q):=by
 rw [hq,List.take_of_length_le hi]; exact strict_law m
theorem put_right {m : ImageV} (h : 0 < (putS m).length) : z2 m = true:=by
 cases hr : z2 m
 ·rw [putS_no hr] at h; cases h
 ·rfl
theorem put_small {m : ImageV} (h : ImgB m) : (putS m).length ≤ 18000:=by
 cases hr : z2 m
 ·rw [putS_no hr]; exact Nat.zero_le _
 ·rw [putS_all hr]
  have hok:=jy hr
  have:=put4_len (m:=m) (c:=4096) (fun x hx=>(hok.comp x hx).lm) m.comps.length
  have:=hok.n4; have:=hok.l16; have:=hok.s4
  have:=Nat.mul_le_mul_right 4096 hok.n4
  show (put4 m m.comps.length).length ≤ _
  omega
theorem _root_.Go.Vg.St.arrTake {w0 w : World} {S : Nat → Prop} {M R : List Vg.Item} (h : St w0 S w M R) (k : Nat) {α : Type} {enc : α → List Value} {m : Nat} {a : Option Addr} {l : List α} (hk : R[k]? = some (arrI enc m a l)) (n : Nat) : St w0 S w M (arrI enc m a (l.take n) :: R):=by
 have h1:=h.arrSub k hk 0 n (n + 1) (.inr (by omega))
 rw [subA_zero,List.drop_zero] at h1
 exact h1

theorem getI_at (a : Option Addr) (cap n : Nat) (l : List UInt8) (hn : l.length = n) (w : World) (h : (arrI encB 1 a l).φ w) (hl : l.length ≤ 20000) (hcap : n ≤ cap) (hnil : a = none → cap = 0) :
  C Try.prog 12 [.slice a n cap] w fun v w'=>(∃ (m : ImageV) (e : Int),v = .tuple #[.agg (qn m).toArray,vI e] ∧ (∀ i ∈ kh m,i.φ w') ∧ (∀ i ∈ kh m,∀ b,i.fp b → w.heap.size ≤ b) ∧ ImgB m ∧ m.canon = (getI l).1 ∧ e = (getI l).2) ∧ Grow w w':=by
 subst hn; exact getI_c a cap l w h hl hcap hnil


theorem en27 : ∀ args w,(callFunc 27 args).run Try.prog w = .ok (.enter 27 args) w:=fun args w=>qy Try.func27 (by kernel_rfl) rfl args w
theorem en28 : ∀ args w,(callFunc 28 args).run Try.prog w = .ok (.enter 28 args) w:=fun args w=>qy Try.func28 (by kernel_rfl) rfl args w
theorem en20 : ∀ args w,(callFunc 20 args).run Try.prog w = .ok (.enter 20 args) w:=fun args w=>qy Try.func20 (by kernel_rfl) rfl args w
theorem ag40 : Ag Try.prog 40 true:=fun _=>by kernel_rfl
theorem eqg40 : Try.prog.eqGuardType Try.prog.depth 40 = false:=by kernel_rfl
theorem en21 : ∀ args w,(callFunc 21 args).run Try.prog w = .ok (.enter 21 args) w:=fun args w=>qy Try.func21 (by kernel_rfl) rfl args w
theorem en24 : ∀ args w,(callFunc 24 args).run Try.prog w = .ok (.enter 24 args) w:=fun args w=>qy Try.func24 (by kernel_rfl) rfl args w
def RgB (c : CapV) : Prop:=(0 ≤ c.base ∧ c.base ≤ 1000000) ∧ (0 ≤ c.top ∧ c.top ≤ 1000000) ∧ (0 ≤ c.pos ∧ c.pos ≤ 1000000)
theorem gr_at {m : ImageV} {k : Int} {n j : Nat} (h : j < (grTo m k n).length) : (j = 0 ∧ (grTo m k n)[j] = xk (qr m k.toNat) 5) ∨ (j = 1 ∧ (grTo m k n)[j] = xk (qv m k.toNat) 27) ∨ (j = 2 ∧ (grTo m k n)[j] = xk (16 + k,16 + k + 1) 96) ∨
  (3 ≤ j ∧ ∃ s p,s < n ∧ (p = 1 ∨ p = 3) ∧ (grTo m k n)[j] = xk (shAt m s,shAt m s + 256) p):=by
 match j,h with
|0,_=>exact .inl ⟨rfl,rfl⟩
|1,_=>exact .inr (.inl ⟨rfl,rfl⟩)
|2,_=>exact .inr (.inr (.inl ⟨rfl,rfl⟩))
|j + 3,h =>
  refine .inr (.inr (.inr ⟨by omega,?_⟩))
  have h' : j < ((List.range n).flatMap (grSh m k)).length:=by
   unfold grTo at h; simp only [List.length_append,List.length_cons,List.length_nil] at h; omega
  have e0 : grTo m k n = [xk (qr m k.toNat) 5,xk (qv m k.toNat) 27,xk (16 + k,16 + k + 1) 96] ++ (List.range n).flatMap (grSh m k):=rfl
  have e : (grTo m k n)[j + 3] = ((List.range n).flatMap (grSh m k))[j]:=by
   rw [List.getElem_of_eq e0 h,List.getElem_append_right (by simp)]; simp
  rw [e]
  obtain ⟨s,hs,hm⟩:=List.mem_flatMap.1 (List.getElem_mem h')
  unfold grSh at hm
  split at hm
  ·rw [List.mem_singleton] at hm
   refine ⟨s,j4 (shareAt m s) k,by simpa using hs,?_,hm⟩
   unfold j4; split <;> simp
  ·cases hm
structure OwnOk (c : CapV) : Prop where
 r : capR ⟨c.tag,c.base,c.top,c.pos,c.perms,c.ty⟩ = true
 t : c.tag = true
 y : c.ty = 0
 p : c.pos = c.base
theorem grant_ok {x : Int × Int} {p : Int} (h0 : 0 ≤ x.1) (h1 : x.1 ≤ x.2) (h2 : x.2 ≤ 1000000) (hp : 0 ≤ p ∧ p ≤ 127) : OwnOk (xk x p) ∧ RgB (xk x p):=by
 refine ⟨⟨?_,rfl,rfl,rfl⟩,⟨⟨h0,?_⟩,⟨?_,h2⟩,⟨h0,?_⟩⟩⟩
 ·show capR ⟨true,x.1,x.2,x.1,p,0⟩ = true
  unfold capR capA
  simp only [Bool.and_eq_true,Bool.not_eq_true',Bool.or_eq_false_iff,Bool.not_eq_false',decide_eq_true_eq,decide_eq_false_iff_not,Bool.not_true,Bool.false_or]
  omega
 ·show x.1 ≤ _; omega
 ·show 0 ≤ x.2; omega
 ·show x.1 ≤ _; omega
theorem code_r {m : ImageV} (h : RightOk m) {i : Nat} (hi : i < m.comps.length) : 256 ≤ (qr m i).1 ∧ (qr m i).1 < (qr m i).2 ∧ (qr m i).2 ≤ z5 m * 256 ∧ 256 ≤ (qv m i).1 ∧ (qv m i).1 < (qv m i).2 ∧ (qv m i).2 ≤ z5 m * 256:=by
 have h1:=code_ps h hi; have h2:=data_ps h hi
 have:=h1.a; have:=h1.b; have:=h1.c; have:=h2.a; have:=h2.b; have:=h2.c
 have hp:=pgAt_b h i (by omega); have:=end_ge h hi; have hc:=cmpOk h hi; have:=hc.g1; have:=hc.d1; have:=h.h1
 omega
theorem grants_ok {m : ImageV} (hr : z2 m = true) {i : Nat} (hi : i < m.comps.length) {c : CapV} (hc : c ∈ zr m (i : Int)) : OwnOk c ∧ RgB c:=by
 have h:=jy hr
 rw [x8 hr (by omega) (by omega)] at hc
 obtain ⟨j,hj,rfl⟩:=List.getElem_of_mem hc
 have hb:=code_r h hi
 have hp:=pgEnd_b h; have:=h.s4; have:=h.n4
 rcases gr_at hj with ⟨_,e⟩|⟨_,e⟩|⟨_,e⟩|⟨_,s,p,hs,hp,e⟩
 ·rw [e]; exact grant_ok (by rw [Int.toNat_natCast]; omega) (by rw [Int.toNat_natCast]; omega) (by rw [Int.toNat_natCast]; omega) (by decide)
 ·rw [e]; exact grant_ok (by rw [Int.toNat_natCast]; omega) (by rw [Int.toNat_natCast]; omega) (by rw [Int.toNat_natCast]; omega) (by decide)
 ·rw [e]; exact grant_ok (by show 0 ≤ 16 + (i : Int); omega) (by show 16 + (i : Int) ≤ 16 + (i : Int) + 1; omega) (by show 16 + (i : Int) + 1 ≤ _; omega) (by decide)
 ·rw [e]
  have : 0 ≤ shAt m s ∧ shAt m s + 256 ≤ 1000000:=by unfold shAt; omega
  exact grant_ok this.1 (by show shAt m s ≤ shAt m s + 256; omega) this.2 (by rcases hp with rfl|rfl <;> decide)
theorem own_3 {m : ImageV} (hr : z2 m = true) {i k : Nat} (hi : i < m.comps.length) (hk : k < m.comps.length) (hne : i ≠ k) {j l : Nat} (hj : j < (zr m (i : Int)).length) (hl : l < (zr m (k : Int)).length) :
  ¬ ((zr m (i : Int))[j]).base < ((zr m (k : Int))[l]).top ∨ (((zr m (i : Int))[j]).base < ((zr m (k : Int))[l]).top ∧ ¬ ((zr m (k : Int))[l]).base < ((zr m (i : Int))[j]).top) ∨
   (((zr m (i : Int))[j]).base < ((zr m (k : Int))[l]).top ∧ ((zr m (k : Int))[l]).base < ((zr m (i : Int))[j]).top ∧ 3 ≤ j ∧ 3 ≤ l):=by
 have h:=jy hr
 have e1:=x8 hr (k:=(i : Int)) (by omega) (by omega)
 have e2:=x8 hr (k:=(k : Int)) (by omega) (by omega)
 have hj' : j < (grTo m (i : Int) m.shares.length).length:=by rw [← e1]; exact hj
 have hl' : l < (grTo m (k : Int) m.shares.length).length:=by rw [← e2]; exact hl
 have g1 : (zr m (i : Int))[j] = (grTo m (i : Int) m.shares.length)[j]:=List.getElem_of_eq e1 hj
 have g2 : (zr m (k : Int))[l] = (grTo m (k : Int) m.shares.length)[l]:=List.getElem_of_eq e2 hl
 rw [g1,g2]
 have b1:=code_r h hi; have b2:=code_r h hk; have hp:=pgEnd_b h; have:=h.n4
 have hd : (pgAt m i + cpg (jd m i) + (jd m i).data + m.heap ≤ pgAt m k ∨ pgAt m k + cpg (jd m k) + (jd m k).data + m.heap ≤ pgAt m i):=by
  rcases Nat.lt_or_gt_of_ne hne with h1|h1
  ·exact .inl (pg_mono h h1 (by omega))
  ·exact .inr (pg_mono h h1 (by omega))
 have c1:=code_ps h hi; have c2:=code_ps h hk; have d1:=data_ps h hi; have d2:=data_ps h hk
 have:=c1.a; have:=c1.c; have:=c2.a; have:=c2.c; have:=d1.a; have:=d1.c; have:=d2.a; have:=d2.c
 have hc1:=cmpOk h hi; have hc2:=cmpOk h hk; have:=hc1.g1; have:=hc1.d1; have:=hc2.g1; have:=hc2.d1; have:=h.h1
 have sh : ∀ s,z5 m * 256 ≤ shAt m s:=fun s=>by unfold shAt; omega
 rcases gr_at hj' with ⟨_,e⟩|⟨_,e⟩|⟨_,e⟩|⟨hj3,s,p,hs,_,e⟩ <;> rcases gr_at hl' with ⟨_,f⟩|⟨_,f⟩|⟨_,f⟩|⟨hl3,s2,p2,hs2,_,f⟩ <;> rw [e,f] <;>
  simp only [xk,Int.toNat_natCast] <;> (try have:=sh s) <;> (try have:=sh s2) <;> omega
structure PairOk (x : CapV × CapV) : Prop where
 r1 : capR ⟨x.1.tag,x.1.base,x.1.top,x.1.pos,x.1.perms,x.1.ty⟩ = true
 r2 : capR ⟨x.2.tag,x.2.base,x.2.top,x.2.pos,x.2.perms,x.2.ty⟩ = true
 t2 : 2 ≤ x.1.ty
 t5 : x.1.ty ≤ 5
 te : x.2.ty = x.1.ty
 pm : x.2.perms < 32
 ci : capIn ⟨x.1.tag,x.1.base,x.1.top,x.1.pos,x.1.perms,x.1.ty⟩ x.1.pos 4 = true
 rg : RgB x.1
 tg : x.1.tag = true ∧ x.2.tag = true
theorem pairs_ok {m : ImageV} (hr : z2 m = true) {k : Int} {x : CapV × CapV} (hx : x ∈ zc m k) : PairOk x:=by
 have h:=jy hr
 unfold zc prTo at hx
 rw [if_pos hr] at hx
 obtain ⟨l,hl,hm⟩:=List.mem_flatMap.1 hx
 have hl:=List.mem_of_mem_take hl
 unfold prL at hm
 split at hm
 ·rw [List.mem_singleton] at hm
  subst hm
  have hk:=linkS_ok (h.link l hl)
  have hi : l.to.toNat < m.comps.length:=by omega
  have b:=code_r h hi; have hp:=pgEnd_b h; have:=h.n4
  have e:=codeLen_at (m:=m) (t:=l.to) (by omega) (by omega)
  have hlen : (qr m l.to.toNat).2 = (qr m l.to.toNat).1 + (((m.comps[l.to.toNat]).code.length : Nat) : Int):=by unfold qr; rw [compAt_get hi]
  have hc:=h.comp _ (List.getElem_mem hi)
  have:=hc.l0; have:=hc.lm
  have hq : 4 * l.ad + 4 ≤ (((m.comps[l.to.toNat]).code.length : Nat) : Int):=by omega
  refine ⟨?_,?_,?_,?_,rfl,by show (27 : Int) < 32; decide,?_,?_,rfl,rfl⟩
  ·show capR ⟨true,(qr m l.to.toNat).1,(qr m l.to.toNat).2,(qr m l.to.toNat).1 + 4 * l.ad,5,2 + l.to⟩ = true
   unfold capR capA
   simp only [Bool.and_eq_true,Bool.not_eq_true',Bool.or_eq_false_iff,Bool.not_eq_false',decide_eq_true_eq,decide_eq_false_iff_not,Bool.not_true,Bool.false_or]
   omega
  ·show capR ⟨true,(qv m l.to.toNat).1,(qv m l.to.toNat).2,(qv m l.to.toNat).1,27,2 + l.to⟩ = true
   unfold capR capA
   simp only [Bool.and_eq_true,Bool.not_eq_true',Bool.or_eq_false_iff,Bool.not_eq_false',decide_eq_true_eq,decide_eq_false_iff_not,Bool.not_true,Bool.false_or]
   omega
  ·show 2 ≤ 2 + l.to; omega
  ·show 2 + l.to ≤ 5; omega
  ·show capIn ⟨true,(qr m l.to.toNat).1,(qr m l.to.toNat).2,(qr m l.to.toNat).1 + 4 * l.ad,5,2 + l.to⟩ ((qr m l.to.toNat).1 + 4 * l.ad) 4 = true
   unfold capIn
   simp only [Bool.and_eq_true,decide_eq_true_eq]
   omega
  ·show (0 ≤ (qr m l.to.toNat).1 ∧ (qr m l.to.toNat).1 ≤ 1000000) ∧ (0 ≤ (qr m l.to.toNat).2 ∧ (qr m l.to.toNat).2 ≤ 1000000) ∧ (0 ≤ (qr m l.to.toNat).1 + 4 * l.ad ∧ (qr m l.to.toNat).1 + 4 * l.ad ≤ 1000000)
   omega
 ·cases hm
theorem own_Q {m : ImageV} (hr : z2 m = true) {k : Nat} (hk : k < m.comps.length) {y : CapV} (hy : y ∈ zr m (k : Int)) {t : Int} (ht : t ≤ 5) : (decide (32 ≤ y.perms) && capIn ⟨y.tag,y.base,y.top,y.pos,y.perms,y.ty⟩ t 1) = false:=by
 rw [x8 hr (by omega) (by omega)] at hy
 obtain ⟨j,hj,rfl⟩:=List.getElem_of_mem hy
 rcases gr_at hj with ⟨_,e⟩|⟨_,e⟩|⟨_,e⟩|⟨_,s,p,hs,hp,e⟩
 ·rw [e]; rfl
 ·rw [e]; rfl
 ·rw [e]
  have : capIn ⟨(xk (16 + (k : Int),16 + (k : Int) + 1) 96).tag,16 + (k : Int),16 + (k : Int) + 1,16 + (k : Int),96,0⟩ t 1 = false:=by
   unfold capIn
   simp only [Bool.and_eq_false_iff,decide_eq_false_iff_not]
   omega
  show (decide ((32 : Int) ≤ 96) && _) = false
  rw [Bool.and_eq_false_iff]; exact .inr this
 ·rw [e]; rcases hp with rfl|rfl <;> rfl
theorem own_split {c : CapV} (h : OwnOk c ∧ RgB c) : ∃ xb xt xp,c = ⟨true,xb,xt,xb,xp,0⟩ ∧ capR ⟨true,xb,xt,xb,xp,0⟩ = true ∧ ((0 ≤ xb ∧ xb ≤ 1000000) ∧ 0 ≤ xt ∧ xt ≤ 1000000):=by
 obtain ⟨⟨r,t,y,p⟩,g⟩:=h
 obtain ⟨t',b,tp,ps,pm,ty⟩:=c
 simp only at t y p
 subst t; subst y; subst p
 exact ⟨_,tp,pm,rfl,r,g.1,g.2.1⟩
theorem cap_split (c : CapV) : ∃ g b t a p y,c = ⟨g,b,t,a,p,y⟩:=⟨_,_,_,_,_,_,rfl⟩
theorem pair_split {x : CapV × CapV} (h : PairOk x) : ∃ xb xt xa xp xy zb zt za zp,x = (⟨true,xb,xt,xa,xp,xy⟩,⟨true,zb,zt,za,zp,xy⟩) ∧ capR ⟨true,xb,xt,xa,xp,xy⟩ = true ∧ capR ⟨true,zb,zt,za,zp,xy⟩ = true ∧ 2 ≤ xy ∧ xy ≤ 5 ∧ zp < 32 ∧ capIn ⟨true,xb,xt,xa,xp,xy⟩ xa 4 = true ∧
  ((0 ≤ xb ∧ xb ≤ 1000000) ∧ (0 ≤ xt ∧ xt ≤ 1000000) ∧ (0 ≤ xa ∧ xa ≤ 1000000)):=by
 obtain ⟨r1,r2,t2,t5,te,pm,ci,rg,tg⟩:=h
 obtain ⟨⟨g1,b1,tp1,a1,p1,y1⟩,⟨g2,b2,tp2,a2,p2,y2⟩⟩:=x
 simp only at te tg
 obtain ⟨rfl,rfl⟩:=tg
 subst te
 exact ⟨_,_,_,_,_,_,_,_,_,rfl,r1,r2,t2,t5,pm,ci,rg⟩

theorem grants_le (m : ImageV) (k : Int) : (zr m k).length ≤ 100000:=by
 unfold zr
 split
 ·rename_i h
  have:=(grTo_len m k m.shares.length).2; have:=(jy h.1).s4; omega
 ·exact Nat.zero_le _
theorem grants_max {m : ImageV} {k : Int} (_h : z2 m = true) : (zr m k).length ≤ 100000:=grants_le m k
theorem pairs_le (m : ImageV) (k : Int) (hb : ImgB m) : (zc m k).length ≤ 20000:=by
 unfold zc
 split
 ·have:=prTo_len m k m.links.length; have:=hb.ll; omega
 ·exact Nat.zero_le _
theorem pairs_max {m : ImageV} {k : Int} (h : z2 m = true) : (zc m k).length ≤ 100000:=by
 unfold zc
 rw [if_pos h]
 have:=prTo_len m k m.links.length; have:=(jy h).l16; omega
theorem where_le (m : ImageV) : (zg m).codes.length ≤ 100000 ∧ (zg m).datas.length ≤ 100000 ∧ (zg m).heaps.length ≤ 100000 ∧ (zg m).shs.length ≤ 100000:=by
 cases h : z2 m
 ·have he : zg m = ⟨[],[],[],[],0⟩:=by unfold zg; rw [h]; rfl
  rw [he]; exact ⟨Nat.zero_le _,Nat.zero_le _,Nat.zero_le _,Nat.zero_le _⟩
 ·rw [whereS_yes h]
  have:=(jy h).n4; have:=(jy h).s4
  simp only [codesTo_len,datasTo_len,heapsTo_len,shsTo_len]; omega

set_option maxHeartbeats 2000000 in
/-- seizin/seizinlaw17.ImageWhere -/
theorem iwhere_c (m : ImageV) (k : Int) (w : World) (hm : ∀ i ∈ kh m,i.φ w) (hI : ImgI m) :
  C Try.prog 4 [.agg (qn m).toArray,vI k] w fun v w'=>v = .bool true ∧ Grow w w':=by
 have hs0 : St w (fun _=>False) w [] (kh m):=St.start w _ hm
 refine z8 [.tmp 4] 56 Try.func4 rfl Try.ntmps4 rfl rfl ?_
 refine qi (qc ?_)
 refine qa rfl (jw (v:=.agg (qn m).toArray) (cs:=(qn m)) hs0 rfl rfl rfl ?_)
 intro b1 w2 hb4 hs3
 refine qa rfl (qf (v:=.bool false) rfl rfl ?_)
 refine ql (qb (qi (qc ?_)))
 refine qa rfl (zi (args:=[]) rfl rfl rfl en10 (head_c _) ?_)
 rintro _ w5 ⟨rfl,hk7⟩
 have hs6:=hs3.keep hk7
 refine qa rfl (qf (v:=.bool true) rfl rfl ?_)
 refine ql (qb (qi (qi (qc ?_))))
 refine qa rfl (qw (vs:=(qn m)) rfl ag26 sz26 (Rd.of_blk (hs6.get 0 rfl) 0 6) rfl rfl ?_)
 refine qa rfl (zi (args:=[.agg (qn m).toArray]) rfl rfl rfl en11 (great_c m _ (hs6.r) hI.cl hI.ll hI.sl) ?_)
 rintro _ w8 ⟨⟨bg,rfl,hg⟩,hk10⟩
 have hs9:=hs6.keep hk10
 refine ql (qb ?_)
 refine k5 (t:=bg) rfl (fun hc11=>?_) (fun hc11=>?_)
 ·refine qi (qc ?_)
  refine qa rfl (qj (v:=.bool true) rfl rfl ?_)
  refine qa rfl (qf (v:=.bool true) rfl rfl ?_)
  refine ql (qb (zo (q9 ?_)))
  refine ⟨.bool true,res1 rfl,?_⟩
  exact ⟨rfl,hs9.base⟩
 ·refine zn (qb (qi ?_))
  have hb:=imgB_of hI (hg hc11)
  have hpm:=pairs_le m k hb
  have hgm:=grants_le m k
  obtain ⟨hw1,hw2,hw3,hw4⟩:=where_le m
  refine qc ?_
  refine qa rfl (qw (vs:=(qn m)) rfl ag26 sz26 (Rd.of_blk (hs9.get 0 rfl) 0 6) rfl rfl ?_)
  refine qa rfl (qj (v:=vI k) rfl rfl ?_)
  refine qa rfl (zi (args:=[.agg (qn m).toArray,vI k]) rfl rfl rfl en19 (pairs_c m k _ (hs9.r) hb) ?_)
  rintro _ w14 ⟨⟨a12,c13,rfl,ha16,hn17⟩,hk18⟩
  have hqa12:=j5 ha16
  have hs15:=hs9.addRf hk18 [arrI jt 12 a12 (zc m k)] (List.forall_mem_cons.2 ⟨⟨jp (m:=12) (encPair_len) (by decide) ha16,fun b hb=>hn17 b hb.2⟩,fun _ h=>by cases h⟩)
  refine qa rfl (qf (v:=.slice a12 ((zc m k).length) c13) rfl rfl ?_)
  refine ql (qb (qi (qc ?_)))
  refine qa rfl (qw (vs:=(qn m)) rfl ag26 sz26 (Rd.of_blk (hs15.get 0 rfl) 0 6) rfl rfl ?_)
  refine qa rfl (qj (v:=vI k) rfl rfl ?_)
  refine qa rfl (zi (args:=[.agg (qn m).toArray,vI k]) rfl rfl rfl en20 (rpairs_c m k _ (hs15.popR.r) hb hI.wr) ?_)
  rintro _ w21 ⟨⟨a19,c20,rfl,ha23,hn24⟩,hk25⟩
  have hqa19:=j5 ha23
  have hs22:=hs15.addRf hk25 [arrI jt 12 a19 (zc m k)] (List.forall_mem_cons.2 ⟨⟨jp (m:=12) (encPair_len) (by decide) ha23,fun b hb=>hn24 b hb.2⟩,fun _ h=>by cases h⟩)
  refine qa rfl (qf (v:=.slice a19 ((zc m k).length) c20) rfl rfl ?_)
  refine ql (qb (qi (qi (qc ?_))))
  refine qa rfl (qj (v:=.slice a12 ((zc m k).length) c13) rfl rfl ?_)
  refine qa rfl (qx (len:=((zc m k).length)) rfl un36 rfl ?_)
  refine qa rfl (qj (v:=.slice a19 ((zc m k).length) c20) rfl rfl ?_)
  refine qa rfl (qx (len:=((zc m k).length)) rfl un36 rfl ?_)
  refine qa rfl (qt (k:=.i64) (k':=.i64) (a:=(((zc m k).length : Nat) : Int)) (b:=(((zc m k).length : Nat) : Int)) (v:=.bool false) rfl rfl rfl (fun w=>(yd w).trans (by rw [show decide ((((zc m k).length : Nat) : Int) ≠ (((zc m k).length : Nat) : Int)) = false from by simp])) ?_)
  refine ql (qb ?_)
  refine W_cond_f rfl ?_
  refine zn (qb (qi (qi (qc ?_))))
  refine qa rfl (qf (v:=vI 0) rfl rfl ?_)
  refine ql (qb (zy ?_))
  refine kw (fun m_ f_ w_=>∃ j : Nat,m_ = (zc m k).length - j ∧ (j ≤ (zc m k).length) ∧ f_ 1 = vI k ∧ f_ 2 = .pointer (some ⟨b1,0,none⟩) ∧ f_ 5 = .bool true ∧ f_ 6 = .slice a12 ((zc m k).length) c13 ∧ f_ 7 = .slice a19 ((zc m k).length) c20 ∧ f_ 8 = vI ((j : Nat) : Int) ∧ St w (fun _=>False) w_ [blk b1 (qn m) 26] [arrI jt 12 a19 (zc m k),arrI jt 12 a12 (zc m k),arrI zu 2 m.ca m.comps,arrI z1 3 m.la m.links,arrI zw 2 m.sa m.shares,ko m.comps]) ?_ ?_
  ·exact ⟨_,0,rfl,by omega,rfl,rfl,rfl,rfl,rfl,rfl,hs22⟩
  ·intro m29 f26 w27; rintro ⟨j,rfl,hj,e30,e31,e32,e33,e34,e35,hs28⟩
   rewrite [qm e30]
   rewrite [qm e31]
   rewrite [qm e32]
   rewrite [qm e33]
   rewrite [qm e34]
   rewrite [qm e35]
   refine qi (qi (qc ?_))
   refine qa rfl (qj (v:=vI ((j : Nat) : Int)) rfl rfl ?_)
   refine qa rfl (qj (v:=.slice a12 ((zc m k).length) c13) rfl rfl ?_)
   refine qa rfl (qx (len:=((zc m k).length)) rfl un36 rfl ?_)
   refine qa rfl (qt (k:=.i64) (k':=.i64) (a:=((j : Nat) : Int)) (b:=(((zc m k).length : Nat) : Int)) rfl rfl rfl jg ?_)
   refine ql (qb ?_)
   refine zd rfl (fun hc36=>?_) (fun hc36=>?_)
   ·refine zn (qb (qi (zy (qi ?_))))
    obtain ⟨b37,o38,ha39,hs40⟩:=hs28.elem 1 rfl j (by omega)
    obtain ⟨b41,o42,ha43,hs44⟩:=hs40.elem 1 rfl j (by omega)
    refine jc js (show St _ _ _ [blk b1 (qn m) 26] _ from hs44) (fun i_=>match i_ with|_=>none) (fun i_=>match i_ with|_=>[]) (fun i_=>match i_ with|_=>[]) (fun i_=>match i_ with|2=>[0,1]|3=>[2]|6=>[4,5]|7=>[6]|8=>[3,7]|_=>[]) [9,0,1,2,3,4,5,6,7,8,10,11,12,13,14,15,16,17,18] [8] (fun i_ v_=>match i_ with|0=>v_ = .slice a12 ((zc m k).length) c13|1=>v_ = vI ((j : Nat) : Int)|2=>v_ = .pointer (some ⟨b37,o38 + j * 12,none⟩)|3=>v_ = .agg #[.bool (((zc m k)[j]'(by omega)).1.tag),vI (((zc m k)[j]'(by omega)).1.base),vI (((zc m k)[j]'(by omega)).1.top),vI (((zc m k)[j]'(by omega)).1.pos),vI (((zc m k)[j]'(by omega)).1.perms),vI (((zc m k)[j]'(by omega)).1.ty),.bool (((zc m k)[j]'(by omega)).2.tag),vI (((zc m k)[j]'(by omega)).2.base),vI (((zc m k)[j]'(by omega)).2.top),vI (((zc m k)[j]'(by omega)).2.pos),vI (((zc m k)[j]'(by omega)).2.perms),vI (((zc m k)[j]'(by omega)).2.ty)]|4=>v_ = .slice a19 ((zc m k).length) c20|5=>v_ = vI ((j : Nat) : Int)|6=>v_ = .pointer (some ⟨b41,o42 + j * 12,none⟩)|7=>v_ = .agg #[.bool (((zc m k)[j]'(by omega)).1.tag),vI (((zc m k)[j]'(by omega)).1.base),vI (((zc m k)[j]'(by omega)).1.top),vI (((zc m k)[j]'(by omega)).1.pos),vI (((zc m k)[j]'(by omega)).1.perms),vI (((zc m k)[j]'(by omega)).1.ty),.bool (((zc m k)[j]'(by omega)).2.tag),vI (((zc m k)[j]'(by omega)).2.base),vI (((zc m k)[j]'(by omega)).2.top),vI (((zc m k)[j]'(by omega)).2.pos),vI (((zc m k)[j]'(by omega)).2.perms),vI (((zc m k)[j]'(by omega)).2.ty)]|8=>v_ = .bool false|_=>True) (by kernel_rfl) (by kernel_rfl) ⟨?_,?_,?_,?_,?_,?_,?_,?_,?_,trivial⟩ ?_
    ·intro f0_ w0_ X0_ qp qo qu qk
     have hb6 : f0_ 6 = .slice a12 ((zc m k).length) c13:=(qp 6 rfl)
     refine qe rfl (qj (v:=.slice a12 ((zc m k).length) c13) hb6 rfl ?_)
     exact ⟨.slice a12 ((zc m k).length) c13,rfl,rfl,qk⟩
    ·intro f1_ w1_ X1_ qp qo qu qk
     have hb8 : f1_ 8 = vI ((j : Nat) : Int):=(qp 8 rfl)
     refine qe rfl (qj (v:=vI ((j : Nat) : Int)) hb8 rfl ?_)
     exact ⟨vI ((j : Nat) : Int),rfl,rfl,qk⟩
    ·intro f2_ w2_ X2_ qp qo qu qk
     obtain ⟨hu0,hu1,-⟩:=qo
     have hu0 : f2_ 30 = .slice a12 ((zc m k).length) c13:=hu0
     have hu1 : f2_ 31 = vI ((j : Nat) : Int):=hu1
     refine qe rfl (qs hu0 ha39 hu1 un36 sz40 (by omega) (by omega) (o':=o38 + j * 12) (by omega) rfl ?_)
     exact ⟨.pointer (some ⟨b37,o38 + j * 12,none⟩),rfl,rfl,qk⟩
    ·intro f3_ w3_ X3_ qp qo qu qk
     obtain ⟨hu2,-⟩:=qo
     have hu2 : f3_ 32 = .pointer (some ⟨b37,o38 + j * 12,none⟩):=hu2
     refine qe rfl (qw (vs:=[.bool (((zc m k)[j]'(by omega)).1.tag),vI (((zc m k)[j]'(by omega)).1.base),vI (((zc m k)[j]'(by omega)).1.top),vI (((zc m k)[j]'(by omega)).1.pos),vI (((zc m k)[j]'(by omega)).1.perms),vI (((zc m k)[j]'(by omega)).1.ty),.bool (((zc m k)[j]'(by omega)).2.tag),vI (((zc m k)[j]'(by omega)).2.base),vI (((zc m k)[j]'(by omega)).2.top),vI (((zc m k)[j]'(by omega)).2.pos),vI (((zc m k)[j]'(by omega)).2.perms),vI (((zc m k)[j]'(by omega)).2.ty)]) hu2 ag40 sz40 ((qk.getR 1 rfl).2) rfl rfl ?_)
     exact ⟨.agg #[.bool (((zc m k)[j]'(by omega)).1.tag),vI (((zc m k)[j]'(by omega)).1.base),vI (((zc m k)[j]'(by omega)).1.top),vI (((zc m k)[j]'(by omega)).1.pos),vI (((zc m k)[j]'(by omega)).1.perms),vI (((zc m k)[j]'(by omega)).1.ty),.bool (((zc m k)[j]'(by omega)).2.tag),vI (((zc m k)[j]'(by omega)).2.base),vI (((zc m k)[j]'(by omega)).2.top),vI (((zc m k)[j]'(by omega)).2.pos),vI (((zc m k)[j]'(by omega)).2.perms),vI (((zc m k)[j]'(by omega)).2.ty)],rfl,rfl,qk⟩
    ·intro f4_ w4_ X4_ qp qo qu qk
     have hb7 : f4_ 7 = .slice a19 ((zc m k).length) c20:=(qp 7 rfl)
     refine qe rfl (qj (v:=.slice a19 ((zc m k).length) c20) hb7 rfl ?_)
     exact ⟨.slice a19 ((zc m k).length) c20,rfl,rfl,qk⟩
    ·intro f5_ w5_ X5_ qp qo qu qk
     have hb8 : f5_ 8 = vI ((j : Nat) : Int):=(qp 8 rfl)
     refine qe rfl (qj (v:=vI ((j : Nat) : Int)) hb8 rfl ?_)
     exact ⟨vI ((j : Nat) : Int),rfl,rfl,qk⟩
    ·intro f6_ w6_ X6_ qp qo qu qk
     obtain ⟨hu4,hu5,-⟩:=qo
     have hu4 : f6_ 34 = .slice a19 ((zc m k).length) c20:=hu4
     have hu5 : f6_ 35 = vI ((j : Nat) : Int):=hu5
     refine qe rfl (qs hu4 ha43 hu5 un36 sz40 (by omega) (by omega) (o':=o42 + j * 12) (by omega) rfl ?_)
     exact ⟨.pointer (some ⟨b41,o42 + j * 12,none⟩),rfl,rfl,qk⟩
    ·intro f7_ w7_ X7_ qp qo qu qk
     obtain ⟨hu6,-⟩:=qo
     have hu6 : f7_ 36 = .pointer (some ⟨b41,o42 + j * 12,none⟩):=hu6
     refine qe rfl (qw (vs:=[.bool (((zc m k)[j]'(by omega)).1.tag),vI (((zc m k)[j]'(by omega)).1.base),vI (((zc m k)[j]'(by omega)).1.top),vI (((zc m k)[j]'(by omega)).1.pos),vI (((zc m k)[j]'(by omega)).1.perms),vI (((zc m k)[j]'(by omega)).1.ty),.bool (((zc m k)[j]'(by omega)).2.tag),vI (((zc m k)[j]'(by omega)).2.base),vI (((zc m k)[j]'(by omega)).2.top),vI (((zc m k)[j]'(by omega)).2.pos),vI (((zc m k)[j]'(by omega)).2.perms),vI (((zc m k)[j]'(by omega)).2.ty)]) hu6 ag40 sz40 ((qk.getR 0 rfl).2) rfl rfl ?_)
     exact ⟨.agg #[.bool (((zc m k)[j]'(by omega)).1.tag),vI (((zc m k)[j]'(by omega)).1.base),vI (((zc m k)[j]'(by omega)).1.top),vI (((zc m k)[j]'(by omega)).1.pos),vI (((zc m k)[j]'(by omega)).1.perms),vI (((zc m k)[j]'(by omega)).1.ty),.bool (((zc m k)[j]'(by omega)).2.tag),vI (((zc m k)[j]'(by omega)).2.base),vI (((zc m k)[j]'(by omega)).2.top),vI (((zc m k)[j]'(by omega)).2.pos),vI (((zc m k)[j]'(by omega)).2.perms),vI (((zc m k)[j]'(by omega)).2.ty)],rfl,rfl,qk⟩
    ·intro f8_ w8_ X8_ qp qo qu qk
     obtain ⟨hu3,hu7,-⟩:=qo
     have hu3 : f8_ 33 = .agg #[.bool (((zc m k)[j]'(by omega)).1.tag),vI (((zc m k)[j]'(by omega)).1.base),vI (((zc m k)[j]'(by omega)).1.top),vI (((zc m k)[j]'(by omega)).1.pos),vI (((zc m k)[j]'(by omega)).1.perms),vI (((zc m k)[j]'(by omega)).1.ty),.bool (((zc m k)[j]'(by omega)).2.tag),vI (((zc m k)[j]'(by omega)).2.base),vI (((zc m k)[j]'(by omega)).2.top),vI (((zc m k)[j]'(by omega)).2.pos),vI (((zc m k)[j]'(by omega)).2.perms),vI (((zc m k)[j]'(by omega)).2.ty)]:=hu3
     have hu7 : f8_ 37 = .agg #[.bool (((zc m k)[j]'(by omega)).1.tag),vI (((zc m k)[j]'(by omega)).1.base),vI (((zc m k)[j]'(by omega)).1.top),vI (((zc m k)[j]'(by omega)).1.pos),vI (((zc m k)[j]'(by omega)).1.perms),vI (((zc m k)[j]'(by omega)).1.ty),.bool (((zc m k)[j]'(by omega)).2.tag),vI (((zc m k)[j]'(by omega)).2.base),vI (((zc m k)[j]'(by omega)).2.top),vI (((zc m k)[j]'(by omega)).2.pos),vI (((zc m k)[j]'(by omega)).2.perms),vI (((zc m k)[j]'(by omega)).2.ty)]:=hu7
     refine qe rfl (O_binv (a:=.agg #[.bool (((zc m k)[j]'(by omega)).1.tag),vI (((zc m k)[j]'(by omega)).1.base),vI (((zc m k)[j]'(by omega)).1.top),vI (((zc m k)[j]'(by omega)).1.pos),vI (((zc m k)[j]'(by omega)).1.perms),vI (((zc m k)[j]'(by omega)).1.ty),.bool (((zc m k)[j]'(by omega)).2.tag),vI (((zc m k)[j]'(by omega)).2.base),vI (((zc m k)[j]'(by omega)).2.top),vI (((zc m k)[j]'(by omega)).2.pos),vI (((zc m k)[j]'(by omega)).2.perms),vI (((zc m k)[j]'(by omega)).2.ty)]) (b:=.agg #[.bool (((zc m k)[j]'(by omega)).1.tag),vI (((zc m k)[j]'(by omega)).1.base),vI (((zc m k)[j]'(by omega)).1.top),vI (((zc m k)[j]'(by omega)).1.pos),vI (((zc m k)[j]'(by omega)).1.perms),vI (((zc m k)[j]'(by omega)).1.ty),.bool (((zc m k)[j]'(by omega)).2.tag),vI (((zc m k)[j]'(by omega)).2.base),vI (((zc m k)[j]'(by omega)).2.top),vI (((zc m k)[j]'(by omega)).2.pos),vI (((zc m k)[j]'(by omega)).2.perms),vI (((zc m k)[j]'(by omega)).2.ty)]) hu3 hu7 rfl (eg_agg eqg40) (b_neq_agg (d:=3) (EqV.to (b':=true) (EqV.arr un40 sz39 (EE.consA ag39 sz39 rfl rfl (EqV.struct Try.underlying39 stood39 (EF.cons (by decide) ag4 rfl rfl (EqV.bool un4) (EF.cons (by decide) ag3 rfl rfl (EqV.int un3) (EF.cons (by decide) ag3 rfl rfl (EqV.int un3) (EF.cons (by decide) ag3 rfl rfl (EqV.int un3) (EF.cons (by decide) ag3 rfl rfl (EqV.int un3) (EF.cons (by decide) ag3 rfl rfl (EqV.int un3) EF.nil))))))) (EE.consA ag39 sz39 rfl rfl (EqV.struct Try.underlying39 stood39 (EF.cons (by decide) ag4 rfl rfl (EqV.bool un4) (EF.cons (by decide) ag3 rfl rfl (EqV.int un3) (EF.cons (by decide) ag3 rfl rfl (EqV.int un3) (EF.cons (by decide) ag3 rfl rfl (EqV.int un3) (EF.cons (by decide) ag3 rfl rfl (EqV.int un3) (EF.cons (by decide) ag3 rfl rfl (EqV.int un3) EF.nil))))))) EE.nil))) (by simp)) rfl) ?_)
     exact ⟨.bool false,rfl,rfl,qk⟩
    intro f45 w46 qp qo hs47
    obtain ⟨hu8,-⟩:=qo
    have hu8 : f45 38 = .bool false:=hu8
    have hs47 : St _ _ _ [blk b1 (qn m) 26] _:=hs47
    have e48 : f45 1 = vI k:=(qp 1 rfl)
    rewrite [qm e48]
    have e49 : f45 2 = .pointer (some ⟨b1,0,none⟩):=(qp 2 rfl)
    rewrite [qm e49]
    have e50 : f45 5 = .bool true:=(qp 5 rfl)
    rewrite [qm e50]
    have e51 : f45 6 = .slice a12 ((zc m k).length) c13:=(qp 6 rfl)
    rewrite [qm e51]
    have e52 : f45 7 = .slice a19 ((zc m k).length) c20:=(qp 7 rfl)
    rewrite [qm e52]
    have e53 : f45 8 = vI ((j : Nat) : Int):=(qp 8 rfl)
    rewrite [qm e53]
    rewrite [qm hu8]
    refine qb ?_
    refine W_cond_f rfl ?_
    refine zn (z7 (qb (qc ?_)))
    refine qa rfl (qj (v:=vI ((j : Nat) : Int)) rfl rfl ?_)
    refine qa rfl (qt (v:=vI ((j + 1 : Nat) : Int)) rfl rfl rfl (ki (qz (by omega) (by omega))) ?_)
    refine qa rfl (qf (v:=vI ((j + 1 : Nat) : Int)) rfl rfl ?_)
    refine ql (qb ?_)
    refine ⟨_,?_,j + 1,rfl,by omega,rfl,rfl,rfl,rfl,rfl,rfl,hs47.popR.popR⟩
    omega
   ·refine ja (z0 (z0 (ke (qb (qi ?_)))))
    have hs54:=hs28.popR.popR
    refine jc js (show St _ _ _ [blk b1 (qn m) 26] _ from hs54) (fun i_=>match i_ with|3=>some ([42],fun vs_=>match vs_ with|[x42]=>allI (x2 ⟨(zf (z3 x42 0)),(vcap (z3 x42 0)),(zf (z3 x42 1)),(vcap (z3 x42 1)),(zf (z3 x42 2)),(vcap (z3 x42 2)),(zf (z3 x42 3)),(vcap (z3 x42 3))⟩ (zg m))|_=>emp)|5=>some ([44],fun vs_=>match vs_ with|[x44]=>allI (x2 ⟨(zf (z3 x44 0)),(vcap (z3 x44 0)),(zf (z3 x44 1)),(vcap (z3 x44 1)),(zf (z3 x44 2)),(vcap (z3 x44 2)),(zf (z3 x44 3)),(vcap (z3 x44 3))⟩ (zg m))|_=>emp)|11=>some ([50],fun vs_=>match vs_ with|[x50]=>ownI 39 6 (zf x50) (vcap x50) ((zr m k).length) ((zr m k).flatMap z9)|_=>emp)|14=>some ([53],fun vs_=>match vs_ with|[x53]=>ownI 39 6 (zf x53) (vcap x53) ((zr m k).length) ((zr m k).flatMap z9)|_=>emp)|_=>none) (fun i_=>match i_ with|_=>[]) (fun i_=>match i_ with|2=>[18]|4=>[18]|6=>[3,5]|9=>[18]|12=>[18]|15=>[11,14]|_=>[]) (fun i_=>match i_ with|1=>[0]|2=>[1]|3=>[1,2]|4=>[1]|5=>[1,4]|6=>[1,3,5]|7=>[1,6]|8=>[7]|9=>[8]|10=>[8]|11=>[8,9,10]|12=>[8]|13=>[8]|14=>[8,12,13]|15=>[8,11,14]|16=>[8,15]|17=>[16]|_=>[]) [14,11,5,3,18,0,1,2,4,6,7,8,9,10,12,13,15,16,17,19,20,21,22,23,24,25,26,27,28,29,30,31,32,33,34,35,36] [3,5,11,14,17] (fun i_ v_=>match i_ with|0=>v_ = .bool true|1=>v_ = .bool true|2=>v_ = .agg (qn m).toArray|3=>∃ a57 : Option Addr,∃ c58 : Nat,∃ a59 : Option Addr,∃ c60 : Nat,∃ a61 : Option Addr,∃ c62 : Nat,∃ a63 : Option Addr,∃ c64 : Nat,v_ = .agg #[.slice a57 ((zg m).codes.length) c58,.slice a59 ((zg m).datas.length) c60,.slice a61 ((zg m).heaps.length) c62,.slice a63 ((zg m).shs.length) c64,vI ((zg m).pages)]|4=>v_ = .agg (qn m).toArray|5=>∃ a73 : Option Addr,∃ c74 : Nat,∃ a75 : Option Addr,∃ c76 : Nat,∃ a77 : Option Addr,∃ c78 : Nat,∃ a79 : Option Addr,∃ c80 : Nat,v_ = .agg #[.slice a73 ((zg m).codes.length) c74,.slice a75 ((zg m).datas.length) c76,.slice a77 ((zg m).heaps.length) c78,.slice a79 ((zg m).shs.length) c80,vI ((zg m).pages)]|6=>v_ = .bool true|7=>v_ = .bool true|8=>v_ = .bool true|9=>v_ = .agg (qn m).toArray|10=>v_ = vI k|11=>∃ a94 : Option Addr,∃ c95 : Nat,v_ = .slice a94 ((zr m k).length) c95|12=>v_ = .agg (qn m).toArray|13=>v_ = vI k|14=>∃ a104 : Option Addr,∃ c105 : Nat,v_ = .slice a104 ((zr m k).length) c105|15=>v_ = .bool true|16=>v_ = .bool true|17=>v_ = .bool true|_=>True) (by kernel_rfl) (by kernel_rfl) ⟨?_,?_,?_,?_,?_,?_,?_,?_,?_,?_,?_,?_,?_,?_,?_,?_,?_,?_,trivial⟩ ?_
    ·intro f0_ w0_ X0_ qp qo qu qk
     have hb5 : f0_ 5 = .bool true:=(qp 5 rfl)
     refine qe rfl (qj (v:=.bool true) hb5 rfl ?_)
     exact ⟨.bool true,rfl,rfl,qk⟩
    ·intro f1_ w1_ X1_ qp qo qu qk
     obtain ⟨hu0,-⟩:=qo
     have hu0 : f1_ 39 = .bool true:=hu0
     refine qe rfl (qj (v:=.bool true) hu0 rfl ?_)
     exact ⟨.bool true,rfl,rfl,qk⟩
    ·intro f2_ w2_ X2_ qp qo qu qk
     obtain ⟨hu1,-⟩:=qo
     have hu1 : f2_ 40 = .bool true:=hu1
     have hb2 : f2_ 2 = .pointer (some ⟨b1,0,none⟩):=(qp 2 rfl)
     obtain ⟨hr18,-⟩:=qu
     have hr18 : Item.φ (blk b1 (qn m) 26) w2_:=hr18
     refine og_yes rfl hu1 (qw (vs:=(qn m)) hb2 ag26 sz26 (Rd.of_blk (hr18) 0 6) rfl rfl ?_)
     exact ⟨.agg (qn m).toArray,rfl,rfl,qk⟩
    ·intro f3_ w3_ X3_ qp qo qu qk
     obtain ⟨hu1,hu2,-⟩:=qo
     have hu1 : f3_ 40 = .bool true:=hu1
     have hu2 : f3_ 41 = .agg (qn m).toArray:=hu2
     refine og_yes rfl hu1 (zi (args:=[.agg (qn m).toArray]) rfl (by simp only [List.map_cons,List.map_nil,List.nil_append,List.cons_append,List.append_nil,ev,Value.cells,hu2]) rfl en22 (where_c m _ (qk.r) hb) ?_)
     rintro _ w65 ⟨⟨⟨a57,c58,a59,c60,a61,c62,a63,c64⟩,rfl,hl67,hn68,hB69⟩,hk70⟩
     have hs66:=qk.add hk70 (allI (x2 ⟨a57,c58,a59,c60,a61,c62,a63,c64⟩ (zg m))) hl67 (fun b ⟨i,hi,hb⟩=>hn68 i hi b hb)
     refine ⟨.agg #[.slice a57 ((zg m).codes.length) c58,.slice a59 ((zg m).datas.length) c60,.slice a61 ((zg m).heaps.length) c62,.slice a63 ((zg m).shs.length) c64,vI ((zg m).pages)],rfl,⟨_,_,_,_,_,_,_,_,rfl⟩,?_⟩
     show St _ _ _ ((allI (x2 ⟨(zf (z3 ((upd f3_ 42 (.agg #[.slice a57 ((zg m).codes.length) c58,.slice a59 ((zg m).datas.length) c60,.slice a61 ((zg m).heaps.length) c62,.slice a63 ((zg m).shs.length) c64,vI ((zg m).pages)])) 42) 0)),(vcap (z3 ((upd f3_ 42 (.agg #[.slice a57 ((zg m).codes.length) c58,.slice a59 ((zg m).datas.length) c60,.slice a61 ((zg m).heaps.length) c62,.slice a63 ((zg m).shs.length) c64,vI ((zg m).pages)])) 42) 0)),(zf (z3 ((upd f3_ 42 (.agg #[.slice a57 ((zg m).codes.length) c58,.slice a59 ((zg m).datas.length) c60,.slice a61 ((zg m).heaps.length) c62,.slice a63 ((zg m).shs.length) c64,vI ((zg m).pages)])) 42) 1)),(vcap (z3 ((upd f3_ 42 (.agg #[.slice a57 ((zg m).codes.length) c58,.slice a59 ((zg m).datas.length) c60,.slice a61 ((zg m).heaps.length) c62,.slice a63 ((zg m).shs.length) c64,vI ((zg m).pages)])) 42) 1)),(zf (z3 ((upd f3_ 42 (.agg #[.slice a57 ((zg m).codes.length) c58,.slice a59 ((zg m).datas.length) c60,.slice a61 ((zg m).heaps.length) c62,.slice a63 ((zg m).shs.length) c64,vI ((zg m).pages)])) 42) 2)),(vcap (z3 ((upd f3_ 42 (.agg #[.slice a57 ((zg m).codes.length) c58,.slice a59 ((zg m).datas.length) c60,.slice a61 ((zg m).heaps.length) c62,.slice a63 ((zg m).shs.length) c64,vI ((zg m).pages)])) 42) 2)),(zf (z3 ((upd f3_ 42 (.agg #[.slice a57 ((zg m).codes.length) c58,.slice a59 ((zg m).datas.length) c60,.slice a61 ((zg m).heaps.length) c62,.slice a63 ((zg m).shs.length) c64,vI ((zg m).pages)])) 42) 3)),(vcap (z3 ((upd f3_ 42 (.agg #[.slice a57 ((zg m).codes.length) c58,.slice a59 ((zg m).datas.length) c60,.slice a61 ((zg m).heaps.length) c62,.slice a63 ((zg m).shs.length) c64,vI ((zg m).pages)])) 42) 3))⟩ (zg m))) :: X3_) _
     exact hs66
    ·intro f4_ w4_ X4_ qp qo qu qk
     obtain ⟨hu1,-⟩:=qo
     have hu1 : f4_ 40 = .bool true:=hu1
     have hb2 : f4_ 2 = .pointer (some ⟨b1,0,none⟩):=(qp 2 rfl)
     obtain ⟨hr18,-⟩:=qu
     have hr18 : Item.φ (blk b1 (qn m) 26) w4_:=hr18
     refine og_yes rfl hu1 (qw (vs:=(qn m)) hb2 ag26 sz26 (Rd.of_blk (hr18) 0 6) rfl rfl ?_)
     exact ⟨.agg (qn m).toArray,rfl,rfl,qk⟩
    ·intro f5_ w5_ X5_ qp qo qu qk
     obtain ⟨hu1,hu4,-⟩:=qo
     have hu1 : f5_ 40 = .bool true:=hu1
     have hu4 : f5_ 43 = .agg (qn m).toArray:=hu4
     refine og_yes rfl hu1 (zi (args:=[.agg (qn m).toArray]) rfl (by simp only [List.map_cons,List.map_nil,List.nil_append,List.cons_append,List.append_nil,ev,Value.cells,hu4]) rfl en23 (rwhere_c m _ (qk.r) hb hI.wr) ?_)
     rintro _ w81 ⟨⟨⟨a73,c74,a75,c76,a77,c78,a79,c80⟩,rfl,hl83,hn84,hB85⟩,hk86⟩
     have hs82:=qk.add hk86 (allI (x2 ⟨a73,c74,a75,c76,a77,c78,a79,c80⟩ (zg m))) hl83 (fun b ⟨i,hi,hb⟩=>hn84 i hi b hb)
     refine ⟨.agg #[.slice a73 ((zg m).codes.length) c74,.slice a75 ((zg m).datas.length) c76,.slice a77 ((zg m).heaps.length) c78,.slice a79 ((zg m).shs.length) c80,vI ((zg m).pages)],rfl,⟨_,_,_,_,_,_,_,_,rfl⟩,?_⟩
     show St _ _ _ ((allI (x2 ⟨(zf (z3 ((upd f5_ 44 (.agg #[.slice a73 ((zg m).codes.length) c74,.slice a75 ((zg m).datas.length) c76,.slice a77 ((zg m).heaps.length) c78,.slice a79 ((zg m).shs.length) c80,vI ((zg m).pages)])) 44) 0)),(vcap (z3 ((upd f5_ 44 (.agg #[.slice a73 ((zg m).codes.length) c74,.slice a75 ((zg m).datas.length) c76,.slice a77 ((zg m).heaps.length) c78,.slice a79 ((zg m).shs.length) c80,vI ((zg m).pages)])) 44) 0)),(zf (z3 ((upd f5_ 44 (.agg #[.slice a73 ((zg m).codes.length) c74,.slice a75 ((zg m).datas.length) c76,.slice a77 ((zg m).heaps.length) c78,.slice a79 ((zg m).shs.length) c80,vI ((zg m).pages)])) 44) 1)),(vcap (z3 ((upd f5_ 44 (.agg #[.slice a73 ((zg m).codes.length) c74,.slice a75 ((zg m).datas.length) c76,.slice a77 ((zg m).heaps.length) c78,.slice a79 ((zg m).shs.length) c80,vI ((zg m).pages)])) 44) 1)),(zf (z3 ((upd f5_ 44 (.agg #[.slice a73 ((zg m).codes.length) c74,.slice a75 ((zg m).datas.length) c76,.slice a77 ((zg m).heaps.length) c78,.slice a79 ((zg m).shs.length) c80,vI ((zg m).pages)])) 44) 2)),(vcap (z3 ((upd f5_ 44 (.agg #[.slice a73 ((zg m).codes.length) c74,.slice a75 ((zg m).datas.length) c76,.slice a77 ((zg m).heaps.length) c78,.slice a79 ((zg m).shs.length) c80,vI ((zg m).pages)])) 44) 2)),(zf (z3 ((upd f5_ 44 (.agg #[.slice a73 ((zg m).codes.length) c74,.slice a75 ((zg m).datas.length) c76,.slice a77 ((zg m).heaps.length) c78,.slice a79 ((zg m).shs.length) c80,vI ((zg m).pages)])) 44) 3)),(vcap (z3 ((upd f5_ 44 (.agg #[.slice a73 ((zg m).codes.length) c74,.slice a75 ((zg m).datas.length) c76,.slice a77 ((zg m).heaps.length) c78,.slice a79 ((zg m).shs.length) c80,vI ((zg m).pages)])) 44) 3))⟩ (zg m))) :: X5_) _
     exact hs82
    ·intro f6_ w6_ X6_ qp qo qu qk
     obtain ⟨hu1,hu3,hu5,-⟩:=qo
     have hu1 : f6_ 40 = .bool true:=hu1
     obtain ⟨a57,c58,a59,c60,a61,c62,a63,c64,hu3⟩:=(show ∃ a57 : Option Addr,∃ c58 : Nat,∃ a59 : Option Addr,∃ c60 : Nat,∃ a61 : Option Addr,∃ c62 : Nat,∃ a63 : Option Addr,∃ c64 : Nat,f6_ 42 = .agg #[.slice a57 ((zg m).codes.length) c58,.slice a59 ((zg m).datas.length) c60,.slice a61 ((zg m).heaps.length) c62,.slice a63 ((zg m).shs.length) c64,vI ((zg m).pages)] from hu3)
     obtain ⟨a73,c74,a75,c76,a77,c78,a79,c80,hu5⟩:=(show ∃ a73 : Option Addr,∃ c74 : Nat,∃ a75 : Option Addr,∃ c76 : Nat,∃ a77 : Option Addr,∃ c78 : Nat,∃ a79 : Option Addr,∃ c80 : Nat,f6_ 44 = .agg #[.slice a73 ((zg m).codes.length) c74,.slice a75 ((zg m).datas.length) c76,.slice a77 ((zg m).heaps.length) c78,.slice a79 ((zg m).shs.length) c80,vI ((zg m).pages)] from hu5)
     obtain ⟨hr3,hr5,-⟩:=qu
     have hr3 : Item.φ (allI (x2 ⟨(zf (z3 (f6_ 42) 0)),(vcap (z3 (f6_ 42) 0)),(zf (z3 (f6_ 42) 1)),(vcap (z3 (f6_ 42) 1)),(zf (z3 (f6_ 42) 2)),(vcap (z3 (f6_ 42) 2)),(zf (z3 (f6_ 42) 3)),(vcap (z3 (f6_ 42) 3))⟩ (zg m))) w6_:=hr3
     rw [hu3] at hr3; simp only [vblk,zf,vcap,z3] at hr3
     have hr5 : Item.φ (allI (x2 ⟨(zf (z3 (f6_ 44) 0)),(vcap (z3 (f6_ 44) 0)),(zf (z3 (f6_ 44) 1)),(vcap (z3 (f6_ 44) 1)),(zf (z3 (f6_ 44) 2)),(vcap (z3 (f6_ 44) 2)),(zf (z3 (f6_ 44) 3)),(vcap (z3 (f6_ 44) 3))⟩ (zg m))) w6_:=hr5
     rw [hu5] at hr5; simp only [vblk,zf,vcap,z3] at hr5
     refine og_yes rfl hu1 (zi (args:=[.agg #[.slice a57 ((zg m).codes.length) c58,.slice a59 ((zg m).datas.length) c60,.slice a61 ((zg m).heaps.length) c62,.slice a63 ((zg m).shs.length) c64,vI ((zg m).pages)],.agg #[.slice a73 ((zg m).codes.length) c74,.slice a75 ((zg m).datas.length) c76,.slice a77 ((zg m).heaps.length) c78,.slice a79 ((zg m).shs.length) c80,vI ((zg m).pages)]]) rfl (by simp only [List.map_cons,List.map_nil,List.nil_append,List.cons_append,List.append_nil,ev,Value.cells,hu3,hu5]) rfl en21 (C.vb (b':=true) (sameW_c ⟨a57,c58,a59,c60,a61,c62,a63,c64⟩ (zg m) ⟨a73,c74,a75,c76,a77,c78,a79,c80⟩ (zg m) _ (List.forall_mem_append.2 ⟨hr3,hr5⟩) hw1 hw2 hw3 hw4) (by simp)) ?_)
     rintro _ w88 ⟨rfl,hk90⟩
     have hs89:=qk.keep hk90
     exact ⟨.bool true,rfl,rfl,hs89⟩
    ·intro f7_ w7_ X7_ qp qo qu qk
     obtain ⟨hu1,hu6,-⟩:=qo
     have hu1 : f7_ 40 = .bool true:=hu1
     have hu6 : f7_ 45 = .bool true:=hu6
     refine qe rfl (ka (v:=.bool true) hu1 (Eq.trans (if_pos rfl) hu6) rfl ?_)
     exact ⟨.bool true,rfl,rfl,qk⟩
    ·intro f8_ w8_ X8_ qp qo qu qk
     obtain ⟨hu7,-⟩:=qo
     have hu7 : f8_ 46 = .bool true:=hu7
     refine qe rfl (qj (v:=.bool true) hu7 rfl ?_)
     exact ⟨.bool true,rfl,rfl,qk⟩
    ·intro f9_ w9_ X9_ qp qo qu qk
     obtain ⟨hu8,-⟩:=qo
     have hu8 : f9_ 47 = .bool true:=hu8
     have hb2 : f9_ 2 = .pointer (some ⟨b1,0,none⟩):=(qp 2 rfl)
     obtain ⟨hr18,-⟩:=qu
     have hr18 : Item.φ (blk b1 (qn m) 26) w9_:=hr18
     refine og_yes rfl hu8 (qw (vs:=(qn m)) hb2 ag26 sz26 (Rd.of_blk (hr18) 0 6) rfl rfl ?_)
     exact ⟨.agg (qn m).toArray,rfl,rfl,qk⟩
    ·intro f10_ w10_ X10_ qp qo qu qk
     obtain ⟨hu8,-⟩:=qo
     have hu8 : f10_ 47 = .bool true:=hu8
     have hb1 : f10_ 1 = vI k:=(qp 1 rfl)
     refine og_yes rfl hu8 (qj (v:=vI k) hb1 rfl ?_)
     exact ⟨vI k,rfl,rfl,qk⟩
    ·intro f11_ w11_ X11_ qp qo qu qk
     obtain ⟨hu8,hu9,hu10,-⟩:=qo
     have hu8 : f11_ 47 = .bool true:=hu8
     have hu9 : f11_ 48 = .agg (qn m).toArray:=hu9
     have hu10 : f11_ 49 = vI k:=hu10
     refine og_yes rfl hu8 (zi (args:=[.agg (qn m).toArray,vI k]) rfl (by simp only [List.map_cons,List.map_nil,List.nil_append,List.cons_append,List.append_nil,ev,Value.cells,hu9,hu10]) rfl en25 (grants_c m k _ (qk.r) hb) ?_)
     rintro _ w96 ⟨⟨a94,c95,rfl,ha98,hn99⟩,hk100⟩
     have hs97:=qk.add hk100 (ownI 39 6 a94 c95 ((zr m k).length) ((zr m k).flatMap z9)) ha98 hn99
     refine ⟨.slice a94 ((zr m k).length) c95,rfl,⟨_,_,rfl⟩,?_⟩
     show St _ _ _ ((ownI 39 6 (zf ((upd f11_ 50 (.slice a94 ((zr m k).length) c95)) 50)) (vcap ((upd f11_ 50 (.slice a94 ((zr m k).length) c95)) 50)) ((zr m k).length) ((zr m k).flatMap z9)) :: X11_) _
     exact hs97
    ·intro f12_ w12_ X12_ qp qo qu qk
     obtain ⟨hu8,-⟩:=qo
     have hu8 : f12_ 47 = .bool true:=hu8
     have hb2 : f12_ 2 = .pointer (some ⟨b1,0,none⟩):=(qp 2 rfl)
     obtain ⟨hr18,-⟩:=qu
     have hr18 : Item.φ (blk b1 (qn m) 26) w12_:=hr18
     refine og_yes rfl hu8 (qw (vs:=(qn m)) hb2 ag26 sz26 (Rd.of_blk (hr18) 0 6) rfl rfl ?_)
     exact ⟨.agg (qn m).toArray,rfl,rfl,qk⟩
    ·intro f13_ w13_ X13_ qp qo qu qk
     obtain ⟨hu8,-⟩:=qo
     have hu8 : f13_ 47 = .bool true:=hu8
     have hb1 : f13_ 1 = vI k:=(qp 1 rfl)
     refine og_yes rfl hu8 (qj (v:=vI k) hb1 rfl ?_)
     exact ⟨vI k,rfl,rfl,qk⟩
    ·intro f14_ w14_ X14_ qp qo qu qk
     obtain ⟨hu8,hu12,hu13,-⟩:=qo
     have hu8 : f14_ 47 = .bool true:=hu8
     have hu12 : f14_ 51 = .agg (qn m).toArray:=hu12
     have hu13 : f14_ 52 = vI k:=hu13
     refine og_yes rfl hu8 (zi (args:=[.agg (qn m).toArray,vI k]) rfl (by simp only [List.map_cons,List.map_nil,List.nil_append,List.cons_append,List.append_nil,ev,Value.cells,hu12,hu13]) rfl en26 (rgrants_c m k _ (qk.r) hb hI.wr) ?_)
     rintro _ w106 ⟨⟨a104,c105,rfl,ha108,hn109⟩,hk110⟩
     have hs107:=qk.add hk110 (ownI 39 6 a104 c105 ((zr m k).length) ((zr m k).flatMap z9)) ha108 hn109
     refine ⟨.slice a104 ((zr m k).length) c105,rfl,⟨_,_,rfl⟩,?_⟩
     show St _ _ _ ((ownI 39 6 (zf ((upd f14_ 53 (.slice a104 ((zr m k).length) c105)) 53)) (vcap ((upd f14_ 53 (.slice a104 ((zr m k).length) c105)) 53)) ((zr m k).length) ((zr m k).flatMap z9)) :: X14_) _
     exact hs107
    ·intro f15_ w15_ X15_ qp qo qu qk
     obtain ⟨hu8,hu11,hu14,-⟩:=qo
     have hu8 : f15_ 47 = .bool true:=hu8
     obtain ⟨a94,c95,hu11⟩:=(show ∃ a94 : Option Addr,∃ c95 : Nat,f15_ 50 = .slice a94 ((zr m k).length) c95 from hu11)
     obtain ⟨a104,c105,hu14⟩:=(show ∃ a104 : Option Addr,∃ c105 : Nat,f15_ 53 = .slice a104 ((zr m k).length) c105 from hu14)
     obtain ⟨hr11,hr14,-⟩:=qu
     have hr11 : Item.φ (ownI 39 6 (zf (f15_ 50)) (vcap (f15_ 50)) ((zr m k).length) ((zr m k).flatMap z9)) w15_:=hr11
     rw [hu11] at hr11; simp only [vblk,zf,vcap,z3] at hr11
     have hr14 : Item.φ (ownI 39 6 (zf (f15_ 53)) (vcap (f15_ 53)) ((zr m k).length) ((zr m k).flatMap z9)) w15_:=hr14
     rw [hu14] at hr14; simp only [vblk,zf,vcap,z3] at hr14
     refine og_yes rfl hu8 (zi (args:=[.slice a94 ((zr m k).length) c95,.slice a104 ((zr m k).length) c105]) rfl (by simp only [List.map_cons,List.map_nil,List.nil_append,List.cons_append,List.append_nil,ev,Value.cells,hu11,hu14]) rfl en24 (C.vb (b':=true) (caps_c a94 a104 c95 c105 (zr m k) (zr m k) _ (jp (m:=6) (fun _=>rfl) (by decide) (hr11)) (jp (m:=6) (fun _=>rfl) (by decide) (hr14)) hgm) (by simp)) ?_)
     rintro _ w112 ⟨rfl,hk114⟩
     have hs113:=qk.keep hk114
     exact ⟨.bool true,rfl,rfl,hs113⟩
    ·intro f16_ w16_ X16_ qp qo qu qk
     obtain ⟨hu8,hu15,-⟩:=qo
     have hu8 : f16_ 47 = .bool true:=hu8
     have hu15 : f16_ 54 = .bool true:=hu15
     refine qe rfl (ka (v:=.bool true) hu8 (Eq.trans (if_pos rfl) hu15) rfl ?_)
     exact ⟨.bool true,rfl,rfl,qk⟩
    ·intro f17_ w17_ X17_ qp qo qu qk
     obtain ⟨hu16,-⟩:=qo
     have hu16 : f17_ 55 = .bool true:=hu16
     refine qe rfl (qf (v:=.bool true) hu16 rfl ?_)
     exact ⟨.bool true,rfl,rfl,qk⟩
    intro f115 w116 qp qo hs117
    obtain ⟨hu3,hu5,hu11,hu14,hu17,-⟩:=qo
    obtain ⟨a57,c58,a59,c60,a61,c62,a63,c64,hu3⟩:=(show ∃ a57 : Option Addr,∃ c58 : Nat,∃ a59 : Option Addr,∃ c60 : Nat,∃ a61 : Option Addr,∃ c62 : Nat,∃ a63 : Option Addr,∃ c64 : Nat,f115 42 = .agg #[.slice a57 ((zg m).codes.length) c58,.slice a59 ((zg m).datas.length) c60,.slice a61 ((zg m).heaps.length) c62,.slice a63 ((zg m).shs.length) c64,vI ((zg m).pages)] from hu3)
    obtain ⟨a73,c74,a75,c76,a77,c78,a79,c80,hu5⟩:=(show ∃ a73 : Option Addr,∃ c74 : Nat,∃ a75 : Option Addr,∃ c76 : Nat,∃ a77 : Option Addr,∃ c78 : Nat,∃ a79 : Option Addr,∃ c80 : Nat,f115 44 = .agg #[.slice a73 ((zg m).codes.length) c74,.slice a75 ((zg m).datas.length) c76,.slice a77 ((zg m).heaps.length) c78,.slice a79 ((zg m).shs.length) c80,vI ((zg m).pages)] from hu5)
    obtain ⟨a94,c95,hu11⟩:=(show ∃ a94 : Option Addr,∃ c95 : Nat,f115 50 = .slice a94 ((zr m k).length) c95 from hu11)
    obtain ⟨a104,c105,hu14⟩:=(show ∃ a104 : Option Addr,∃ c105 : Nat,f115 53 = .slice a104 ((zr m k).length) c105 from hu14)
    have hu17 : f115 4 = .bool true:=hu17
    have hs117 : St _ _ _ [ownI 39 6 (zf (f115 53)) (vcap (f115 53)) ((zr m k).length) ((zr m k).flatMap z9),ownI 39 6 (zf (f115 50)) (vcap (f115 50)) ((zr m k).length) ((zr m k).flatMap z9),allI (x2 ⟨(zf (z3 (f115 44) 0)),(vcap (z3 (f115 44) 0)),(zf (z3 (f115 44) 1)),(vcap (z3 (f115 44) 1)),(zf (z3 (f115 44) 2)),(vcap (z3 (f115 44) 2)),(zf (z3 (f115 44) 3)),(vcap (z3 (f115 44) 3))⟩ (zg m)),allI (x2 ⟨(zf (z3 (f115 42) 0)),(vcap (z3 (f115 42) 0)),(zf (z3 (f115 42) 1)),(vcap (z3 (f115 42) 1)),(zf (z3 (f115 42) 2)),(vcap (z3 (f115 42) 2)),(zf (z3 (f115 42) 3)),(vcap (z3 (f115 42) 3))⟩ (zg m)),blk b1 (qn m) 26] _:=hs117
    simp only [hu3,hu5,hu11,hu14,vblk,zf,vcap,z3] at hs117
    have hs117 : St _ _ _ [ownI 39 6 a104 c105 ((zr m k).length) ((zr m k).flatMap z9),ownI 39 6 a94 c95 ((zr m k).length) ((zr m k).flatMap z9),allI (x2 ⟨a73,c74,a75,c76,a77,c78,a79,c80⟩ (zg m)),allI (x2 ⟨a57,c58,a59,c60,a61,c62,a63,c64⟩ (zg m)),blk b1 (qn m) 26] _:=hs117
    rewrite [qm hu17]
    refine qb (zo ?_)
    refine ⟨.bool true,res1 rfl,?_⟩
    exact ⟨rfl,hs117.base⟩

theorem en13 : ∀ args w,(callFunc 13 args).run Try.prog w = .ok (.enter 13 args) w:=fun args w=>qy Try.func13 (by kernel_rfl) rfl args w
theorem en17 : ∀ args w,(callFunc 17 args).run Try.prog w = .ok (.enter 17 args) w:=fun args w=>qy Try.func17 (by kernel_rfl) rfl args w

theorem subA_cap {a : Option Addr} {cap o : Nat} {l : List UInt8} (hc : l.length ≤ cap) (hn : a = none → cap = 0) (ho : o ≤ l.length) : (subA a o cap 1 = none → cap - o = 0) ∧ l.length - o ≤ cap - o:=by
 refine ⟨fun e=>?_,by omega⟩
 unfold subA at e
 split at e
 ·rename_i h; omega
 ·cases a with
 |none=>have:=hn rfl; omega
 |some a=>simp at e
theorem ref_sz {E cap k : Nat} {a : Option Addr} {l : List UInt8} {w : World} (h : (ownI E 1 a cap (gC l) ((gSz l).flatMap encI)).φ w) (hk : k < gC l) : w.cell? ⟨vb a,0 + k * 1,none⟩ = some (vI ((szN l k : Nat) : Int)):=by
 have hk' : k < (gSz l).length:=by rw [gSz_len]; exact hk
 have hr:=own_elem (enc:=encI) (m:=1) (fun _=>rfl) h (by decide) k hk'
 have h2:=hr 0 _ rfl
 rw [← (szN_int hk').1,Nat.zero_add]
 exact h2
theorem ref_canon {l : List UInt8} {cs : List CompV} {k c3 : Nat} {a3 : Option Addr} (h2 : k < gC l) (_h : cs.length = k) (h3 : cs.map CompV.canon = List.zipWith mkC (rCodes l k) (gDa l)) :
  (cs ++ [(⟨a3,c3,rCode l k,daAt l k⟩ : CompV)]).map CompV.canon = List.zipWith mkC (rCodes l (k + 1)) (gDa l):=by
 rw [rCodes_succ,zip_snoc h2 _ _ (by simp [rCodes]),List.map_append,h3]
 rfl
theorem ref_caps {l : List UInt8} {cs : List CompV} {k c3 : Nat} {a3 : Option Addr} (hl : l.length ≤ 20000) (h4 : ∀ c ∈ cs,c.code.length ≤ 20000 ∧ c.code.length ≤ c.cap ∧ (c.a = none → c.cap = 0)) (hc : (rCode l k).length ≤ c3) (hn : a3 = none → c3 = 0) :
  ∀ c ∈ cs ++ [(⟨a3,c3,rCode l k,daAt l k⟩ : CompV)],c.code.length ≤ 20000 ∧ c.code.length ≤ c.cap ∧ (c.a = none → c.cap = 0):=by
 intro c hm
 rcases List.mem_append.1 hm with hm|hm
 ·exact h4 c hm
 ·rw [List.mem_singleton.1 hm]
  exact ⟨by show (rCode l k).length ≤ _; rw [rCode_len]; omega,hc,hn⟩
theorem ref_B {l : List UInt8} {cs : List CompV} {a5 a6 a7 : Option Addr} {c5 c6 c7 : Nat} {st : Bool} {hp fu : Int} (h2 : cs.length = gC l) (h4 : ∀ c ∈ cs,c.code.length ≤ 20000 ∧ c.code.length ≤ c.cap ∧ (c.a = none → c.cap = 0))
  (q5 : gC l ≤ c5 ∧ (a5 = none → c5 = 0)) (q6 : gL l ≤ c6 ∧ (a6 = none → c6 = 0)) (q7 : gS l ≤ c7 ∧ (a7 = none → c7 = 0)) :
  ImgB ⟨st,hp,fu,a5,c5,cs,a6,c6,(itL l (gs8 l) (gL l)).1,a7,c7,(itS l (gs9 l) (gS l)).1⟩:=by
 have:=gC_le l; have:=gL_le l; have:=gS_le l
 exact ⟨by show cs.length ≤ _; omega,by show (itL l (gs8 l) (gL l)).1.length ≤ _; rw [itL_len]; omega,by show (itS l (gs9 l) (gS l)).1.length ≤ _; rw [itS_len]; omega,by show cs.length ≤ c5; omega,by show (itL l (gs8 l) (gL l)).1.length ≤ c6; rw [itL_len]; exact q6.1,by show (itS l (gs9 l) (gS l)).1.length ≤ c7; rw [itS_len]; exact q7.1,q5.2,q6.2,q7.2,h4⟩
theorem allB_canon (m : ImageV) : allB m.canon = allB m:=by
 rw [allB_eq,allB_eq]
 have h1 : m.canon.comps.flatMap putComp = m.comps.flatMap putComp:=flatMap_canon _ _ fun _=>rfl
 have h2 : m.canon.comps.flatMap (·.code) = m.comps.flatMap (·.code):=flatMap_canon _ _ fun _=>rfl
 have h3 : m.canon.comps.length = m.comps.length:=by simp [ImageV.canon]
 rw [h1,h2,h3]; rfl


theorem rright_at (m : ImageV) {nc nl ns : Nat} (hc : m.comps.length = nc) (hl : m.links.length = nl) (hs : m.shares.length = ns) (w : World) (hm : ∀ i ∈ kh m,i.φ w) (hb : ImgB m) (hx : ∀ s ∈ m.shares,s.wr ≤ 9223372036854775807) :
  C Try.prog 15 [.agg #[.bool m.strict,vI m.heap,vI m.full,.slice m.ca nc m.ccap,.slice m.la nl m.lcap,.slice m.sa ns m.scap]] w fun v w'=>v = .bool (z2 m) ∧ Grow w w':=by
 subst hc; subst hl; subst hs; exact rrightI_c m w hm hb hx


theorem rform_at (m : ImageV) {nc nl ns : Nat} (hc : m.comps.length = nc) (hl : m.links.length = nl) (hs : m.shares.length = ns) (w : World) (hm : ∀ i ∈ kh m,i.φ w) (hb : ImgB m) (hx : ∀ s ∈ m.shares,s.wr ≤ 9223372036854775807) :
  C Try.prog 35 [.agg #[.bool m.strict,vI m.heap,vI m.full,.slice m.ca nc m.ccap,.slice m.la nl m.lcap,.slice m.sa ns m.scap]] w fun v w'=>v = .bool (jo m) ∧ Grow w w':=by
 subst hc; subst hl; subst hs; exact rform_c m w hm hb hx


end Go.Proofs.Ytgddigkdldnmdaa
