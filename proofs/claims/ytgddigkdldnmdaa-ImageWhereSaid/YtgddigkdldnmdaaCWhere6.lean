import Derived.Test.YtgddigkdldnmdaaCWhere5
namespace Go.Proofs.Ytgddigkdldnmdaa
open Go Go.Vg Go.Img
set_option linter.unusedSimpArgs false
set_option maxHeartbeats 4000000
theorem zv51 : Zv Try.prog 51 (.agg #[vI 0,vI 0]):=Try.zeroValue51
theorem un51 : Un Try.prog 51 (.array 2 3):=Try.underlying51
theorem sz51 : Sz Try.prog 51 2:=fun _=>by kernel_rfl
theorem ag51 : Ag Try.prog 51 true:=fun _=>by kernel_rfl
theorem zv39 : Zv Try.prog 39 (.agg #[.bool false,vI 0,vI 0,vI 0,vI 0,vI 0]):=Try.zeroValue39
theorem bt39 : Bt Try.prog 39 [(0,1),(1,1),(2,1),(3,1),(4,1),(5,1)] [.bool false,vI 0,vI 0,vI 0,vI 0,vI 0]:=Bt.mk' _ _ Try.zeroValue39 rfl Try.underlying39 (fun _=>by kernel_rfl)
theorem sz39 : Sz Try.prog 39 6:=fun _=>by kernel_rfl
theorem ag39 : Ag Try.prog 39 true:=fun _=>by kernel_rfl
theorem zv45 : Zv Try.prog 45 (.agg #[.slice none 0 0,.slice none 0 0,.slice none 0 0,.slice none 0 0,vI 0]):=Try.zeroValue45
theorem ag45 : Ag Try.prog 45 true:=fun _=>by kernel_rfl
theorem sz45 : Sz Try.prog 45 5:=fun _=>by kernel_rfl
theorem en44 : ∀ args w,(callFunc 44 args).run Try.prog w = .ok (.enter 44 args) w:=fun args w=>qy Try.func44 (by kernel_rfl) rfl args w
theorem fd45_0 : FdAt Try.prog 45 0 0 1 false:=FdAt.mk' _ _ Try.underlying45 rfl rfl (fun _=>by kernel_rfl) (fun _=>by kernel_rfl)
theorem ag42 : Ag Try.prog 42 false:=fun _=>by kernel_rfl
theorem un42 : Un Try.prog 42 (.slice 51):=Try.underlying42
theorem ni42 : NotInt Try.prog 42:=⟨_,Try.underlying42,by intro k h; cases h⟩
theorem inf51 : Inf Try.prog 51 (.agg #[vI 0,vI 0]) 2 16:=by unfold Inf; kernel_rfl
theorem fd45_1 : FdAt Try.prog 45 1 1 1 false:=FdAt.mk' _ _ Try.underlying45 rfl rfl (fun _=>by kernel_rfl) (fun _=>by kernel_rfl)
theorem fd45_2 : FdAt Try.prog 45 2 2 1 false:=FdAt.mk' _ _ Try.underlying45 rfl rfl (fun _=>by kernel_rfl) (fun _=>by kernel_rfl)
theorem sz42 : Sz Try.prog 42 1:=fun _=>by kernel_rfl
theorem fd45_3 : FdAt Try.prog 45 3 3 1 false:=FdAt.mk' _ _ Try.underlying45 rfl rfl (fun _=>by kernel_rfl) (fun _=>by kernel_rfl)
theorem ag43 : Ag Try.prog 43 false:=fun _=>by kernel_rfl
theorem ni43 : NotInt Try.prog 43:=⟨_,Try.underlying43,by intro k h; cases h⟩
theorem sz43 : Sz Try.prog 43 1:=fun _=>by kernel_rfl
theorem fd45_4 : FdAt Try.prog 45 4 4 1 false:=FdAt.mk' _ _ Try.underlying45 rfl rfl (fun _=>by kernel_rfl) (fun _=>by kernel_rfl)

theorem lay0_ok {w : World} : ∀ i ∈ x2 ⟨none,0,none,0,none,0,none,0⟩ ⟨[],[],[],[],0⟩,i.φ w:=by
 intro i hi
 simp only [x2,List.mem_cons,List.not_mem_nil,or_false] at hi
 rcases hi with rfl|rfl|rfl|rfl <;> exact fun i h=>by cases h
theorem lay0_new {n : Nat} : ∀ i ∈ x2 ⟨none,0,none,0,none,0,none,0⟩ ⟨[],[],[],[],0⟩,∀ b,i.fp b → n ≤ b:=by
 intro i hi b hb
 simp only [x2,List.mem_cons,List.not_mem_nil,or_false] at hi
 rcases hi with rfl|rfl|rfl|rfl <;> exact absurd rfl hb.1
theorem lay0_B : LayB ⟨none,0,none,0,none,0,none,0⟩ ⟨[],[],[],[],0⟩:=⟨Nat.le_refl _,Nat.le_refl _,Nat.le_refl _,Nat.le_refl _,fun _=>rfl,fun _=>rfl,fun _=>rfl,fun _=>rfl⟩
theorem whereS_yes {m : ImageV} (h : z2 m = true) : zg m = ⟨ks m m.comps.length,ku m m.comps.length,kv m m.comps.length,j3 m m.shares.length,z5 m + ((m.shares.length : Nat) : Int)⟩:=by unfold zg; rw [if_pos h]
theorem lay_v {m : ImageV} {a1 a2 a3 a4 : Option Addr} {c1 c2 c3 c4 : Nat} {n : Int} : Value.agg #[.slice a1 m.comps.length c1,.slice a2 m.comps.length c2,.slice a3 m.comps.length c3,.slice a4 m.shares.length c4,vI n] = .agg (layCells ⟨a1,c1,a2,c2,a3,c3,a4,c4⟩ ⟨ks m m.comps.length,ku m m.comps.length,kv m m.comps.length,j3 m m.shares.length,n⟩).toArray:=by
 simp only [layCells,codesTo_len,datasTo_len,heapsTo_len,shsTo_len]
section
variable {a1 a2 a3 a4 : Option Addr} {c1 c2 c3 c4 n1 n2 n3 n4 : Nat} {L : LayV} {w : World}
theorem lay_ok {E1 E2 : Nat} (h1 : (ownI E1 2 a1 c1 n1 (L.codes.flatMap encR)).φ w) (h2 : (ownI E1 2 a2 c2 n2 (L.datas.flatMap encR)).φ w) (h3 : (ownI E1 2 a3 c3 n3 (L.heaps.flatMap encR)).φ w) (h4 : (ownI E2 1 a4 c4 n4 (L.shs.flatMap encI)).φ w) :
  ∀ i ∈ x2 ⟨a1,c1,a2,c2,a3,c3,a4,c4⟩ L,i.φ w:=by
 intro i hi
 simp only [x2,List.mem_cons,List.not_mem_nil,or_false] at hi
 rcases hi with rfl|rfl|rfl|rfl
 ·exact jp (m:=2) (fun _=>rfl) (by decide) h1
 ·exact jp (m:=2) (fun _=>rfl) (by decide) h2
 ·exact jp (m:=2) (fun _=>rfl) (by decide) h3
 ·exact jp (m:=1) (fun _=>rfl) (by decide) h4
theorem lay_new {k : Nat} (h1 : ∀ b,(∃ o,a1 = some ⟨b,o,none⟩) → k ≤ b) (h2 : ∀ b,(∃ o,a2 = some ⟨b,o,none⟩) → k ≤ b) (h3 : ∀ b,(∃ o,a3 = some ⟨b,o,none⟩) → k ≤ b) (h4 : ∀ b,(∃ o,a4 = some ⟨b,o,none⟩) → k ≤ b) :
  ∀ i ∈ x2 ⟨a1,c1,a2,c2,a3,c3,a4,c4⟩ L,∀ b,i.fp b → k ≤ b:=by
 intro i hi b hb
 simp only [x2,List.mem_cons,List.not_mem_nil,or_false] at hi
 rcases hi with rfl|rfl|rfl|rfl
 ·exact h1 b hb.2
 ·exact h2 b hb.2
 ·exact h3 b hb.2
 ·exact h4 b hb.2
theorem lay_B {E1 E2 : Nat} {m : ImageV} {p : Int} (h1 : (ownI E1 2 a1 c1 m.comps.length ((ks m m.comps.length).flatMap encR)).φ w) (h2 : (ownI E1 2 a2 c2 m.comps.length ((ku m m.comps.length).flatMap encR)).φ w) (h3 : (ownI E1 2 a3 c3 m.comps.length ((kv m m.comps.length).flatMap encR)).φ w) (h4 : (ownI E2 1 a4 c4 m.shares.length ((j3 m m.shares.length).flatMap encI)).φ w) :
  LayB ⟨a1,c1,a2,c2,a3,c3,a4,c4⟩ ⟨ks m m.comps.length,ku m m.comps.length,kv m m.comps.length,j3 m m.shares.length,p⟩ :=
 ⟨by show (ks m m.comps.length).length ≤ c1; rw [codesTo_len]; exact (j5 h1).1,by show (ku m m.comps.length).length ≤ c2; rw [datasTo_len]; exact (j5 h2).1,by show (kv m m.comps.length).length ≤ c3; rw [heapsTo_len]; exact (j5 h3).1,by show (j3 m m.shares.length).length ≤ c4; rw [shsTo_len]; exact (j5 h4).1,(j5 h1).2,(j5 h2).2,(j5 h3).2,(j5 h4).2⟩
end

/-- seizin/image.Where$1 -/
theorem take_c (n p : Int) (bb : Nat) (w : World) (h : (blk bb [vI p] 3).φ w) (hp : 0 ≤ p ∧ p ≤ 100000) (hn : 0 ≤ n ∧ n ≤ 100000) :
  C Try.prog 44 [vI n,.pointer (some ⟨bb,0,none⟩)] w fun v w'=>(v = .agg #[vI (p * 256),vI ((p + n) * 256)] ∧ (blk bb [vI (p + n)] 3).φ w') ∧ Keeps (fun x=>x = bb) w w':=by
 have hs0 : St w (fun x=>x = bb) w [blk bb [vI p] 3] []:=St.start1 w (blk bb [vI p] 3) _ h (fun _ h=>by cases h) (fun _ h=>by cases h)
 refine z8 [.cell 3 51] 14 Try.func44 rfl Try.ntmps44 rfl rfl ?_
 refine qi (qc ?_)
 refine qa rfl (kk (cs:=[vI 0,vI 0]) hs0 zv51 rfl rfl ?_)
 intro b1 w2 hb4 hs3
 refine ql (qb (qi (qc ?_)))
 refine qa rfl (qq (v:=vI p) rfl ag3 (qh (hs3.get 1 rfl) rfl) rfl ?_)
 refine qa rfl (qt (v:=vI (p * 256)) rfl rfl rfl (b_mul (qz (by omega) (by omega))) ?_)
 refine qa rfl (qf (v:=vI (p * 256)) rfl rfl ?_)
 refine ql (qb (qi (qc ?_)))
 refine qa rfl (qq (v:=vI p) rfl ag3 (qh (hs3.get 1 rfl) rfl) rfl ?_)
 refine qa rfl (qj (v:=vI n) rfl rfl ?_)
 refine qa rfl (qt (v:=vI (p + n)) rfl rfl rfl (ki (qz (by omega) (by omega))) ?_)
 refine qa rfl (zx (v:=vI (p + n)) (vs:=[vI (p + n)]) (cs':=[vI (p + n)]) hs3 1 rfl rfl rfl sz3 rfl rfl rfl rfl rfl ?_)
 intro w5 hs6
 refine ql (qb (qi (qc ?_)))
 refine qa rfl (qj (v:=vI (p * 256)) rfl rfl ?_)
 refine qa rfl (qq (v:=vI (p + n)) rfl ag3 (qh (hs6.get 1 rfl) rfl) rfl ?_)
 refine qa rfl (qt (v:=vI ((p + n) * 256)) rfl rfl rfl (b_mul (qz (by omega) (by omega))) ?_)
 refine qa rfl (xe (ps:=[(0,[vI (p * 256)]),(1,[vI ((p + n) * 256)])]) (zero:=[vI 0,vI 0]) (cells:=[vI (p * 256),vI ((p + n) * 256)]) un51 sz3 zv51 rfl rfl rfl rfl ?_)
 refine qa rfl (zx (v:=.agg #[vI (p * 256),vI ((p + n) * 256)]) (vs:=[vI (p * 256),vI ((p + n) * 256)]) (cs':=[vI (p * 256),vI ((p + n) * 256)]) hs6 0 rfl rfl rfl sz51 rfl rfl rfl rfl rfl ?_)
 intro w7 hs8
 refine ql (qb (zo ?_))
 refine ⟨.agg #[vI (p * 256),vI ((p + n) * 256)],resn [.agg #[vI (p * 256),vI ((p + n) * 256)]] ⟨(xc rfl ag51 sz51 (vs:=[vI (p * 256),vI ((p + n) * 256)]) (Rd.of_blk (hs8.get 0 rfl) 0 2) rfl),trivial⟩ rfl,?_⟩
 exact ⟨⟨rfl,hs8.get 1 rfl⟩,hs8.base⟩

/-- seizin/image.grant -/
theorem grant_c (a b p : Int) (w : World)  :
  C Try.prog 45 [.agg #[vI a,vI b],vI p] w fun v w'=>v = .agg (z9 (xk (a,b) p)).toArray ∧ Grow w w':=by
 have hs0 : St w (fun _=>False) w [] []:=St.start w _ (by simp)
 refine z8 [.cell 4 39] 13 Try.func45 rfl Try.ntmps45 rfl rfl ?_
 refine qi (qc ?_)
 refine qa rfl (jw (v:=.agg #[vI a,vI b]) (cs:=[vI a,vI b]) hs0 rfl rfl rfl ?_)
 intro b1 w2 hb4 hs3
 refine qa rfl (kk (cs:=[.bool false,vI 0,vI 0,vI 0,vI 0,vI 0]) hs3 zv39 rfl rfl ?_)
 intro b5 w6 hb8 hs7
 refine ql (qb (qi (qc ?_)))
 refine qa rfl (k6 rfl rfl un51 sz3 (by omega) (by omega) (o':=0) (by omega) rfl ?_)
 refine qa rfl (qq (v:=vI a) rfl ag3 (qh (hs7.get 1 rfl) rfl) rfl ?_)
 refine qa rfl (k6 rfl rfl un51 sz3 (by omega) (by omega) (o':=1) (by omega) rfl ?_)
 refine qa rfl (qq (v:=vI b) rfl ag3 (qh (hs7.get 1 rfl) rfl) rfl ?_)
 refine qa rfl (k6 rfl rfl un51 sz3 (by omega) (by omega) (o':=0) (by omega) rfl ?_)
 refine qa rfl (qq (v:=vI a) rfl ag3 (qh (hs7.get 1 rfl) rfl) rfl ?_)
 refine qa rfl (qj (v:=vI p) rfl rfl ?_)
 refine qa rfl (jl (ps:=[(0,[.bool true]),(1,[vI a]),(2,[vI b]),(3,[vI a]),(4,[vI p])]) (cells:=[.bool true,vI a,vI b,vI a,vI p,vI 0]) bt39 rfl rfl rfl ?_)
 refine qa rfl (zx (v:=.agg #[.bool true,vI a,vI b,vI a,vI p,vI 0]) (vs:=[.bool true,vI a,vI b,vI a,vI p,vI 0]) (cs':=[.bool true,vI a,vI b,vI a,vI p,vI 0]) hs7 0 rfl rfl rfl sz39 rfl rfl rfl rfl rfl ?_)
 intro w9 hs10
 refine ql (qb (zo ?_))
 refine ⟨.agg #[.bool true,vI a,vI b,vI a,vI p,vI 0],resn [.agg #[.bool true,vI a,vI b,vI a,vI p,vI 0]] ⟨(xc rfl ag39 sz39 (vs:=[.bool true,vI a,vI b,vI a,vI p,vI 0]) (Rd.of_blk (hs10.get 0 rfl) 0 6) rfl),trivial⟩ rfl,?_⟩
 exact ⟨rfl,hs10.base⟩

/-- seizin/image.Where -/
theorem where_c (m : ImageV) (w : World) (hm : ∀ i ∈ kh m,i.φ w) (hb : ImgB m) :
  C Try.prog 22 [.agg (qn m).toArray] w fun v w'=>(∃ A,v = .agg (layCells A (zg m)).toArray ∧ (∀ i ∈ x2 A (zg m),i.φ w') ∧ (∀ i ∈ x2 A (zg m),∀ b,i.fp b → w.heap.size ≤ b) ∧ LayB A (zg m)) ∧ Grow w w':=by
 have hs0 : St w (fun _=>False) w [] (kh m):=St.start w _ hm
 refine z8 [.cell 2 45] 78 Try.func22 rfl Try.ntmps22 rfl rfl ?_
 refine qi (qc ?_)
 refine qa rfl (jw (v:=.agg (qn m).toArray) (cs:=(qn m)) hs0 rfl rfl rfl ?_)
 intro b1 w2 hb4 hs3
 refine qa rfl (kk (cs:=[.slice none 0 0,.slice none 0 0,.slice none 0 0,.slice none 0 0,vI 0]) hs3 zv45 rfl rfl ?_)
 intro b5 w6 hb8 hs7
 refine ql (qb (qi (qc ?_)))
 refine qa rfl (kk (cs:=[.slice none 0 0,.slice none 0 0,.slice none 0 0,.slice none 0 0,vI 0]) hs7 zv45 rfl rfl ?_)
 intro b9 w10 hb12 hs11
 refine ql (qb (qi (qi (qc ?_))))
 refine qa rfl (qw (vs:=(qn m)) rfl ag26 sz26 (Rd.of_blk (hs11.get 2 rfl) 0 6) rfl rfl ?_)
 refine qa rfl (zi (args:=[.agg (qn m).toArray]) rfl rfl rfl en14 (iright_c m _ (hs11.r) hb) ?_)
 rintro _ w13 ⟨rfl,hk15⟩
 have hs14:=hs11.keep hk15
 refine qa rfl (j0 (b:=(z2 m)) rfl rfl ?_)
 refine ql (qb ?_)
 refine k5 (t:=(!(z2 m))) rfl (fun hc16=>?_) (fun hc16=>?_)
 ·try simp only [Bool.and_eq_true,Bool.or_eq_true,Bool.not_eq_true',Bool.and_eq_false_iff,Bool.or_eq_false_iff,Bool.not_eq_false',decide_eq_true_eq,decide_eq_false_iff_not,Bool.and_eq_false_imp] at hc16
  refine qi (qc ?_)
  refine qa rfl (qw (vs:=[.slice none 0 0,.slice none 0 0,.slice none 0 0,.slice none 0 0,vI 0]) rfl ag45 sz45 (Rd.of_blk (hs14.get 0 rfl) 0 5) rfl rfl ?_)
  refine qa rfl (zx (v:=.agg #[.slice none 0 0,.slice none 0 0,.slice none 0 0,.slice none 0 0,vI 0]) (vs:=[.slice none 0 0,.slice none 0 0,.slice none 0 0,.slice none 0 0,vI 0]) (cs':=[.slice none 0 0,.slice none 0 0,.slice none 0 0,.slice none 0 0,vI 0]) hs14 1 rfl rfl rfl sz45 rfl rfl rfl rfl rfl ?_)
  intro w17 hs18
  refine ql (qb (zo (q9 ?_)))
  refine ⟨.agg #[.slice none 0 0,.slice none 0 0,.slice none 0 0,.slice none 0 0,vI 0],resn [.agg #[.slice none 0 0,.slice none 0 0,.slice none 0 0,.slice none 0 0,vI 0]] ⟨(xc rfl ag45 sz45 (vs:=[.slice none 0 0,.slice none 0 0,.slice none 0 0,.slice none 0 0,vI 0]) (Rd.of_blk (hs18.get 1 rfl) 0 5) rfl),trivial⟩ rfl,?_⟩
  have he : zg m = ⟨[],[],[],[],0⟩:=by unfold zg; rw [hc16]; rfl
  exact ⟨⟨⟨none,0,none,0,none,0,none,0⟩,by rw [he]; rfl,by rw [he]; exact lay0_ok,by rw [he]; exact lay0_new,by rw [he]; exact lay0_B⟩,hs18.base⟩
 ·try simp only [Bool.and_eq_true,Bool.or_eq_true,Bool.not_eq_true',Bool.and_eq_false_iff,Bool.or_eq_false_iff,Bool.not_eq_false',decide_eq_true_eq,decide_eq_false_iff_not,Bool.and_eq_false_imp] at hc16
  refine zn (qb (qi ?_))
  have hright : z2 m = true:=by simpa using hc16
  have hok:=jy hright
  have:=hok.n4; have:=hok.s4; have:=hok.h1; have:=hok.h64; have hpe:=pgEnd_b hok
  refine qc ?_
  refine qa rfl (kk (cs:=[vI 0]) hs14 zv3 rfl rfl ?_)
  intro b19 w20 hb22 hs21
  refine qa rfl (zx (v:=vI 1) (vs:=[vI 1]) (cs':=[vI 1]) hs21 0 rfl rfl rfl sz3 rfl rfl rfl rfl rfl ?_)
  intro w23 hs24
  refine ql (qb (qi (qc ?_)))
  refine qa rfl (yh (fi:=[]) (cap:=[.pointer (some ⟨b19,0,none⟩)]) rfl rfl rfl ?_)
  refine qa rfl (qf (v:=.func (.func 44) #[] #[.pointer (some ⟨b19,0,none⟩)]) rfl rfl ?_)
  refine ql (qb (qi (qi (qc ?_))))
  refine qa rfl (qg rfl jq rfl (o':=3) rfl rfl ?_)
  refine qa rfl (qq (v:=.slice m.ca m.comps.length m.ccap) rfl ag22 (qh (hs24.get 3 rfl) rfl) rfl ?_)
  refine qa rfl (qx (len:=m.comps.length) rfl un22 rfl ?_)
  refine qa rfl (qj (v:=vI 0) rfl rfl ?_)
  refine ql (qb (zy ?_))
  have hs25:=hs24.ownNil 51 2
  have hs26:=hs25.ownNil 51 2
  have hs27:=hs26.ownNil 51 2
  refine kw (fun m_ f_ w_=>∃ k : Nat,∃ a1 : Option Addr,∃ c1 : Nat,∃ a2 : Option Addr,∃ c2 : Nat,∃ a3 : Option Addr,∃ c3 : Nat,m_ = m.comps.length - k ∧ (k ≤ m.comps.length) ∧ f_ 1 = .pointer (some ⟨b1,0,none⟩) ∧ f_ 2 = .pointer (some ⟨b5,0,none⟩) ∧ f_ 3 = .pointer (some ⟨b9,0,none⟩) ∧ f_ 4 = .pointer (some ⟨b19,0,none⟩) ∧ f_ 5 = .func (.func 44) #[] #[.pointer (some ⟨b19,0,none⟩)] ∧ f_ 15 = .slice m.ca m.comps.length m.ccap ∧ f_ 16 = vI ((m.comps.length : Nat) : Int) ∧ f_ 17 = vI ((k : Nat) : Int) ∧ St w (fun _=>False) w_ [ownI 51 2 a1 c1 k ((ks m k).flatMap encR),ownI 51 2 a2 c2 k ((ku m k).flatMap encR),ownI 51 2 a3 c3 k ((kv m k).flatMap encR),blk b19 [vI (pgAt m k)] 3,blk b9 [.slice a1 k c1,.slice a2 k c2,.slice a3 k c3,.slice none 0 0,vI 0] 45,blk b5 [.slice none 0 0,.slice none 0 0,.slice none 0 0,.slice none 0 0,vI 0] 45,blk b1 (qn m) 26] (kh m)) ?_ ?_
  ·exact ⟨_,0,none,0,none,0,none,0,rfl,by omega,rfl,rfl,rfl,rfl,rfl,rfl,rfl,rfl,hs27⟩
  ·intro m31 f28 w29; rintro ⟨k,a1,c1,a2,c2,a3,c3,rfl,hk1,e32,e33,e34,e35,e36,e37,e38,e39,hs30⟩
   rewrite [qm e32]
   rewrite [qm e33]
   rewrite [qm e34]
   rewrite [qm e35]
   rewrite [qm e36]
   rewrite [qm e37]
   rewrite [qm e38]
   rewrite [qm e39]
   refine qi (qc ?_)
   refine qa rfl (qt (k:=.i64) (k':=.i64) (a:=((k : Nat) : Int)) (b:=((m.comps.length : Nat) : Int)) rfl rfl rfl jg ?_)
   refine ql (qb (qi ?_))
   refine zd rfl (fun hc40=>?_) (fun hc40=>?_)
   ·refine zn (qb (qi (zy (qi ?_))))
    have hpb:=pgAt_b hok k (by omega)
    have hcc:=hok.comp _ (List.getElem_mem (by omega : k < m.comps.length))
    have:=hcc.lm; have:=hcc.d1; have:=hcc.d8; have:=hcc.g1; have:=hcc.g16
    have hps:=pgAt_succ (m:=m) (k:=k) (by omega)
    refine qc ?_
    obtain ⟨b41,o42,ha43,hs44⟩:=hs30.elem 0 rfl k (by omega)
    refine qa rfl (qs rfl ha43 rfl un22 sz53 (by omega) (by omega) (o':=o42 + k * 2) (by omega) rfl ?_)
    refine qa rfl (qw (vs:=[.slice ((m.comps[k]'(by omega)).a) ((m.comps[k]'(by omega)).code.length) ((m.comps[k]'(by omega)).cap),vI ((m.comps[k]'(by omega)).data)]) rfl ag53 sz53 ((hs44.getR 0 rfl).2) rfl rfl ?_)
    refine qa rfl (kk (cs:=[.slice none 0 0,vI 0]) hs44 zv53 rfl rfl ?_)
    intro b45 w46 hb48 hs47
    refine qa rfl (zx (v:=.agg #[.slice ((m.comps[k]'(by omega)).a) ((m.comps[k]'(by omega)).code.length) ((m.comps[k]'(by omega)).cap),vI ((m.comps[k]'(by omega)).data)]) (vs:=[.slice ((m.comps[k]'(by omega)).a) ((m.comps[k]'(by omega)).code.length) ((m.comps[k]'(by omega)).cap),vI ((m.comps[k]'(by omega)).data)]) (cs':=[.slice ((m.comps[k]'(by omega)).a) ((m.comps[k]'(by omega)).code.length) ((m.comps[k]'(by omega)).cap),vI ((m.comps[k]'(by omega)).data)]) hs47 0 rfl rfl rfl sz53 rfl rfl rfl rfl rfl ?_)
    intro w49 hs50
    refine ql (qb (qi (qc ?_)))
    refine qa rfl (qj (v:=.func (.func 44) #[] #[.pointer (some ⟨b19,0,none⟩)]) rfl rfl ?_)
    refine qa rfl (qg rfl ym rfl (o':=0) rfl rfl ?_)
    refine qa rfl (qq (v:=.slice ((m.comps[k]'(by omega)).a) ((m.comps[k]'(by omega)).code.length) ((m.comps[k]'(by omega)).cap)) rfl ag27 (qh (hs50.get 0 rfl) rfl) rfl ?_)
    refine qa rfl (qx (len:=((m.comps[k]'(by omega)).code.length)) rfl un27 rfl ?_)
    refine qa rfl (qt (v:=vI (((m.comps[k]'(by omega)).code.length + 256 : Nat) : Int)) rfl rfl rfl (ki (qz (by omega) (by omega))) ?_)
    refine qa rfl (qt (v:=vI ((((m.comps[k]'(by omega)).code.length + 256 : Nat) : Int) - 1)) rfl rfl rfl (b_sub (qz (by omega) (by omega))) ?_)
    refine qa rfl (qt (v:=vI (cpg (m.comps[k]'(by omega)))) rfl rfl rfl (b_quo (by omega) (quo_i64 (by omega) (by omega) (by omega))) ?_)
    refine qa rfl (zi (args:=[vI (cpg (m.comps[k]'(by omega))),.pointer (some ⟨b19,0,none⟩)]) rfl rfl rfl en44 (take_c (cpg (m.comps[k]'(by omega))) (pgAt m k) b19 _ (hs50.get 4 rfl) (by omega) (by omega)) ?_)
    rintro _ w51 ⟨⟨rfl,hr53⟩,hk54⟩
    have hs52:=hs50.mut 4 rfl hk54 (blk b19 [vI (pgAt m k + (cpg (m.comps[k]'(by omega))))] 3) hr53 (fun _ h=>.inl h)
    refine qa rfl (kk (cs:=[vI 0,vI 0]) hs52 zv51 rfl rfl ?_)
    intro b55 w56 hb58 hs57
    refine qa rfl (zx (v:=.agg #[vI ((pgAt m k) * 256),vI ((pgAt m k + (cpg (m.comps[k]'(by omega)))) * 256)]) (vs:=[vI ((pgAt m k) * 256),vI ((pgAt m k + (cpg (m.comps[k]'(by omega)))) * 256)]) (cs':=[vI ((pgAt m k) * 256),vI ((pgAt m k + (cpg (m.comps[k]'(by omega)))) * 256)]) hs57 0 rfl rfl rfl sz51 rfl rfl rfl rfl rfl ?_)
    intro w59 hs60
    refine ql (qb (qi (qc ?_)))
    refine qa rfl (k6 rfl rfl un51 sz3 (by omega) (by omega) (o':=0) (by omega) rfl ?_)
    refine qa rfl (qq (v:=vI ((pgAt m k) * 256)) rfl ag3 (qh (hs60.get 0 rfl) rfl) rfl ?_)
    refine qa rfl (qg rfl ym rfl (o':=0) rfl rfl ?_)
    refine qa rfl (qq (v:=.slice ((m.comps[k]'(by omega)).a) ((m.comps[k]'(by omega)).code.length) ((m.comps[k]'(by omega)).cap)) rfl ag27 (qh (hs60.get 1 rfl) rfl) rfl ?_)
    refine qa rfl (qx (len:=((m.comps[k]'(by omega)).code.length)) rfl un27 rfl ?_)
    refine qa rfl (qt (v:=vI (((pgAt m k) * 256) + (((m.comps[k]'(by omega)).code.length : Nat) : Int))) rfl rfl rfl (ki (qz (by omega) (by omega))) ?_)
    refine qa rfl (k6 rfl rfl un51 sz3 (by omega) (by omega) (o':=1) (by omega) rfl ?_)
    refine qa rfl (zx (v:=vI (((pgAt m k) * 256) + (((m.comps[k]'(by omega)).code.length : Nat) : Int))) (vs:=[vI (((pgAt m k) * 256) + (((m.comps[k]'(by omega)).code.length : Nat) : Int))]) (cs':=[vI ((pgAt m k) * 256),vI (((pgAt m k) * 256) + (((m.comps[k]'(by omega)).code.length : Nat) : Int))]) hs60 0 rfl rfl rfl sz3 rfl rfl rfl rfl rfl ?_)
    intro w61 hs62
    refine ql (qb ?_)
    refine jc js (show St _ _ _ [blk b55 [vI ((pgAt m k) * 256),vI (((pgAt m k) * 256) + (((m.comps[k]'(by omega)).code.length : Nat) : Int))] 51,blk b45 [.slice ((m.comps[k]'(by omega)).a) ((m.comps[k]'(by omega)).code.length) ((m.comps[k]'(by omega)).cap),vI ((m.comps[k]'(by omega)).data)] 53,ownI 51 2 a1 c1 k ((ks m k).flatMap encR),ownI 51 2 a2 c2 k ((ku m k).flatMap encR),ownI 51 2 a3 c3 k ((kv m k).flatMap encR),blk b19 [vI (pgAt m k + (cpg (m.comps[k]'(by omega))))] 3,blk b9 [.slice a1 k c1,.slice a2 k c2,.slice a3 k c3,.slice none 0 0,vI 0] 45,blk b5 [.slice none 0 0,.slice none 0 0,.slice none 0 0,.slice none 0 0,vI 0] 45,blk b1 (qn m) 26] _ from hs62) (fun i_=>match i_ with|3=>some ([39],fun vs_=>match vs_ with|[x39]=>blk (vblk x39) [vI ((pgAt m k) * 256),vI (((pgAt m k) * 256) + (((m.comps[k]'(by omega)).code.length : Nat) : Int))] 51|_=>emp)|4=>some ([40],fun vs_=>match vs_ with|[x40]=>ownI 51 2 (zf x40) (vcap x40) (k + 1) ((ks m (k + 1)).flatMap encR)|_=>emp)|10=>some ([],fun _=>blk b19 [vI (pgAt m k + (cpg (m.comps[k]'(by omega))) + ((m.comps[k]'(by omega)).data))] 3)|11=>some ([47],fun vs_=>match vs_ with|[x47]=>blk (vblk x47) [vI ((pgAt m k + (cpg (m.comps[k]'(by omega)))) * 256),vI ((pgAt m k + (cpg (m.comps[k]'(by omega))) + ((m.comps[k]'(by omega)).data)) * 256)] 51|_=>emp)|12=>some ([48],fun vs_=>match vs_ with|[x48]=>ownI 51 2 (zf x48) (vcap x48) (k + 1) ((ku m (k + 1)).flatMap encR)|_=>emp)|18=>some ([],fun _=>blk b19 [vI (pgAt m k + (cpg (m.comps[k]'(by omega))) + ((m.comps[k]'(by omega)).data) + m.heap)] 3)|19=>some ([55],fun vs_=>match vs_ with|[x55]=>blk (vblk x55) [vI ((pgAt m k + (cpg (m.comps[k]'(by omega))) + ((m.comps[k]'(by omega)).data)) * 256),vI ((pgAt m k + (cpg (m.comps[k]'(by omega))) + ((m.comps[k]'(by omega)).data) + m.heap) * 256)] 51|_=>emp)|20=>some ([56],fun vs_=>match vs_ with|[x56]=>ownI 51 2 (zf x56) (vcap x56) (k + 1) ((kv m (k + 1)).flatMap encR)|_=>emp)|22=>some ([40],fun vs_=>match vs_ with|[x40]=>blk b9 [.slice (zf x40) (k + 1) (vcap x40),.slice a2 k c2,.slice a3 k c3,.slice none 0 0,vI 0] 45|_=>emp)|24=>some ([40,48],fun vs_=>match vs_ with|[x40,x48]=>blk b9 [.slice (zf x40) (k + 1) (vcap x40),.slice (zf x48) (k + 1) (vcap x48),.slice a3 k c3,.slice none 0 0,vI 0] 45|_=>emp)|26=>some ([40,48,56],fun vs_=>match vs_ with|[x40,x48,x56]=>blk b9 [.slice (zf x40) (k + 1) (vcap x40),.slice (zf x48) (k + 1) (vcap x48),.slice (zf x56) (k + 1) (vcap x56),.slice none 0 0,vI 0] 45|_=>emp)|_=>none) (fun i_=>match i_ with|4=>[29]|10=>[32]|12=>[30]|18=>[10]|20=>[31]|22=>[33]|24=>[22]|26=>[24]|_=>[]) (fun i_=>match i_ with|1=>[33]|2=>[27]|4=>[3]|6=>[33]|9=>[28]|12=>[11]|14=>[33]|17=>[35]|20=>[19]|_=>[]) (fun i_=>match i_ with|1=>[0]|3=>[2]|4=>[1,3]|6=>[5]|9=>[8]|10=>[7,9]|11=>[10]|12=>[6,11]|14=>[13]|17=>[16]|18=>[15,17]|19=>[18]|20=>[14,19]|22=>[21,4]|24=>[23,12,4]|26=>[25,20,4,12]|_=>[]) [19,11,3,27,28,4,12,20,18,26,34,35,0,1,2,5,6,7,8,9,13,14,15,16,17,21,23,25,36,37,38,39,40,41,42,43,44,45,46,47,48,49,50,51,52,53,54,55,56,57,58,59,60,61,62] [3,4,11,12,19,20] (fun i_ v_=>match i_ with|0=>v_ = .pointer (some ⟨b9,0,none⟩)|1=>v_ = .slice a1 k c1|2=>v_ = .agg #[vI ((pgAt m k) * 256),vI (((pgAt m k) * 256) + (((m.comps[k]'(by omega)).code.length : Nat) : Int))]|3=>∃ b63 : Nat,v_ = .slice (some ⟨b63,0,none⟩) 1 1|4=>∃ a67 : Option Addr,∃ c68 : Nat,v_ = .slice a67 (k + 1) c68|5=>v_ = .pointer (some ⟨b9,1,none⟩)|6=>v_ = .slice a2 k c2|7=>v_ = .func (.func 44) #[] #[.pointer (some ⟨b19,0,none⟩)]|8=>v_ = .pointer (some ⟨b45,1,none⟩)|9=>v_ = vI ((m.comps[k]'(by omega)).data)|10=>v_ = .agg #[vI ((pgAt m k + (cpg (m.comps[k]'(by omega)))) * 256),vI ((pgAt m k + (cpg (m.comps[k]'(by omega))) + ((m.comps[k]'(by omega)).data)) * 256)]|11=>∃ b75 : Nat,v_ = .slice (some ⟨b75,0,none⟩) 1 1|12=>∃ a79 : Option Addr,∃ c80 : Nat,v_ = .slice a79 (k + 1) c80|13=>v_ = .pointer (some ⟨b9,2,none⟩)|14=>v_ = .slice a3 k c3|15=>v_ = .func (.func 44) #[] #[.pointer (some ⟨b19,0,none⟩)]|16=>v_ = .pointer (some ⟨b1,1,none⟩)|17=>v_ = vI m.heap|18=>v_ = .agg #[vI ((pgAt m k + (cpg (m.comps[k]'(by omega))) + ((m.comps[k]'(by omega)).data)) * 256),vI ((pgAt m k + (cpg (m.comps[k]'(by omega))) + ((m.comps[k]'(by omega)).data) + m.heap) * 256)]|19=>∃ b87 : Nat,v_ = .slice (some ⟨b87,0,none⟩) 1 1|20=>∃ a91 : Option Addr,∃ c92 : Nat,v_ = .slice a91 (k + 1) c92|21=>v_ = .pointer (some ⟨b9,0,none⟩)|23=>v_ = .pointer (some ⟨b9,1,none⟩)|25=>v_ = .pointer (some ⟨b9,2,none⟩)|_=>True) (by kernel_rfl) (by kernel_rfl) ⟨?_,?_,?_,?_,?_,?_,?_,?_,?_,?_,?_,?_,?_,?_,?_,?_,?_,?_,?_,?_,?_,?_,?_,?_,?_,?_,?_,trivial⟩ ?_
    ·intro f0_ w0_ X0_ qp qo qu qk
     have hb3 : f0_ 3 = .pointer (some ⟨b9,0,none⟩):=(qp 3 rfl)
     refine qe rfl (qg hb3 fd45_0 rfl (o':=0) rfl rfl ?_)
     exact ⟨.pointer (some ⟨b9,0,none⟩),rfl,rfl,qk⟩
    ·intro f1_ w1_ X1_ qp qo qu qk
     obtain ⟨hu0,-⟩:=qo
     have hu0 : f1_ 36 = .pointer (some ⟨b9,0,none⟩):=hu0
     obtain ⟨hr33,-⟩:=qu
     have hr33 : Item.φ (blk b9 [.slice a1 k c1,.slice a2 k c2,.slice a3 k c3,.slice none 0 0,vI 0] 45) w1_:=hr33
     refine qe rfl (qq (v:=.slice a1 k c1) hu0 ag42 (qh (hr33) rfl) rfl ?_)
     exact ⟨.slice a1 k c1,rfl,rfl,qk⟩
    ·intro f2_ w2_ X2_ qp qo qu qk
     have hb8 : f2_ 8 = .pointer (some ⟨b55,0,none⟩):=(qp 8 rfl)
     obtain ⟨hr27,-⟩:=qu
     have hr27 : Item.φ (blk b55 [vI ((pgAt m k) * 256),vI (((pgAt m k) * 256) + (((m.comps[k]'(by omega)).code.length : Nat) : Int))] 51) w2_:=hr27
     refine qe rfl (qw (vs:=[vI ((pgAt m k) * 256),vI (((pgAt m k) * 256) + (((m.comps[k]'(by omega)).code.length : Nat) : Int))]) hb8 ag51 sz51 (Rd.of_blk (hr27) 0 2) rfl rfl ?_)
     exact ⟨.agg #[vI ((pgAt m k) * 256),vI (((pgAt m k) * 256) + (((m.comps[k]'(by omega)).code.length : Nat) : Int))],rfl,rfl,qk⟩
    ·intro f3_ w3_ X3_ qp qo qu qk
     obtain ⟨hu2,-⟩:=qo
     have hu2 : f3_ 38 = .agg #[vI ((pgAt m k) * 256),vI (((pgAt m k) * 256) + (((m.comps[k]'(by omega)).code.length : Nat) : Int))]:=hu2
     refine qe rfl (zz (zs:=[vI 0,vI 0]) (ps:=[(0,[vI ((pgAt m k) * 256),vI (((pgAt m k) * 256) + (((m.comps[k]'(by omega)).code.length : Nat) : Int))])]) (cs:=[vI ((pgAt m k) * 256),vI (((pgAt m k) * 256) + (((m.comps[k]'(by omega)).code.length : Nat) : Int))]) qk un42 sz51 zv51 rfl rfl (by simp only [List.map_cons,List.map_nil,List.nil_append,List.cons_append,List.append_nil,ev,Value.cells,hu2]) rfl rfl ?_)
     intro b63 w64 hb66 hs65
     refine ⟨.slice (some ⟨b63,0,none⟩) 1 1,rfl,⟨_,rfl⟩,?_⟩
     show St _ _ _ ((blk (vblk ((upd f3_ 39 (.slice (some ⟨b63,0,none⟩) 1 1)) 39)) [vI ((pgAt m k) * 256),vI (((pgAt m k) * 256) + (((m.comps[k]'(by omega)).code.length : Nat) : Int))] 51) :: X3_) _
     exact hs65
    ·intro f4_ w4_ X4_ qp qo qu qk
     obtain ⟨hu1,hu3,-⟩:=qo
     have hu1 : f4_ 37 = .slice a1 k c1:=hu1
     obtain ⟨b63,hu3⟩:=(show ∃ b63 : Nat,f4_ 39 = .slice (some ⟨b63,0,none⟩) 1 1 from hu3)
     have qk : St _ _ _ ((ownI 51 2 a1 c1 k ((ks m k).flatMap encR)) :: X4_) _:=qk
     obtain ⟨hr3,-⟩:=qu
     have hr3 : Item.φ (blk (vblk (f4_ 39)) [vI ((pgAt m k) * 256),vI (((pgAt m k) * 256) + (((m.comps[k]'(by omega)).code.length : Nat) : Int))] 51) w4_:=hr3
     rw [hu3] at hr3; simp only [vblk,zf,vcap,z3] at hr3
     refine qe rfl (k7 (n2:=k + 1) (xs2:=(ks m (k + 1)).flatMap encR) qk 0 rfl hu1 hu3 un42 ni42 inf51 rfl (Src.rd (news:=[vI ((pgAt m k) * 256),vI (((pgAt m k) * 256) + (((m.comps[k]'(by omega)).code.length : Nat) : Int))]) (Rd.of_blk (hr3) 0 2) rfl rfl) (rfl) (code_snoc (by omega)) (by omega) (by omega) rfl ?_)
     intro a67 c68 w69 hs70
     refine ⟨.slice a67 (k + 1) c68,rfl,⟨_,_,rfl⟩,?_⟩
     show St _ _ _ ((ownI 51 2 (zf ((upd f4_ 40 (.slice a67 (k + 1) c68)) 40)) (vcap ((upd f4_ 40 (.slice a67 (k + 1) c68)) 40)) (k + 1) ((ks m (k + 1)).flatMap encR)) :: X4_) _
     exact hs70
    ·intro f5_ w5_ X5_ qp qo qu qk
     have hb3 : f5_ 3 = .pointer (some ⟨b9,0,none⟩):=(qp 3 rfl)
     refine qe rfl (qg hb3 fd45_1 rfl (o':=1) rfl rfl ?_)
     exact ⟨.pointer (some ⟨b9,1,none⟩),rfl,rfl,qk⟩
    ·intro f6_ w6_ X6_ qp qo qu qk
     obtain ⟨hu5,-⟩:=qo
     have hu5 : f6_ 41 = .pointer (some ⟨b9,1,none⟩):=hu5
     obtain ⟨hr33,-⟩:=qu
     have hr33 : Item.φ (blk b9 [.slice a1 k c1,.slice a2 k c2,.slice a3 k c3,.slice none 0 0,vI 0] 45) w6_:=hr33
     refine qe rfl (qq (v:=.slice a2 k c2) hu5 ag42 (qh (hr33) rfl) rfl ?_)
     exact ⟨.slice a2 k c2,rfl,rfl,qk⟩
    ·intro f7_ w7_ X7_ qp qo qu qk
     have hb5 : f7_ 5 = .func (.func 44) #[] #[.pointer (some ⟨b19,0,none⟩)]:=(qp 5 rfl)
     refine qe rfl (qj (v:=.func (.func 44) #[] #[.pointer (some ⟨b19,0,none⟩)]) hb5 rfl ?_)
     exact ⟨.func (.func 44) #[] #[.pointer (some ⟨b19,0,none⟩)],rfl,rfl,qk⟩
    ·intro f8_ w8_ X8_ qp qo qu qk
     have hb7 : f8_ 7 = .pointer (some ⟨b45,0,none⟩):=(qp 7 rfl)
     refine qe rfl (qg hb7 fd53_1 rfl (o':=1) rfl rfl ?_)
     exact ⟨.pointer (some ⟨b45,1,none⟩),rfl,rfl,qk⟩
    ·intro f9_ w9_ X9_ qp qo qu qk
     obtain ⟨hu8,-⟩:=qo
     have hu8 : f9_ 44 = .pointer (some ⟨b45,1,none⟩):=hu8
     obtain ⟨hr28,-⟩:=qu
     have hr28 : Item.φ (blk b45 [.slice ((m.comps[k]'(by omega)).a) ((m.comps[k]'(by omega)).code.length) ((m.comps[k]'(by omega)).cap),vI ((m.comps[k]'(by omega)).data)] 53) w9_:=hr28
     refine qe rfl (qq (v:=vI ((m.comps[k]'(by omega)).data)) hu8 ag3 (qh (hr28) rfl) rfl ?_)
     exact ⟨vI ((m.comps[k]'(by omega)).data),rfl,rfl,qk⟩
    ·intro f10_ w10_ X10_ qp qo qu qk
     obtain ⟨hu7,hu9,-⟩:=qo
     have hu7 : f10_ 43 = .func (.func 44) #[] #[.pointer (some ⟨b19,0,none⟩)]:=hu7
     have hu9 : f10_ 45 = vI ((m.comps[k]'(by omega)).data):=hu9
     have qk : St _ _ _ ((blk b19 [vI (pgAt m k + (cpg (m.comps[k]'(by omega))))] 3) :: X10_) _:=qk
     have hr32:=qk.get 0 rfl
     refine qe rfl (zi (args:=[vI ((m.comps[k]'(by omega)).data),.pointer (some ⟨b19,0,none⟩)]) hu7 (by simp only [List.map_cons,List.map_nil,List.nil_append,List.cons_append,List.append_nil,ev,Value.cells,hu9]) rfl en44 (take_c ((m.comps[k]'(by omega)).data) (pgAt m k + (cpg (m.comps[k]'(by omega)))) b19 _ (hr32) (by omega) (by omega)) ?_)
     rintro _ w71 ⟨⟨rfl,hr73⟩,hk74⟩
     have hs72:=qk.mut 0 rfl hk74 (blk b19 [vI (pgAt m k + (cpg (m.comps[k]'(by omega))) + ((m.comps[k]'(by omega)).data))] 3) hr73 (fun _ h=>.inl h)
     refine ⟨.agg #[vI ((pgAt m k + (cpg (m.comps[k]'(by omega)))) * 256),vI ((pgAt m k + (cpg (m.comps[k]'(by omega))) + ((m.comps[k]'(by omega)).data)) * 256)],rfl,rfl,?_⟩
     show St _ _ _ ((blk b19 [vI (pgAt m k + (cpg (m.comps[k]'(by omega))) + ((m.comps[k]'(by omega)).data))] 3) :: X10_) _
     exact hs72
    ·intro f11_ w11_ X11_ qp qo qu qk
     obtain ⟨hu10,-⟩:=qo
     have hu10 : f11_ 46 = .agg #[vI ((pgAt m k + (cpg (m.comps[k]'(by omega)))) * 256),vI ((pgAt m k + (cpg (m.comps[k]'(by omega))) + ((m.comps[k]'(by omega)).data)) * 256)]:=hu10
     refine qe rfl (zz (zs:=[vI 0,vI 0]) (ps:=[(0,[vI ((pgAt m k + (cpg (m.comps[k]'(by omega)))) * 256),vI ((pgAt m k + (cpg (m.comps[k]'(by omega))) + ((m.comps[k]'(by omega)).data)) * 256)])]) (cs:=[vI ((pgAt m k + (cpg (m.comps[k]'(by omega)))) * 256),vI ((pgAt m k + (cpg (m.comps[k]'(by omega))) + ((m.comps[k]'(by omega)).data)) * 256)]) qk un42 sz51 zv51 rfl rfl (by simp only [List.map_cons,List.map_nil,List.nil_append,List.cons_append,List.append_nil,ev,Value.cells,hu10]) rfl rfl ?_)
     intro b75 w76 hb78 hs77
     refine ⟨.slice (some ⟨b75,0,none⟩) 1 1,rfl,⟨_,rfl⟩,?_⟩
     show St _ _ _ ((blk (vblk ((upd f11_ 47 (.slice (some ⟨b75,0,none⟩) 1 1)) 47)) [vI ((pgAt m k + (cpg (m.comps[k]'(by omega)))) * 256),vI ((pgAt m k + (cpg (m.comps[k]'(by omega))) + ((m.comps[k]'(by omega)).data)) * 256)] 51) :: X11_) _
     exact hs77
    ·intro f12_ w12_ X12_ qp qo qu qk
     obtain ⟨hu6,hu11,-⟩:=qo
     have hu6 : f12_ 42 = .slice a2 k c2:=hu6
     obtain ⟨b75,hu11⟩:=(show ∃ b75 : Nat,f12_ 47 = .slice (some ⟨b75,0,none⟩) 1 1 from hu11)
     have qk : St _ _ _ ((ownI 51 2 a2 c2 k ((ku m k).flatMap encR)) :: X12_) _:=qk
     obtain ⟨hr11,-⟩:=qu
     have hr11 : Item.φ (blk (vblk (f12_ 47)) [vI ((pgAt m k + (cpg (m.comps[k]'(by omega)))) * 256),vI ((pgAt m k + (cpg (m.comps[k]'(by omega))) + ((m.comps[k]'(by omega)).data)) * 256)] 51) w12_:=hr11
     rw [hu11] at hr11; simp only [vblk,zf,vcap,z3] at hr11
     refine qe rfl (k7 (n2:=k + 1) (xs2:=(ku m (k + 1)).flatMap encR) qk 0 rfl hu6 hu11 un42 ni42 inf51 rfl (Src.rd (news:=[vI ((pgAt m k + (cpg (m.comps[k]'(by omega)))) * 256),vI ((pgAt m k + (cpg (m.comps[k]'(by omega))) + ((m.comps[k]'(by omega)).data)) * 256)]) (Rd.of_blk (hr11) 0 2) rfl rfl) (rfl) (data_snoc (by omega)) (by omega) (by omega) rfl ?_)
     intro a79 c80 w81 hs82
     refine ⟨.slice a79 (k + 1) c80,rfl,⟨_,_,rfl⟩,?_⟩
     show St _ _ _ ((ownI 51 2 (zf ((upd f12_ 48 (.slice a79 (k + 1) c80)) 48)) (vcap ((upd f12_ 48 (.slice a79 (k + 1) c80)) 48)) (k + 1) ((ku m (k + 1)).flatMap encR)) :: X12_) _
     exact hs82
    ·intro f13_ w13_ X13_ qp qo qu qk
     have hb3 : f13_ 3 = .pointer (some ⟨b9,0,none⟩):=(qp 3 rfl)
     refine qe rfl (qg hb3 fd45_2 rfl (o':=2) rfl rfl ?_)
     exact ⟨.pointer (some ⟨b9,2,none⟩),rfl,rfl,qk⟩
    ·intro f14_ w14_ X14_ qp qo qu qk
     obtain ⟨hu13,-⟩:=qo
     have hu13 : f14_ 49 = .pointer (some ⟨b9,2,none⟩):=hu13
     obtain ⟨hr33,-⟩:=qu
     have hr33 : Item.φ (blk b9 [.slice a1 k c1,.slice a2 k c2,.slice a3 k c3,.slice none 0 0,vI 0] 45) w14_:=hr33
     refine qe rfl (qq (v:=.slice a3 k c3) hu13 ag42 (qh (hr33) rfl) rfl ?_)
     exact ⟨.slice a3 k c3,rfl,rfl,qk⟩
    ·intro f15_ w15_ X15_ qp qo qu qk
     have hb5 : f15_ 5 = .func (.func 44) #[] #[.pointer (some ⟨b19,0,none⟩)]:=(qp 5 rfl)
     refine qe rfl (qj (v:=.func (.func 44) #[] #[.pointer (some ⟨b19,0,none⟩)]) hb5 rfl ?_)
     exact ⟨.func (.func 44) #[] #[.pointer (some ⟨b19,0,none⟩)],rfl,rfl,qk⟩
    ·intro f16_ w16_ X16_ qp qo qu qk
     have hb1 : f16_ 1 = .pointer (some ⟨b1,0,none⟩):=(qp 1 rfl)
     refine qe rfl (qg hb1 fd26_1 rfl (o':=1) rfl rfl ?_)
     exact ⟨.pointer (some ⟨b1,1,none⟩),rfl,rfl,qk⟩
    ·intro f17_ w17_ X17_ qp qo qu qk
     obtain ⟨hu16,-⟩:=qo
     have hu16 : f17_ 52 = .pointer (some ⟨b1,1,none⟩):=hu16
     obtain ⟨hr35,-⟩:=qu
     have hr35 : Item.φ (blk b1 (qn m) 26) w17_:=hr35
     refine qe rfl (qq (v:=vI m.heap) hu16 ag3 (qh (hr35) rfl) rfl ?_)
     exact ⟨vI m.heap,rfl,rfl,qk⟩
    ·intro f18_ w18_ X18_ qp qo qu qk
     obtain ⟨hu15,hu17,-⟩:=qo
     have hu15 : f18_ 51 = .func (.func 44) #[] #[.pointer (some ⟨b19,0,none⟩)]:=hu15
     have hu17 : f18_ 53 = vI m.heap:=hu17
     have qk : St _ _ _ ((blk b19 [vI (pgAt m k + (cpg (m.comps[k]'(by omega))) + ((m.comps[k]'(by omega)).data))] 3) :: X18_) _:=qk
     have hr10:=qk.get 0 rfl
     refine qe rfl (zi (args:=[vI m.heap,.pointer (some ⟨b19,0,none⟩)]) hu15 (by simp only [List.map_cons,List.map_nil,List.nil_append,List.cons_append,List.append_nil,ev,Value.cells,hu17]) rfl en44 (take_c m.heap (pgAt m k + (cpg (m.comps[k]'(by omega))) + ((m.comps[k]'(by omega)).data)) b19 _ (hr10) (by omega) (by omega)) ?_)
     rintro _ w83 ⟨⟨rfl,hr85⟩,hk86⟩
     have hs84:=qk.mut 0 rfl hk86 (blk b19 [vI (pgAt m k + (cpg (m.comps[k]'(by omega))) + ((m.comps[k]'(by omega)).data) + m.heap)] 3) hr85 (fun _ h=>.inl h)
     refine ⟨.agg #[vI ((pgAt m k + (cpg (m.comps[k]'(by omega))) + ((m.comps[k]'(by omega)).data)) * 256),vI ((pgAt m k + (cpg (m.comps[k]'(by omega))) + ((m.comps[k]'(by omega)).data) + m.heap) * 256)],rfl,rfl,?_⟩
     show St _ _ _ ((blk b19 [vI (pgAt m k + (cpg (m.comps[k]'(by omega))) + ((m.comps[k]'(by omega)).data) + m.heap)] 3) :: X18_) _
     exact hs84
    ·intro f19_ w19_ X19_ qp qo qu qk
     obtain ⟨hu18,-⟩:=qo
     have hu18 : f19_ 54 = .agg #[vI ((pgAt m k + (cpg (m.comps[k]'(by omega))) + ((m.comps[k]'(by omega)).data)) * 256),vI ((pgAt m k + (cpg (m.comps[k]'(by omega))) + ((m.comps[k]'(by omega)).data) + m.heap) * 256)]:=hu18
     refine qe rfl (zz (zs:=[vI 0,vI 0]) (ps:=[(0,[vI ((pgAt m k + (cpg (m.comps[k]'(by omega))) + ((m.comps[k]'(by omega)).data)) * 256),vI ((pgAt m k + (cpg (m.comps[k]'(by omega))) + ((m.comps[k]'(by omega)).data) + m.heap) * 256)])]) (cs:=[vI ((pgAt m k + (cpg (m.comps[k]'(by omega))) + ((m.comps[k]'(by omega)).data)) * 256),vI ((pgAt m k + (cpg (m.comps[k]'(by omega))) + ((m.comps[k]'(by omega)).data) + m.heap) * 256)]) qk un42 sz51 zv51 rfl rfl (by simp only [List.map_cons,List.map_nil,List.nil_append,List.cons_append,List.append_nil,ev,Value.cells,hu18]) rfl rfl ?_)
     intro b87 w88 hb90 hs89
     refine ⟨.slice (some ⟨b87,0,none⟩) 1 1,rfl,⟨_,rfl⟩,?_⟩
     show St _ _ _ ((blk (vblk ((upd f19_ 55 (.slice (some ⟨b87,0,none⟩) 1 1)) 55)) [vI ((pgAt m k + (cpg (m.comps[k]'(by omega))) + ((m.comps[k]'(by omega)).data)) * 256),vI ((pgAt m k + (cpg (m.comps[k]'(by omega))) + ((m.comps[k]'(by omega)).data) + m.heap) * 256)] 51) :: X19_) _
     exact hs89
    ·intro f20_ w20_ X20_ qp qo qu qk
     obtain ⟨hu14,hu19,-⟩:=qo
     have hu14 : f20_ 50 = .slice a3 k c3:=hu14
     obtain ⟨b87,hu19⟩:=(show ∃ b87 : Nat,f20_ 55 = .slice (some ⟨b87,0,none⟩) 1 1 from hu19)
     have qk : St _ _ _ ((ownI 51 2 a3 c3 k ((kv m k).flatMap encR)) :: X20_) _:=qk
     obtain ⟨hr19,-⟩:=qu
     have hr19 : Item.φ (blk (vblk (f20_ 55)) [vI ((pgAt m k + (cpg (m.comps[k]'(by omega))) + ((m.comps[k]'(by omega)).data)) * 256),vI ((pgAt m k + (cpg (m.comps[k]'(by omega))) + ((m.comps[k]'(by omega)).data) + m.heap) * 256)] 51) w20_:=hr19
     rw [hu19] at hr19; simp only [vblk,zf,vcap,z3] at hr19
     refine qe rfl (k7 (n2:=k + 1) (xs2:=(kv m (k + 1)).flatMap encR) qk 0 rfl hu14 hu19 un42 ni42 inf51 rfl (Src.rd (news:=[vI ((pgAt m k + (cpg (m.comps[k]'(by omega))) + ((m.comps[k]'(by omega)).data)) * 256),vI ((pgAt m k + (cpg (m.comps[k]'(by omega))) + ((m.comps[k]'(by omega)).data) + m.heap) * 256)]) (Rd.of_blk (hr19) 0 2) rfl rfl) (rfl) (heap_snoc (by omega)) (by omega) (by omega) rfl ?_)
     intro a91 c92 w93 hs94
     refine ⟨.slice a91 (k + 1) c92,rfl,⟨_,_,rfl⟩,?_⟩
     show St _ _ _ ((ownI 51 2 (zf ((upd f20_ 56 (.slice a91 (k + 1) c92)) 56)) (vcap ((upd f20_ 56 (.slice a91 (k + 1) c92)) 56)) (k + 1) ((kv m (k + 1)).flatMap encR)) :: X20_) _
     exact hs94
    ·intro f21_ w21_ X21_ qp qo qu qk
     have hb3 : f21_ 3 = .pointer (some ⟨b9,0,none⟩):=(qp 3 rfl)
     refine qe rfl (qg hb3 fd45_0 rfl (o':=0) rfl rfl ?_)
     exact ⟨.pointer (some ⟨b9,0,none⟩),rfl,rfl,qk⟩
    ·intro f22_ w22_ X22_ qp qo qu qk
     obtain ⟨hu21,hu4,-⟩:=qo
     have hu21 : f22_ 57 = .pointer (some ⟨b9,0,none⟩):=hu21
     obtain ⟨a67,c68,hu4⟩:=(show ∃ a67 : Option Addr,∃ c68 : Nat,f22_ 40 = .slice a67 (k + 1) c68 from hu4)
     have qk : St _ _ _ ((blk b9 [.slice a1 k c1,.slice a2 k c2,.slice a3 k c3,.slice none 0 0,vI 0] 45) :: X22_) _:=qk
     refine qe rfl (zx (v:=.slice a67 (k + 1) c68) (vs:=[.slice a67 (k + 1) c68]) (cs':=[.slice a67 (k + 1) c68,.slice a2 k c2,.slice a3 k c3,.slice none 0 0,vI 0]) qk 0 rfl hu21 hu4 sz42 rfl rfl rfl rfl rfl ?_)
     intro w95 hs96
     refine ⟨undef,rfl,trivial,?_⟩
     show St _ _ _ ((blk b9 [.slice (zf (f22_ 40)) (k + 1) (vcap (f22_ 40)),.slice a2 k c2,.slice a3 k c3,.slice none 0 0,vI 0] 45) :: X22_) _
     rw [show (f22_) 40 = _ from hu4]
     exact hs96
    ·intro f23_ w23_ X23_ qp qo qu qk
     have hb3 : f23_ 3 = .pointer (some ⟨b9,0,none⟩):=(qp 3 rfl)
     refine qe rfl (qg hb3 fd45_1 rfl (o':=1) rfl rfl ?_)
     exact ⟨.pointer (some ⟨b9,1,none⟩),rfl,rfl,qk⟩
    ·intro f24_ w24_ X24_ qp qo qu qk
     obtain ⟨hu23,hu12,hu4,-⟩:=qo
     have hu23 : f24_ 58 = .pointer (some ⟨b9,1,none⟩):=hu23
     obtain ⟨a79,c80,hu12⟩:=(show ∃ a79 : Option Addr,∃ c80 : Nat,f24_ 48 = .slice a79 (k + 1) c80 from hu12)
     obtain ⟨a67,c68,hu4⟩:=(show ∃ a67 : Option Addr,∃ c68 : Nat,f24_ 40 = .slice a67 (k + 1) c68 from hu4)
     have qk : St _ _ _ ((blk b9 [.slice (zf (f24_ 40)) (k + 1) (vcap (f24_ 40)),.slice a2 k c2,.slice a3 k c3,.slice none 0 0,vI 0] 45) :: X24_) _:=qk
     rw [hu4] at qk; simp only [vblk,zf,vcap,z3] at qk
     refine qe rfl (zx (v:=.slice a79 (k + 1) c80) (vs:=[.slice a79 (k + 1) c80]) (cs':=[.slice a67 (k + 1) c68,.slice a79 (k + 1) c80,.slice a3 k c3,.slice none 0 0,vI 0]) qk 0 rfl hu23 hu12 sz42 rfl rfl rfl rfl rfl ?_)
     intro w97 hs98
     refine ⟨undef,rfl,trivial,?_⟩
     show St _ _ _ ((blk b9 [.slice (zf (f24_ 40)) (k + 1) (vcap (f24_ 40)),.slice (zf (f24_ 48)) (k + 1) (vcap (f24_ 48)),.slice a3 k c3,.slice none 0 0,vI 0] 45) :: X24_) _
     rw [show (f24_) 40 = _ from hu4]
     rw [show (f24_) 48 = _ from hu12]
     exact hs98
    ·intro f25_ w25_ X25_ qp qo qu qk
     have hb3 : f25_ 3 = .pointer (some ⟨b9,0,none⟩):=(qp 3 rfl)
     refine qe rfl (qg hb3 fd45_2 rfl (o':=2) rfl rfl ?_)
     exact ⟨.pointer (some ⟨b9,2,none⟩),rfl,rfl,qk⟩
    ·intro f26_ w26_ X26_ qp qo qu qk
     obtain ⟨hu25,hu20,hu4,hu12,-⟩:=qo
     have hu25 : f26_ 59 = .pointer (some ⟨b9,2,none⟩):=hu25
     obtain ⟨a91,c92,hu20⟩:=(show ∃ a91 : Option Addr,∃ c92 : Nat,f26_ 56 = .slice a91 (k + 1) c92 from hu20)
     obtain ⟨a67,c68,hu4⟩:=(show ∃ a67 : Option Addr,∃ c68 : Nat,f26_ 40 = .slice a67 (k + 1) c68 from hu4)
     obtain ⟨a79,c80,hu12⟩:=(show ∃ a79 : Option Addr,∃ c80 : Nat,f26_ 48 = .slice a79 (k + 1) c80 from hu12)
     have qk : St _ _ _ ((blk b9 [.slice (zf (f26_ 40)) (k + 1) (vcap (f26_ 40)),.slice (zf (f26_ 48)) (k + 1) (vcap (f26_ 48)),.slice a3 k c3,.slice none 0 0,vI 0] 45) :: X26_) _:=qk
     rw [hu4,hu12] at qk; simp only [vblk,zf,vcap,z3] at qk
     refine qe rfl (zx (v:=.slice a91 (k + 1) c92) (vs:=[.slice a91 (k + 1) c92]) (cs':=[.slice a67 (k + 1) c68,.slice a79 (k + 1) c80,.slice a91 (k + 1) c92,.slice none 0 0,vI 0]) qk 0 rfl hu25 hu20 sz42 rfl rfl rfl rfl rfl ?_)
     intro w99 hs100
     refine ⟨undef,rfl,trivial,?_⟩
     show St _ _ _ ((blk b9 [.slice (zf (f26_ 40)) (k + 1) (vcap (f26_ 40)),.slice (zf (f26_ 48)) (k + 1) (vcap (f26_ 48)),.slice (zf (f26_ 56)) (k + 1) (vcap (f26_ 56)),.slice none 0 0,vI 0] 45) :: X26_) _
     rw [show (f26_) 40 = _ from hu4]
     rw [show (f26_) 48 = _ from hu12]
     rw [show (f26_) 56 = _ from hu20]
     exact hs100
    intro f101 w102 qp qo hs103
    obtain ⟨hu3,hu4,hu11,hu12,hu19,hu20,-⟩:=qo
    obtain ⟨b63,hu3⟩:=(show ∃ b63 : Nat,f101 39 = .slice (some ⟨b63,0,none⟩) 1 1 from hu3)
    obtain ⟨a67,c68,hu4⟩:=(show ∃ a67 : Option Addr,∃ c68 : Nat,f101 40 = .slice a67 (k + 1) c68 from hu4)
    obtain ⟨b75,hu11⟩:=(show ∃ b75 : Nat,f101 47 = .slice (some ⟨b75,0,none⟩) 1 1 from hu11)
    obtain ⟨a79,c80,hu12⟩:=(show ∃ a79 : Option Addr,∃ c80 : Nat,f101 48 = .slice a79 (k + 1) c80 from hu12)
    obtain ⟨b87,hu19⟩:=(show ∃ b87 : Nat,f101 55 = .slice (some ⟨b87,0,none⟩) 1 1 from hu19)
    obtain ⟨a91,c92,hu20⟩:=(show ∃ a91 : Option Addr,∃ c92 : Nat,f101 56 = .slice a91 (k + 1) c92 from hu20)
    have hs103 : St _ _ _ [blk (vblk (f101 55)) [vI ((pgAt m k + (cpg (m.comps[k]'(by omega))) + ((m.comps[k]'(by omega)).data)) * 256),vI ((pgAt m k + (cpg (m.comps[k]'(by omega))) + ((m.comps[k]'(by omega)).data) + m.heap) * 256)] 51,blk (vblk (f101 47)) [vI ((pgAt m k + (cpg (m.comps[k]'(by omega)))) * 256),vI ((pgAt m k + (cpg (m.comps[k]'(by omega))) + ((m.comps[k]'(by omega)).data)) * 256)] 51,blk (vblk (f101 39)) [vI ((pgAt m k) * 256),vI (((pgAt m k) * 256) + (((m.comps[k]'(by omega)).code.length : Nat) : Int))] 51,blk b55 [vI ((pgAt m k) * 256),vI (((pgAt m k) * 256) + (((m.comps[k]'(by omega)).code.length : Nat) : Int))] 51,blk b45 [.slice ((m.comps[k]'(by omega)).a) ((m.comps[k]'(by omega)).code.length) ((m.comps[k]'(by omega)).cap),vI ((m.comps[k]'(by omega)).data)] 53,ownI 51 2 (zf (f101 40)) (vcap (f101 40)) (k + 1) ((ks m (k + 1)).flatMap encR),ownI 51 2 (zf (f101 48)) (vcap (f101 48)) (k + 1) ((ku m (k + 1)).flatMap encR),ownI 51 2 (zf (f101 56)) (vcap (f101 56)) (k + 1) ((kv m (k + 1)).flatMap encR),blk b19 [vI (pgAt m k + (cpg (m.comps[k]'(by omega))) + ((m.comps[k]'(by omega)).data) + m.heap)] 3,blk b9 [.slice (zf (f101 40)) (k + 1) (vcap (f101 40)),.slice (zf (f101 48)) (k + 1) (vcap (f101 48)),.slice (zf (f101 56)) (k + 1) (vcap (f101 56)),.slice none 0 0,vI 0] 45,blk b5 [.slice none 0 0,.slice none 0 0,.slice none 0 0,.slice none 0 0,vI 0] 45,blk b1 (qn m) 26] _:=hs103
    simp only [hu3,hu4,hu11,hu12,hu19,hu20,vblk,zf,vcap,z3] at hs103
    have hs103 : St _ _ _ [blk b87 [vI ((pgAt m k + (cpg (m.comps[k]'(by omega))) + ((m.comps[k]'(by omega)).data)) * 256),vI ((pgAt m k + (cpg (m.comps[k]'(by omega))) + ((m.comps[k]'(by omega)).data) + m.heap) * 256)] 51,blk b75 [vI ((pgAt m k + (cpg (m.comps[k]'(by omega)))) * 256),vI ((pgAt m k + (cpg (m.comps[k]'(by omega))) + ((m.comps[k]'(by omega)).data)) * 256)] 51,blk b63 [vI ((pgAt m k) * 256),vI (((pgAt m k) * 256) + (((m.comps[k]'(by omega)).code.length : Nat) : Int))] 51,blk b55 [vI ((pgAt m k) * 256),vI (((pgAt m k) * 256) + (((m.comps[k]'(by omega)).code.length : Nat) : Int))] 51,blk b45 [.slice ((m.comps[k]'(by omega)).a) ((m.comps[k]'(by omega)).code.length) ((m.comps[k]'(by omega)).cap),vI ((m.comps[k]'(by omega)).data)] 53,ownI 51 2 a67 c68 (k + 1) ((ks m (k + 1)).flatMap encR),ownI 51 2 a79 c80 (k + 1) ((ku m (k + 1)).flatMap encR),ownI 51 2 a91 c92 (k + 1) ((kv m (k + 1)).flatMap encR),blk b19 [vI (pgAt m k + (cpg (m.comps[k]'(by omega))) + ((m.comps[k]'(by omega)).data) + m.heap)] 3,blk b9 [.slice a67 (k + 1) c68,.slice a79 (k + 1) c80,.slice a91 (k + 1) c92,.slice none 0 0,vI 0] 45,blk b5 [.slice none 0 0,.slice none 0 0,.slice none 0 0,.slice none 0 0,vI 0] 45,blk b1 (qn m) 26] _:=hs103
    have e104 : f101 1 = .pointer (some ⟨b1,0,none⟩):=(qp 1 rfl)
    rewrite [qm e104]
    have e105 : f101 2 = .pointer (some ⟨b5,0,none⟩):=(qp 2 rfl)
    rewrite [qm e105]
    have e106 : f101 3 = .pointer (some ⟨b9,0,none⟩):=(qp 3 rfl)
    rewrite [qm e106]
    have e107 : f101 4 = .pointer (some ⟨b19,0,none⟩):=(qp 4 rfl)
    rewrite [qm e107]
    have e108 : f101 5 = .func (.func 44) #[] #[.pointer (some ⟨b19,0,none⟩)]:=(qp 5 rfl)
    rewrite [qm e108]
    have e109 : f101 15 = .slice m.ca m.comps.length m.ccap:=(qp 15 rfl)
    rewrite [qm e109]
    have e110 : f101 16 = vI ((m.comps.length : Nat) : Int):=(qp 16 rfl)
    rewrite [qm e110]
    have e111 : f101 17 = vI ((k : Nat) : Int):=(qp 17 rfl)
    rewrite [qm e111]
    refine z7 (qb ?_)
    have hs112 : St w (fun _=>False) w102 [blk b87 [vI ((pgAt m k + (cpg (m.comps[k]'(by omega))) + ((m.comps[k]'(by omega)).data)) * 256),vI ((pgAt m k + (cpg (m.comps[k]'(by omega))) + ((m.comps[k]'(by omega)).data) + m.heap) * 256)] 51,blk b75 [vI ((pgAt m k + (cpg (m.comps[k]'(by omega)))) * 256),vI ((pgAt m k + (cpg (m.comps[k]'(by omega))) + ((m.comps[k]'(by omega)).data)) * 256)] 51,blk b63 [vI ((pgAt m k) * 256),vI (((pgAt m k) * 256) + (((m.comps[k]'(by omega)).code.length : Nat) : Int))] 51,blk b55 [vI ((pgAt m k) * 256),vI (((pgAt m k) * 256) + (((m.comps[k]'(by omega)).code.length : Nat) : Int))] 51,blk b45 [.slice ((m.comps[k]'(by omega)).a) ((m.comps[k]'(by omega)).code.length) ((m.comps[k]'(by omega)).cap),vI ((m.comps[k]'(by omega)).data)] 53,ownI 51 2 a67 c68 (k + 1) ((ks m (k + 1)).flatMap encR),ownI 51 2 a79 c80 (k + 1) ((ku m (k + 1)).flatMap encR),ownI 51 2 a91 c92 (k + 1) ((kv m (k + 1)).flatMap encR),blk b19 [vI (pgAt m (k + 1))] 3,blk b9 [.slice a67 (k + 1) c68,.slice a79 (k + 1) c80,.slice a91 (k + 1) c92,.slice none 0 0,vI 0] 45,blk b5 [.slice none 0 0,.slice none 0 0,.slice none 0 0,.slice none 0 0,vI 0] 45,blk b1 (qn m) 26] [rdI b41 (o42 + k * 2) (zu (m.comps[k]'(by omega))),arrI zu 2 m.ca m.comps,arrI z1 3 m.la m.links,arrI zw 2 m.sa m.shares,ko m.comps]:=by rw [hps]; exact hs103
    refine qc ?_
    refine qa rfl (qt (v:=vI ((k + 1 : Nat) : Int)) rfl rfl rfl (ki (qz (by omega) (by omega))) ?_)
    refine qa rfl (qj (v:=vI ((k + 1 : Nat) : Int)) rfl rfl ?_)
    refine ql (qb ?_)
    refine ⟨_,?_,k + 1,a67,c68,a79,c80,a91,c92,rfl,by omega,rfl,rfl,rfl,rfl,rfl,rfl,rfl,rfl,hs112.popR.popM.popM.popM.popM.popM⟩
    omega
   ·refine ja (z0 (z0 (ke (qb (qi (qi (qc ?_)))))))
    refine qa rfl (qg rfl xo rfl (o':=5) rfl rfl ?_)
    refine qa rfl (qq (v:=.slice m.sa m.shares.length m.scap) rfl ag24 (qh (hs30.get 6 rfl) rfl) rfl ?_)
    refine qa rfl (qx (len:=m.shares.length) rfl un24 rfl ?_)
    refine qa rfl (qj (v:=vI 0) rfl rfl ?_)
    refine ql (qb (zy ?_))
    obtain rfl : k = m.comps.length:=by omega
    have hs113:=hs30.ownNil 3 1
    have hs114 : St w (fun _=>False) w29 [ownI 3 1 none 0 0 [],ownI 51 2 a1 c1 m.comps.length ((ks m m.comps.length).flatMap encR),ownI 51 2 a2 c2 m.comps.length ((ku m m.comps.length).flatMap encR),ownI 51 2 a3 c3 m.comps.length ((kv m m.comps.length).flatMap encR),blk b19 [vI (z5 m + ((0 : Nat) : Int))] 3,blk b9 [.slice a1 m.comps.length c1,.slice a2 m.comps.length c2,.slice a3 m.comps.length c3,.slice none 0 0,vI 0] 45,blk b5 [.slice none 0 0,.slice none 0 0,.slice none 0 0,.slice none 0 0,vI 0] 45,blk b1 (qn m) 26] (kh m):=by have e : z5 m + ((0 : Nat) : Int) = pgAt m m.comps.length:=Int.add_zero _; rw [e]; exact hs113
    refine kw (fun m_ f_ w_=>∃ j : Nat,∃ a4 : Option Addr,∃ c4 : Nat,m_ = m.shares.length - j ∧ (j ≤ m.shares.length) ∧ f_ 2 = .pointer (some ⟨b5,0,none⟩) ∧ f_ 3 = .pointer (some ⟨b9,0,none⟩) ∧ f_ 4 = .pointer (some ⟨b19,0,none⟩) ∧ f_ 5 = .func (.func 44) #[] #[.pointer (some ⟨b19,0,none⟩)] ∧ f_ 63 = vI ((m.shares.length : Nat) : Int) ∧ f_ 64 = vI ((j : Nat) : Int) ∧ St w (fun _=>False) w_ [ownI 3 1 a4 c4 j ((j3 m j).flatMap encI),ownI 51 2 a1 c1 m.comps.length ((ks m m.comps.length).flatMap encR),ownI 51 2 a2 c2 m.comps.length ((ku m m.comps.length).flatMap encR),ownI 51 2 a3 c3 m.comps.length ((kv m m.comps.length).flatMap encR),blk b19 [vI (z5 m + ((j : Nat) : Int))] 3,blk b9 [.slice a1 m.comps.length c1,.slice a2 m.comps.length c2,.slice a3 m.comps.length c3,.slice a4 j c4,vI 0] 45,blk b5 [.slice none 0 0,.slice none 0 0,.slice none 0 0,.slice none 0 0,vI 0] 45,blk b1 (qn m) 26] (kh m)) ?_ ?_
    ·exact ⟨_,0,none,0,rfl,by omega,rfl,rfl,rfl,rfl,rfl,rfl,hs114⟩
    ·intro m118 f115 w116; rintro ⟨j,a4,c4,rfl,hk2,e119,e120,e121,e122,e123,e124,hs117⟩
     rewrite [qm e119]
     rewrite [qm e120]
     rewrite [qm e121]
     rewrite [qm e122]
     rewrite [qm e123]
     rewrite [qm e124]
     refine qi (qc ?_)
     refine qa rfl (qt (k:=.i64) (k':=.i64) (a:=((j : Nat) : Int)) (b:=((m.shares.length : Nat) : Int)) rfl rfl rfl jg ?_)
     refine ql (qb (qi ?_))
     refine zd rfl (fun hc125=>?_) (fun hc125=>?_)
     ·refine zn (qb (qi (zy ?_)))
      refine jc js (show St _ _ _ [ownI 3 1 a4 c4 j ((j3 m j).flatMap encI),ownI 51 2 a1 c1 m.comps.length ((ks m m.comps.length).flatMap encR),ownI 51 2 a2 c2 m.comps.length ((ku m m.comps.length).flatMap encR),ownI 51 2 a3 c3 m.comps.length ((kv m m.comps.length).flatMap encR),blk b19 [vI (z5 m + ((j : Nat) : Int))] 3,blk b9 [.slice a1 m.comps.length c1,.slice a2 m.comps.length c2,.slice a3 m.comps.length c3,.slice a4 j c4,vI 0] 45,blk b5 [.slice none 0 0,.slice none 0 0,.slice none 0 0,.slice none 0 0,vI 0] 45,blk b1 (qn m) 26] _ from hs117) (fun i_=>match i_ with|3=>some ([],fun _=>blk b19 [vI (z5 m + ((j : Nat) : Int) + 1)] 3)|5=>some ([71],fun vs_=>match vs_ with|[x71]=>blk (vblk x71) [vI ((z5 m + ((j : Nat) : Int)) * 256)] 3|_=>emp)|6=>some ([72],fun vs_=>match vs_ with|[x72]=>ownI 3 1 (zf x72) (vcap x72) (j + 1) ((j3 m (j + 1)).flatMap encI)|_=>emp)|8=>some ([72],fun vs_=>match vs_ with|[x72]=>blk b9 [.slice a1 m.comps.length c1,.slice a2 m.comps.length c2,.slice a3 m.comps.length c3,.slice (zf x72) (j + 1) (vcap x72),vI 0] 45|_=>emp)|_=>none) (fun i_=>match i_ with|3=>[13]|6=>[9]|8=>[14]|_=>[]) (fun i_=>match i_ with|1=>[14]|6=>[5]|_=>[]) (fun i_=>match i_ with|1=>[0]|3=>[2]|4=>[3]|5=>[4]|6=>[1,5]|8=>[7,6]|_=>[]) [5,6,10,11,12,3,8,15,16,0,1,2,4,7,17,18,19,20,21,22,23,24,25] [5,6] (fun i_ v_=>match i_ with|0=>v_ = .pointer (some ⟨b9,3,none⟩)|1=>v_ = .slice a4 j c4|2=>v_ = .func (.func 44) #[] #[.pointer (some ⟨b19,0,none⟩)]|3=>v_ = .agg #[vI ((z5 m + ((j : Nat) : Int)) * 256),vI ((z5 m + ((j : Nat) : Int) + 1) * 256)]|4=>v_ = vI ((z5 m + ((j : Nat) : Int)) * 256)|5=>∃ b130 : Nat,v_ = .slice (some ⟨b130,0,none⟩) 1 1|6=>∃ a134 : Option Addr,∃ c135 : Nat,v_ = .slice a134 (j + 1) c135|7=>v_ = .pointer (some ⟨b9,3,none⟩)|_=>True) (by kernel_rfl) (by kernel_rfl) ⟨?_,?_,?_,?_,?_,?_,?_,?_,?_,trivial⟩ ?_
      ·intro f0_ w0_ X0_ qp qo qu qk
       have hb3 : f0_ 3 = .pointer (some ⟨b9,0,none⟩):=(qp 3 rfl)
       refine qe rfl (qg hb3 fd45_3 rfl (o':=3) rfl rfl ?_)
       exact ⟨.pointer (some ⟨b9,3,none⟩),rfl,rfl,qk⟩
      ·intro f1_ w1_ X1_ qp qo qu qk
       obtain ⟨hu0,-⟩:=qo
       have hu0 : f1_ 66 = .pointer (some ⟨b9,3,none⟩):=hu0
       obtain ⟨hr14,-⟩:=qu
       have hr14 : Item.φ (blk b9 [.slice a1 m.comps.length c1,.slice a2 m.comps.length c2,.slice a3 m.comps.length c3,.slice a4 j c4,vI 0] 45) w1_:=hr14
       refine qe rfl (qq (v:=.slice a4 j c4) hu0 ag43 (qh (hr14) rfl) rfl ?_)
       exact ⟨.slice a4 j c4,rfl,rfl,qk⟩
      ·intro f2_ w2_ X2_ qp qo qu qk
       have hb5 : f2_ 5 = .func (.func 44) #[] #[.pointer (some ⟨b19,0,none⟩)]:=(qp 5 rfl)
       refine qe rfl (qj (v:=.func (.func 44) #[] #[.pointer (some ⟨b19,0,none⟩)]) hb5 rfl ?_)
       exact ⟨.func (.func 44) #[] #[.pointer (some ⟨b19,0,none⟩)],rfl,rfl,qk⟩
      ·intro f3_ w3_ X3_ qp qo qu qk
       obtain ⟨hu2,-⟩:=qo
       have hu2 : f3_ 68 = .func (.func 44) #[] #[.pointer (some ⟨b19,0,none⟩)]:=hu2
       have qk : St _ _ _ ((blk b19 [vI (z5 m + ((j : Nat) : Int))] 3) :: X3_) _:=qk
       have hr13:=qk.get 0 rfl
       refine qe rfl (zi (args:=[vI 1,.pointer (some ⟨b19,0,none⟩)]) hu2 rfl rfl en44 (take_c 1 (z5 m + ((j : Nat) : Int)) b19 _ (hr13) (by omega) (by omega)) ?_)
       rintro _ w126 ⟨⟨rfl,hr128⟩,hk129⟩
       have hs127:=qk.mut 0 rfl hk129 (blk b19 [vI (z5 m + ((j : Nat) : Int) + 1)] 3) hr128 (fun _ h=>.inl h)
       refine ⟨.agg #[vI ((z5 m + ((j : Nat) : Int)) * 256),vI ((z5 m + ((j : Nat) : Int) + 1) * 256)],rfl,rfl,?_⟩
       show St _ _ _ ((blk b19 [vI (z5 m + ((j : Nat) : Int) + 1)] 3) :: X3_) _
       exact hs127
      ·intro f4_ w4_ X4_ qp qo qu qk
       obtain ⟨hu3,-⟩:=qo
       have hu3 : f4_ 69 = .agg #[vI ((z5 m + ((j : Nat) : Int)) * 256),vI ((z5 m + ((j : Nat) : Int) + 1) * 256)]:=hu3
       refine qe rfl (O_index_arr (v:=vI ((z5 m + ((j : Nat) : Int)) * 256)) hu3 rfl un51 ag3 sz3 (by omega) (by omega) rfl rfl ?_)
       exact ⟨vI ((z5 m + ((j : Nat) : Int)) * 256),rfl,rfl,qk⟩
      ·intro f5_ w5_ X5_ qp qo qu qk
       obtain ⟨hu4,-⟩:=qo
       have hu4 : f5_ 70 = vI ((z5 m + ((j : Nat) : Int)) * 256):=hu4
       refine qe rfl (zz (zs:=[vI 0]) (ps:=[(0,[vI ((z5 m + ((j : Nat) : Int)) * 256)])]) (cs:=[vI ((z5 m + ((j : Nat) : Int)) * 256)]) qk un43 sz3 zv3 rfl rfl (by simp only [List.map_cons,List.map_nil,List.nil_append,List.cons_append,List.append_nil,ev,Value.cells,hu4]) rfl rfl ?_)
       intro b130 w131 hb133 hs132
       refine ⟨.slice (some ⟨b130,0,none⟩) 1 1,rfl,⟨_,rfl⟩,?_⟩
       show St _ _ _ ((blk (vblk ((upd f5_ 71 (.slice (some ⟨b130,0,none⟩) 1 1)) 71)) [vI ((z5 m + ((j : Nat) : Int)) * 256)] 3) :: X5_) _
       exact hs132
      ·intro f6_ w6_ X6_ qp qo qu qk
       obtain ⟨hu1,hu5,-⟩:=qo
       have hu1 : f6_ 67 = .slice a4 j c4:=hu1
       obtain ⟨b130,hu5⟩:=(show ∃ b130 : Nat,f6_ 71 = .slice (some ⟨b130,0,none⟩) 1 1 from hu5)
       have qk : St _ _ _ ((ownI 3 1 a4 c4 j ((j3 m j).flatMap encI)) :: X6_) _:=qk
       obtain ⟨hr5,-⟩:=qu
       have hr5 : Item.φ (blk (vblk (f6_ 71)) [vI ((z5 m + ((j : Nat) : Int)) * 256)] 3) w6_:=hr5
       rw [hu5] at hr5; simp only [vblk,zf,vcap,z3] at hr5
       refine qe rfl (k7 (n2:=j + 1) (xs2:=(j3 m (j + 1)).flatMap encI) qk 0 rfl hu1 hu5 un43 ni43 inf3 rfl (Src.rd (news:=[vI ((z5 m + ((j : Nat) : Int)) * 256)]) (Rd.of_blk (hr5) 0 1) rfl rfl) (rfl) (sh_snoc m j) (by omega) (by omega) rfl ?_)
       intro a134 c135 w136 hs137
       refine ⟨.slice a134 (j + 1) c135,rfl,⟨_,_,rfl⟩,?_⟩
       show St _ _ _ ((ownI 3 1 (zf ((upd f6_ 72 (.slice a134 (j + 1) c135)) 72)) (vcap ((upd f6_ 72 (.slice a134 (j + 1) c135)) 72)) (j + 1) ((j3 m (j + 1)).flatMap encI)) :: X6_) _
       exact hs137
      ·intro f7_ w7_ X7_ qp qo qu qk
       have hb3 : f7_ 3 = .pointer (some ⟨b9,0,none⟩):=(qp 3 rfl)
       refine qe rfl (qg hb3 fd45_3 rfl (o':=3) rfl rfl ?_)
       exact ⟨.pointer (some ⟨b9,3,none⟩),rfl,rfl,qk⟩
      ·intro f8_ w8_ X8_ qp qo qu qk
       obtain ⟨hu7,hu6,-⟩:=qo
       have hu7 : f8_ 73 = .pointer (some ⟨b9,3,none⟩):=hu7
       obtain ⟨a134,c135,hu6⟩:=(show ∃ a134 : Option Addr,∃ c135 : Nat,f8_ 72 = .slice a134 (j + 1) c135 from hu6)
       have qk : St _ _ _ ((blk b9 [.slice a1 m.comps.length c1,.slice a2 m.comps.length c2,.slice a3 m.comps.length c3,.slice a4 j c4,vI 0] 45) :: X8_) _:=qk
       refine qe rfl (zx (v:=.slice a134 (j + 1) c135) (vs:=[.slice a134 (j + 1) c135]) (cs':=[.slice a1 m.comps.length c1,.slice a2 m.comps.length c2,.slice a3 m.comps.length c3,.slice a134 (j + 1) c135,vI 0]) qk 0 rfl hu7 hu6 sz43 rfl rfl rfl rfl rfl ?_)
       intro w138 hs139
       refine ⟨undef,rfl,trivial,?_⟩
       show St _ _ _ ((blk b9 [.slice a1 m.comps.length c1,.slice a2 m.comps.length c2,.slice a3 m.comps.length c3,.slice (zf (f8_ 72)) (j + 1) (vcap (f8_ 72)),vI 0] 45) :: X8_) _
       rw [show (f8_) 72 = _ from hu6]
       exact hs139
      intro f140 w141 qp qo hs142
      obtain ⟨hu5,hu6,-⟩:=qo
      obtain ⟨b130,hu5⟩:=(show ∃ b130 : Nat,f140 71 = .slice (some ⟨b130,0,none⟩) 1 1 from hu5)
      obtain ⟨a134,c135,hu6⟩:=(show ∃ a134 : Option Addr,∃ c135 : Nat,f140 72 = .slice a134 (j + 1) c135 from hu6)
      have hs142 : St _ _ _ [blk (vblk (f140 71)) [vI ((z5 m + ((j : Nat) : Int)) * 256)] 3,ownI 3 1 (zf (f140 72)) (vcap (f140 72)) (j + 1) ((j3 m (j + 1)).flatMap encI),ownI 51 2 a1 c1 m.comps.length ((ks m m.comps.length).flatMap encR),ownI 51 2 a2 c2 m.comps.length ((ku m m.comps.length).flatMap encR),ownI 51 2 a3 c3 m.comps.length ((kv m m.comps.length).flatMap encR),blk b19 [vI (z5 m + ((j : Nat) : Int) + 1)] 3,blk b9 [.slice a1 m.comps.length c1,.slice a2 m.comps.length c2,.slice a3 m.comps.length c3,.slice (zf (f140 72)) (j + 1) (vcap (f140 72)),vI 0] 45,blk b5 [.slice none 0 0,.slice none 0 0,.slice none 0 0,.slice none 0 0,vI 0] 45,blk b1 (qn m) 26] _:=hs142
      simp only [hu5,hu6,vblk,zf,vcap,z3] at hs142
      have hs142 : St _ _ _ [blk b130 [vI ((z5 m + ((j : Nat) : Int)) * 256)] 3,ownI 3 1 a134 c135 (j + 1) ((j3 m (j + 1)).flatMap encI),ownI 51 2 a1 c1 m.comps.length ((ks m m.comps.length).flatMap encR),ownI 51 2 a2 c2 m.comps.length ((ku m m.comps.length).flatMap encR),ownI 51 2 a3 c3 m.comps.length ((kv m m.comps.length).flatMap encR),blk b19 [vI (z5 m + ((j : Nat) : Int) + 1)] 3,blk b9 [.slice a1 m.comps.length c1,.slice a2 m.comps.length c2,.slice a3 m.comps.length c3,.slice a134 (j + 1) c135,vI 0] 45,blk b5 [.slice none 0 0,.slice none 0 0,.slice none 0 0,.slice none 0 0,vI 0] 45,blk b1 (qn m) 26] _:=hs142
      have e143 : f140 2 = .pointer (some ⟨b5,0,none⟩):=(qp 2 rfl)
      rewrite [qm e143]
      have e144 : f140 3 = .pointer (some ⟨b9,0,none⟩):=(qp 3 rfl)
      rewrite [qm e144]
      have e145 : f140 4 = .pointer (some ⟨b19,0,none⟩):=(qp 4 rfl)
      rewrite [qm e145]
      have e146 : f140 5 = .func (.func 44) #[] #[.pointer (some ⟨b19,0,none⟩)]:=(qp 5 rfl)
      rewrite [qm e146]
      have e147 : f140 63 = vI ((m.shares.length : Nat) : Int):=(qp 63 rfl)
      rewrite [qm e147]
      have e148 : f140 64 = vI ((j : Nat) : Int):=(qp 64 rfl)
      rewrite [qm e148]
      refine z7 (qb ?_)
      have hs149 : St w (fun _=>False) w141 [blk b130 [vI ((z5 m + ((j : Nat) : Int)) * 256)] 3,ownI 3 1 a134 c135 (j + 1) ((j3 m (j + 1)).flatMap encI),ownI 51 2 a1 c1 m.comps.length ((ks m m.comps.length).flatMap encR),ownI 51 2 a2 c2 m.comps.length ((ku m m.comps.length).flatMap encR),ownI 51 2 a3 c3 m.comps.length ((kv m m.comps.length).flatMap encR),blk b19 [vI (z5 m + ((j + 1 : Nat) : Int))] 3,blk b9 [.slice a1 m.comps.length c1,.slice a2 m.comps.length c2,.slice a3 m.comps.length c3,.slice a134 (j + 1) c135,vI 0] 45,blk b5 [.slice none 0 0,.slice none 0 0,.slice none 0 0,.slice none 0 0,vI 0] 45,blk b1 (qn m) 26] (kh m):=by rw [show z5 m + ((j + 1 : Nat) : Int) = z5 m + ((j : Nat) : Int) + 1 from by omega]; exact hs142
      refine qc ?_
      refine qa rfl (qt (v:=vI ((j + 1 : Nat) : Int)) rfl rfl rfl (ki (qz (by omega) (by omega))) ?_)
      refine qa rfl (qj (v:=vI ((j + 1 : Nat) : Int)) rfl rfl ?_)
      refine ql (qb ?_)
      refine ⟨_,?_,j + 1,a134,c135,rfl,by omega,rfl,rfl,rfl,rfl,rfl,rfl,hs149.popM⟩
      omega
     ·refine ja (z0 (z0 (ke (qb (qi (qc ?_))))))
      refine qa rfl (qq (v:=vI (z5 m + ((j : Nat) : Int))) rfl ag3 (qh (hs117.get 4 rfl) rfl) rfl ?_)
      refine qa rfl (qg rfl fd45_4 rfl (o':=4) rfl rfl ?_)
      refine qa rfl (zx (v:=vI (z5 m + ((j : Nat) : Int))) (vs:=[vI (z5 m + ((j : Nat) : Int))]) (cs':=[.slice a1 m.comps.length c1,.slice a2 m.comps.length c2,.slice a3 m.comps.length c3,.slice a4 j c4,vI (z5 m + ((j : Nat) : Int))]) hs117 5 rfl rfl rfl sz3 rfl rfl rfl rfl rfl ?_)
      intro w150 hs151
      refine ql (qb (qi (qc ?_)))
      refine qa rfl (qw (vs:=[.slice a1 m.comps.length c1,.slice a2 m.comps.length c2,.slice a3 m.comps.length c3,.slice a4 j c4,vI (z5 m + ((j : Nat) : Int))]) rfl ag45 sz45 (Rd.of_blk (hs151.get 5 rfl) 0 5) rfl rfl ?_)
      refine qa rfl (zx (v:=.agg #[.slice a1 m.comps.length c1,.slice a2 m.comps.length c2,.slice a3 m.comps.length c3,.slice a4 j c4,vI (z5 m + ((j : Nat) : Int))]) (vs:=[.slice a1 m.comps.length c1,.slice a2 m.comps.length c2,.slice a3 m.comps.length c3,.slice a4 j c4,vI (z5 m + ((j : Nat) : Int))]) (cs':=[.slice a1 m.comps.length c1,.slice a2 m.comps.length c2,.slice a3 m.comps.length c3,.slice a4 j c4,vI (z5 m + ((j : Nat) : Int))]) hs151 6 rfl rfl rfl sz45 rfl rfl rfl rfl rfl ?_)
      intro w152 hs153
      refine ql (qb (zo ?_))
      refine ⟨.agg #[.slice a1 m.comps.length c1,.slice a2 m.comps.length c2,.slice a3 m.comps.length c3,.slice a4 j c4,vI (z5 m + ((j : Nat) : Int))],resn [.agg #[.slice a1 m.comps.length c1,.slice a2 m.comps.length c2,.slice a3 m.comps.length c3,.slice a4 j c4,vI (z5 m + ((j : Nat) : Int))]] ⟨(xc rfl ag45 sz45 (vs:=[.slice a1 m.comps.length c1,.slice a2 m.comps.length c2,.slice a3 m.comps.length c3,.slice a4 j c4,vI (z5 m + ((j : Nat) : Int))]) (Rd.of_blk (hs153.get 6 rfl) 0 5) rfl),trivial⟩ rfl,?_⟩
      obtain rfl : j = m.shares.length:=by omega
      have he:=whereS_yes hright
      exact ⟨⟨⟨a1,c1,a2,c2,a3,c3,a4,c4⟩,by rw [he]; exact lay_v,by rw [he]; exact lay_ok (hs153.get 1 rfl) (hs153.get 2 rfl) (hs153.get 3 rfl) (hs153.get 0 rfl),by rw [he]; exact lay_new (hs153.newB 1 rfl) (hs153.newB 2 rfl) (hs153.newB 3 rfl) (hs153.newB 0 rfl),by rw [he]; exact lay_B (hs153.get 1 rfl) (hs153.get 2 rfl) (hs153.get 3 rfl) (hs153.get 0 rfl)⟩,hs153.base⟩


end Go.Proofs.Ytgddigkdldnmdaa
