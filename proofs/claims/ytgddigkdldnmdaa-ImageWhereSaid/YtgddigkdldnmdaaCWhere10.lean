import Derived.Test.YtgddigkdldnmdaaCWhere9
namespace Go.Proofs.Ytgddigkdldnmdaa
open Go Go.Vg Go.Img
set_option linter.unusedSimpArgs false
set_option maxHeartbeats 4000000
theorem en15 : ∀ args w,(callFunc 15 args).run Try.prog w = .ok (.enter 15 args) w:=fun args w=>qy Try.func15 (by kernel_rfl) rfl args w
theorem en36 : ∀ args w,(callFunc 36 args).run Try.prog w = .ok (.enter 36 args) w:=fun args w=>qy Try.func36 (by kernel_rfl) rfl args w
theorem en23 : ∀ args w,(callFunc 23 args).run Try.prog w = .ok (.enter 23 args) w:=fun args w=>qy Try.func23 (by kernel_rfl) rfl args w
theorem en46 : ∀ args w,(callFunc 46 args).run Try.prog w = .ok (.enter 46 args) w:=fun args w=>qy Try.func46 (by kernel_rfl) rfl args w
theorem en26 : ∀ args w,(callFunc 26 args).run Try.prog w = .ok (.enter 26 args) w:=fun args w=>qy Try.func26 (by kernel_rfl) rfl args w
theorem fd39_1 : FdAt Try.prog 39 1 1 1 false:=FdAt.mk' _ _ Try.underlying39 rfl rfl (fun _=>by kernel_rfl) (fun _=>by kernel_rfl)

theorem conv_mod (n : Int) : IntKind.u8.wrap (n % 256) = ((zh n).toNat : Int):=by
 rw [xm,byteV_toNat,byteV_toNat]; omega
theorem rlink_ad {m : ImageV} (h : RightOk m) {k : LinkV} (hk : k ∈ m.links) : 0 ≤ k.ad ∧ k.ad ≤ 1024:=link_ad h hk
theorem bitS_b (x k : Int) : 0 ≤ bitS x k ∧ bitS x k ≤ 1:=by unfold bitS; omega
theorem shPerm_eq (s : ShareV) (k : Int) : 1 + bitS s.wr k * 2 = j4 s k:=by
 have:=bitS_b s.wr k
 unfold j4
 split <;> omega
theorem share_nn {m : ImageV} (h : RightOk m) {s : ShareV} (hs : s ∈ m.shares) : 0 ≤ s.rd ∧ 0 ≤ s.wr:=by
 have:=h.share s hs
 simp only [jm,Bool.and_eq_true,jx,decide_eq_true_eq] at this
 exact ⟨this.1.1,this.2.1⟩
theorem rpairs_end {m : ImageV} {k : Int} {i : Nat} (hi : i ≤ m.links.length) (hr : z2 m = true ∨ i = 0) (h : (decide (((i : Nat) : Int) < ((m.links.length : Nat) : Int)) && z2 m) = false) : zc m k = prTo m k i:=by
 unfold zc
 cases hm : z2 m
 ·rw [hm] at hr
  rcases hr with hr|rfl
  ·cases hr
  ·rfl
 ·rw [hm,Bool.and_true,decide_eq_false_iff_not] at h
  have : i = m.links.length:=by omega
  rw [this]; rfl

/-- seizin/seizinref17.grant -/
theorem rgrant_c (a b p : Int) (w : World)  :
  C Try.prog 46 [vI a,vI b,vI p] w fun v w'=>v = .agg (z9 (xk (a,b) p)).toArray ∧ Grow w w':=by
 have hs0 : St w (fun _=>False) w [] []:=St.start w _ (by simp)
 refine z8 [.cell 6 39] 12 Try.func46 rfl Try.ntmps46 rfl rfl ?_
 refine qi (qc ?_)
 refine qa rfl (kk (cs:=[.bool false,vI 0,vI 0,vI 0,vI 0,vI 0]) hs0 zv39 rfl rfl ?_)
 intro b1 w2 hb4 hs3
 refine ql (qb (qi (qc ?_)))
 refine qa rfl (qj (v:=vI a) rfl rfl ?_)
 refine qa rfl (qj (v:=vI b) rfl rfl ?_)
 refine qa rfl (qj (v:=vI a) rfl rfl ?_)
 refine qa rfl (qj (v:=vI p) rfl rfl ?_)
 refine qa rfl (jl (ps:=[(0,[.bool true]),(1,[vI a]),(2,[vI b]),(3,[vI a]),(4,[vI p])]) (cells:=[.bool true,vI a,vI b,vI a,vI p,vI 0]) bt39 rfl rfl rfl ?_)
 refine qa rfl (zx (v:=.agg #[.bool true,vI a,vI b,vI a,vI p,vI 0]) (vs:=[.bool true,vI a,vI b,vI a,vI p,vI 0]) (cs':=[.bool true,vI a,vI b,vI a,vI p,vI 0]) hs3 0 rfl rfl rfl sz39 rfl rfl rfl rfl rfl ?_)
 intro w5 hs6
 refine ql (qb (zo ?_))
 refine ⟨.agg #[.bool true,vI a,vI b,vI a,vI p,vI 0],resn [.agg #[.bool true,vI a,vI b,vI a,vI p,vI 0]] ⟨(xc rfl ag39 sz39 (vs:=[.bool true,vI a,vI b,vI a,vI p,vI 0]) (Rd.of_blk (hs6.get 0 rfl) 0 6) rfl),trivial⟩ rfl,?_⟩
 exact ⟨rfl,hs6.base⟩

set_option maxHeartbeats 2000000 in
/-- seizin/seizinref17.Where -/
theorem rwhere_c (m : ImageV) (w : World) (hm : ∀ i ∈ kh m,i.φ w) (hb : ImgB m) (hwr : ∀ s ∈ m.shares,s.wr ≤ 9223372036854775807) :
  C Try.prog 23 [.agg (qn m).toArray] w fun v w'=>(∃ A,v = .agg (layCells A (zg m)).toArray ∧ (∀ i ∈ x2 A (zg m),i.φ w') ∧ (∀ i ∈ x2 A (zg m),∀ b,i.fp b → w.heap.size ≤ b) ∧ LayB A (zg m)) ∧ Grow w w':=by
 have hs0 : St w (fun _=>False) w [] (kh m):=St.start w _ hm
 refine z8 [.cell 2 45] 98 Try.func23 rfl Try.ntmps23 rfl rfl ?_
 refine qi (qc ?_)
 refine qa rfl (jw (v:=.agg (qn m).toArray) (cs:=(qn m)) hs0 rfl rfl rfl ?_)
 intro b1 w2 hb4 hs3
 refine qa rfl (kk (cs:=[.slice none 0 0,.slice none 0 0,.slice none 0 0,.slice none 0 0,vI 0]) hs3 zv45 rfl rfl ?_)
 intro b5 w6 hb8 hs7
 refine ql (qb (qi (qc ?_)))
 refine qa rfl (kk (cs:=[.slice none 0 0,.slice none 0 0,.slice none 0 0,.slice none 0 0,vI 0]) hs7 zv45 rfl rfl ?_)
 intro b9 w10 hb12 hs11
 refine ql (qb (qi (qi (qc ?_))))
 refine qa rfl (qw (vs:=(qn m)) rfl ag26 sz26 (Rd.of_blk (hs11.get 2 rfl) 0 6) rfl rfl ?_)
 refine qa rfl (zi (args:=[.agg (qn m).toArray]) rfl rfl rfl en15 (rrightI_c m _ (hs11.r) hb hwr) ?_)
 rintro _ w13 ⟨rfl,hk15⟩
 have hs14:=hs11.keep hk15
 refine qa rfl (j0 (b:=(z2 m)) rfl rfl ?_)
 refine ql (qb ?_)
 refine k5 (t:=(!(z2 m))) rfl (fun hc16=>?_) (fun hc16=>?_)
 ·try simp only [Bool.and_eq_true,Bool.or_eq_true,Bool.not_eq_true',Bool.and_eq_false_iff,Bool.or_eq_false_iff,Bool.not_eq_false',decide_eq_true_eq,decide_eq_false_iff_not,Bool.and_eq_false_imp] at hc16
  refine qi (qc ?_)
  refine qa rfl (qw (vs:=[.slice none 0 0,.slice none 0 0,.slice none 0 0,.slice none 0 0,vI 0]) rfl ag45 sz45 (Rd.of_blk (hs14.get 0 rfl) 0 5) rfl rfl ?_)
  refine qa rfl (zx (v:=.agg #[.slice none 0 0,.slice none 0 0,.slice none 0 0,.slice none 0 0,vI 0]) (vs:=[.slice none 0 0,.slice none 0 0,.slice none 0 0,.slice none 0 0,vI 0]) (cs':=[.slice none 0 0,.slice none 0 0,.slice none 0 0,.slice none 0 0,vI 0]) hs14 1 rfl rfl rfl sz45 rfl rfl rfl rfl rfl ?_)
  intro w17 hs18
  refine ql (qb (zo (q9 ?_)))
  refine ⟨.agg #[.slice none 0 0,.slice none 0 0,.slice none 0 0,.slice none 0 0,vI 0],resn [.agg #[.slice none 0 0,.slice none 0 0,.slice none 0 0,.slice none 0 0,vI 0]] ⟨(xc rfl ag45 sz45 (vs:=[.slice none 0 0,.slice none 0 0,.slice none 0 0,.slice none 0 0,vI 0]) (Rd.of_blk (hs18.get 1 rfl) 0 5) rfl),trivial⟩ rfl,?_⟩
  have he : zg m = ⟨[],[],[],[],0⟩:=by unfold zg; rw [hc16]; rfl
  exact ⟨⟨⟨none,0,none,0,none,0,none,0⟩,by rw [he]; rfl,by rw [he]; exact lay0_ok,by rw [he]; exact lay0_new,by rw [he]; exact lay0_B⟩,hs18.base⟩
 ·try simp only [Bool.and_eq_true,Bool.or_eq_true,Bool.not_eq_true',Bool.and_eq_false_iff,Bool.or_eq_false_iff,Bool.not_eq_false',decide_eq_true_eq,decide_eq_false_iff_not,Bool.and_eq_false_imp] at hc16
  refine zn (qb (qi ?_))
  have hright : z2 m = true:=by simpa using hc16
  have hok:=jy hright
  have:=hok.n4; have:=hok.s4; have:=hok.h1; have:=hok.h64; have hpe:=pgEnd_b hok
  refine qc ?_
  refine qa rfl (qf (v:=vI 1) rfl rfl ?_)
  refine ql (qb (qi (qi (qc ?_))))
  refine qa rfl (qf (v:=vI 0) rfl rfl ?_)
  refine ql (qb (zy ?_))
  have hs19:=hs14.ownNil 51 2
  have hs20:=hs19.ownNil 51 2
  have hs21:=hs20.ownNil 51 2
  refine kw (fun m_ f_ w_=>∃ k : Nat,∃ a1 : Option Addr,∃ c1 : Nat,∃ a2 : Option Addr,∃ c2 : Nat,∃ a3 : Option Addr,∃ c3 : Nat,m_ = m.comps.length - k ∧ (k ≤ m.comps.length) ∧ f_ 1 = .pointer (some ⟨b1,0,none⟩) ∧ f_ 2 = .pointer (some ⟨b5,0,none⟩) ∧ f_ 3 = .pointer (some ⟨b9,0,none⟩) ∧ f_ 4 = vI (pgAt m k) ∧ f_ 5 = vI ((k : Nat) : Int) ∧ St w (fun _=>False) w_ [ownI 51 2 a1 c1 k ((ks m k).flatMap encR),ownI 51 2 a2 c2 k ((ku m k).flatMap encR),ownI 51 2 a3 c3 k ((kv m k).flatMap encR),blk b9 [.slice a1 k c1,.slice a2 k c2,.slice a3 k c3,.slice none 0 0,vI 0] 45,blk b5 [.slice none 0 0,.slice none 0 0,.slice none 0 0,.slice none 0 0,vI 0] 45,blk b1 (qn m) 26] (kh m)) ?_ ?_
  ·exact ⟨_,0,none,0,none,0,none,0,rfl,by omega,rfl,rfl,rfl,rfl,rfl,hs21⟩
  ·intro m25 f22 w23; rintro ⟨k,a1,c1,a2,c2,a3,c3,rfl,hk1,e26,e27,e28,e29,e30,hs24⟩
   rewrite [qm e26]
   rewrite [qm e27]
   rewrite [qm e28]
   rewrite [qm e29]
   rewrite [qm e30]
   refine qi (qi (qc ?_))
   refine qa rfl (qj (v:=vI ((k : Nat) : Int)) rfl rfl ?_)
   refine qa rfl (qg rfl jq rfl (o':=3) rfl rfl ?_)
   refine qa rfl (qq (v:=.slice m.ca m.comps.length m.ccap) rfl ag22 (qh (hs24.get 5 rfl) rfl) rfl ?_)
   refine qa rfl (qx (len:=m.comps.length) rfl un22 rfl ?_)
   refine qa rfl (qt (k:=.i64) (k':=.i64) (a:=((k : Nat) : Int)) (b:=((m.comps.length : Nat) : Int)) rfl rfl rfl jg ?_)
   refine ql (qb ?_)
   refine zd rfl (fun hc31=>?_) (fun hc31=>?_)
   ·refine zn (qb (qi (zy (qi ?_))))
    have hpb:=pgAt_b hok k (by omega)
    have hcc:=hok.comp _ (List.getElem_mem (by omega : k < m.comps.length))
    have:=hcc.lm; have:=hcc.d1; have:=hcc.d8; have:=hcc.g1; have:=hcc.g16
    have hps:=pgAt_succ (m:=m) (k:=k) (by omega)
    refine qc ?_
    refine qa rfl (qg rfl jq rfl (o':=3) rfl rfl ?_)
    refine qa rfl (qq (v:=.slice m.ca m.comps.length m.ccap) rfl ag22 (qh (hs24.get 5 rfl) rfl) rfl ?_)
    refine qa rfl (qj (v:=vI ((k : Nat) : Int)) rfl rfl ?_)
    obtain ⟨b32,o33,ha34,hs35⟩:=hs24.elem 0 rfl k (by omega)
    refine qa rfl (qs rfl ha34 rfl un22 sz53 (by omega) (by omega) (o':=o33 + k * 2) (by omega) rfl ?_)
    refine qa rfl (qw (vs:=[.slice ((m.comps[k]'(by omega)).a) ((m.comps[k]'(by omega)).code.length) ((m.comps[k]'(by omega)).cap),vI ((m.comps[k]'(by omega)).data)]) rfl ag53 sz53 ((hs35.getR 0 rfl).2) rfl rfl ?_)
    refine qa rfl (kk (cs:=[.slice none 0 0,vI 0]) hs35 zv53 rfl rfl ?_)
    intro b36 w37 hb39 hs38
    refine qa rfl (zx (v:=.agg #[.slice ((m.comps[k]'(by omega)).a) ((m.comps[k]'(by omega)).code.length) ((m.comps[k]'(by omega)).cap),vI ((m.comps[k]'(by omega)).data)]) (vs:=[.slice ((m.comps[k]'(by omega)).a) ((m.comps[k]'(by omega)).code.length) ((m.comps[k]'(by omega)).cap),vI ((m.comps[k]'(by omega)).data)]) (cs':=[.slice ((m.comps[k]'(by omega)).a) ((m.comps[k]'(by omega)).code.length) ((m.comps[k]'(by omega)).cap),vI ((m.comps[k]'(by omega)).data)]) hs38 0 rfl rfl rfl sz53 rfl rfl rfl rfl rfl ?_)
    intro w40 hs41
    refine ql (qb (qi (qc ?_)))
    refine qa rfl (qg rfl fd45_0 rfl (o':=0) rfl rfl ?_)
    refine qa rfl (qq (v:=.slice a1 k c1) rfl ag42 (qh (hs41.get 4 rfl) rfl) rfl ?_)
    refine qa rfl (qj (v:=vI (pgAt m k)) rfl rfl ?_)
    refine qa rfl (qt (v:=vI ((pgAt m k) * 256)) rfl rfl rfl (b_mul (qz (by omega) (by omega))) ?_)
    refine qa rfl (qj (v:=vI (pgAt m k)) rfl rfl ?_)
    refine qa rfl (qt (v:=vI ((pgAt m k) * 256)) rfl rfl rfl (b_mul (qz (by omega) (by omega))) ?_)
    refine qa rfl (qg rfl ym rfl (o':=0) rfl rfl ?_)
    refine qa rfl (qq (v:=.slice ((m.comps[k]'(by omega)).a) ((m.comps[k]'(by omega)).code.length) ((m.comps[k]'(by omega)).cap)) rfl ag27 (qh (hs41.get 0 rfl) rfl) rfl ?_)
    refine qa rfl (qx (len:=((m.comps[k]'(by omega)).code.length)) rfl un27 rfl ?_)
    refine qa rfl (qt (v:=vI (((pgAt m k) * 256) + (((m.comps[k]'(by omega)).code.length : Nat) : Int))) rfl rfl rfl (ki (qz (by omega) (by omega))) ?_)
    refine qa rfl (xe (ps:=[(0,[vI ((pgAt m k) * 256)]),(1,[vI (((pgAt m k) * 256) + (((m.comps[k]'(by omega)).code.length : Nat) : Int))])]) (zero:=[vI 0,vI 0]) (cells:=[vI ((pgAt m k) * 256),vI (((pgAt m k) * 256) + (((m.comps[k]'(by omega)).code.length : Nat) : Int))]) un51 sz3 zv51 rfl rfl rfl rfl ?_)
    refine qa rfl (zz (zs:=[vI 0,vI 0]) (ps:=[(0,[vI ((pgAt m k) * 256),vI (((pgAt m k) * 256) + (((m.comps[k]'(by omega)).code.length : Nat) : Int))])]) (cs:=[vI ((pgAt m k) * 256),vI (((pgAt m k) * 256) + (((m.comps[k]'(by omega)).code.length : Nat) : Int))]) hs41 un42 sz51 zv51 rfl rfl rfl rfl rfl ?_)
    intro b42 w43 hb45 hs44
    refine qa rfl (k7 (n2:=k + 1) (xs2:=(ks m (k + 1)).flatMap encR) hs44 2 rfl rfl rfl un42 ni42 inf51 rfl (Src.rd (news:=[vI ((pgAt m k) * 256),vI (((pgAt m k) * 256) + (((m.comps[k]'(by omega)).code.length : Nat) : Int))]) (Rd.of_blk (hs44.get 0 rfl) 0 2) rfl rfl) (rfl) (code_snoc (by omega)) (by omega) (by omega) rfl ?_)
    intro a46 c47 w48 hs49
    refine qa rfl (qg rfl fd45_0 rfl (o':=0) rfl rfl ?_)
    refine qa rfl (zx (v:=.slice a46 (k + 1) c47) (vs:=[.slice a46 (k + 1) c47]) (cs':=[.slice a46 (k + 1) c47,.slice a2 k c2,.slice a3 k c3,.slice none 0 0,vI 0]) hs49 5 rfl rfl rfl sz42 rfl rfl rfl rfl rfl ?_)
    intro w50 hs51
    refine ql (qb (qi (qc ?_)))
    refine qa rfl (qj (v:=vI (pgAt m k)) rfl rfl ?_)
    refine qa rfl (qg rfl ym rfl (o':=0) rfl rfl ?_)
    refine qa rfl (qq (v:=.slice ((m.comps[k]'(by omega)).a) ((m.comps[k]'(by omega)).code.length) ((m.comps[k]'(by omega)).cap)) rfl ag27 (qh (hs51.get 1 rfl) rfl) rfl ?_)
    refine qa rfl (qx (len:=((m.comps[k]'(by omega)).code.length)) rfl un27 rfl ?_)
    refine qa rfl (qt (v:=vI (((m.comps[k]'(by omega)).code.length + 255 : Nat) : Int)) rfl rfl rfl (ki (qz (by omega) (by omega))) ?_)
    refine qa rfl (qt (v:=vI (cpg (m.comps[k]'(by omega)))) rfl rfl rfl (b_quo (by omega) ((quo_i64 (by omega) (by omega) (by omega)).trans (by unfold cpg; omega))) ?_)
    refine qa rfl (qt (v:=vI (pgAt m k + cpg (m.comps[k]'(by omega)))) rfl rfl rfl (ki (qz (by omega) (by omega))) ?_)
    refine qa rfl (qf (v:=vI (pgAt m k + cpg (m.comps[k]'(by omega)))) rfl rfl ?_)
    refine ql (qb (qi (qc ?_)))
    refine qa rfl (qg rfl fd45_1 rfl (o':=1) rfl rfl ?_)
    refine qa rfl (qq (v:=.slice a2 k c2) rfl ag42 (qh (hs51.get 5 rfl) rfl) rfl ?_)
    refine qa rfl (qj (v:=vI (pgAt m k + cpg (m.comps[k]'(by omega)))) rfl rfl ?_)
    refine qa rfl (qt (v:=vI ((pgAt m k + cpg (m.comps[k]'(by omega))) * 256)) rfl rfl rfl (b_mul (qz (by omega) (by omega))) ?_)
    refine qa rfl (qj (v:=vI (pgAt m k + cpg (m.comps[k]'(by omega)))) rfl rfl ?_)
    refine qa rfl (qg rfl fd53_1 rfl (o':=1) rfl rfl ?_)
    refine qa rfl (qq (v:=vI ((m.comps[k]'(by omega)).data)) rfl ag3 (qh (hs51.get 1 rfl) rfl) rfl ?_)
    refine qa rfl (qt (v:=vI (pgAt m k + cpg (m.comps[k]'(by omega)) + (m.comps[k]'(by omega)).data)) rfl rfl rfl (ki (qz (by omega) (by omega))) ?_)
    refine qa rfl (qt (v:=vI ((pgAt m k + cpg (m.comps[k]'(by omega)) + (m.comps[k]'(by omega)).data) * 256)) rfl rfl rfl (b_mul (qz (by omega) (by omega))) ?_)
    refine qa rfl (xe (ps:=[(0,[vI ((pgAt m k + cpg (m.comps[k]'(by omega))) * 256)]),(1,[vI ((pgAt m k + cpg (m.comps[k]'(by omega)) + (m.comps[k]'(by omega)).data) * 256)])]) (zero:=[vI 0,vI 0]) (cells:=[vI ((pgAt m k + cpg (m.comps[k]'(by omega))) * 256),vI ((pgAt m k + cpg (m.comps[k]'(by omega)) + (m.comps[k]'(by omega)).data) * 256)]) un51 sz3 zv51 rfl rfl rfl rfl ?_)
    refine qa rfl (zz (zs:=[vI 0,vI 0]) (ps:=[(0,[vI ((pgAt m k + cpg (m.comps[k]'(by omega))) * 256),vI ((pgAt m k + cpg (m.comps[k]'(by omega)) + (m.comps[k]'(by omega)).data) * 256)])]) (cs:=[vI ((pgAt m k + cpg (m.comps[k]'(by omega))) * 256),vI ((pgAt m k + cpg (m.comps[k]'(by omega)) + (m.comps[k]'(by omega)).data) * 256)]) hs51 un42 sz51 zv51 rfl rfl rfl rfl rfl ?_)
    intro b52 w53 hb55 hs54
    refine qa rfl (k7 (n2:=k + 1) (xs2:=(ku m (k + 1)).flatMap encR) hs54 4 rfl rfl rfl un42 ni42 inf51 rfl (Src.rd (news:=[vI ((pgAt m k + cpg (m.comps[k]'(by omega))) * 256),vI ((pgAt m k + cpg (m.comps[k]'(by omega)) + (m.comps[k]'(by omega)).data) * 256)]) (Rd.of_blk (hs54.get 0 rfl) 0 2) rfl rfl) (rfl) (data_snoc (by omega)) (by omega) (by omega) rfl ?_)
    intro a56 c57 w58 hs59
    refine qa rfl (qg rfl fd45_1 rfl (o':=1) rfl rfl ?_)
    refine qa rfl (zx (v:=.slice a56 (k + 1) c57) (vs:=[.slice a56 (k + 1) c57]) (cs':=[.slice a46 (k + 1) c47,.slice a56 (k + 1) c57,.slice a3 k c3,.slice none 0 0,vI 0]) hs59 6 rfl rfl rfl sz42 rfl rfl rfl rfl rfl ?_)
    intro w60 hs61
    refine ql (qb (qi (qc ?_)))
    refine qa rfl (qj (v:=vI (pgAt m k + cpg (m.comps[k]'(by omega)))) rfl rfl ?_)
    refine qa rfl (qg rfl fd53_1 rfl (o':=1) rfl rfl ?_)
    refine qa rfl (qq (v:=vI ((m.comps[k]'(by omega)).data)) rfl ag3 (qh (hs61.get 2 rfl) rfl) rfl ?_)
    refine qa rfl (qt (v:=vI (pgAt m k + cpg (m.comps[k]'(by omega)) + (m.comps[k]'(by omega)).data)) rfl rfl rfl (ki (qz (by omega) (by omega))) ?_)
    refine qa rfl (qf (v:=vI (pgAt m k + cpg (m.comps[k]'(by omega)) + (m.comps[k]'(by omega)).data)) rfl rfl ?_)
    refine ql (qb (qi (qc ?_)))
    refine qa rfl (qg rfl fd45_2 rfl (o':=2) rfl rfl ?_)
    refine qa rfl (qq (v:=.slice a3 k c3) rfl ag42 (qh (hs61.get 6 rfl) rfl) rfl ?_)
    refine qa rfl (qj (v:=vI (pgAt m k + cpg (m.comps[k]'(by omega)) + (m.comps[k]'(by omega)).data)) rfl rfl ?_)
    refine qa rfl (qt (v:=vI ((pgAt m k + cpg (m.comps[k]'(by omega)) + (m.comps[k]'(by omega)).data) * 256)) rfl rfl rfl (b_mul (qz (by omega) (by omega))) ?_)
    refine qa rfl (qj (v:=vI (pgAt m k + cpg (m.comps[k]'(by omega)) + (m.comps[k]'(by omega)).data)) rfl rfl ?_)
    refine qa rfl (qg rfl fd26_1 rfl (o':=1) rfl rfl ?_)
    refine qa rfl (qq (v:=vI m.heap) rfl ag3 (qh (hs61.get 8 rfl) rfl) rfl ?_)
    refine qa rfl (qt (v:=vI (pgAt m k + cpg (m.comps[k]'(by omega)) + (m.comps[k]'(by omega)).data + m.heap)) rfl rfl rfl (ki (qz (by omega) (by omega))) ?_)
    refine qa rfl (qt (v:=vI ((pgAt m k + cpg (m.comps[k]'(by omega)) + (m.comps[k]'(by omega)).data + m.heap) * 256)) rfl rfl rfl (b_mul (qz (by omega) (by omega))) ?_)
    refine qa rfl (xe (ps:=[(0,[vI ((pgAt m k + cpg (m.comps[k]'(by omega)) + (m.comps[k]'(by omega)).data) * 256)]),(1,[vI ((pgAt m k + cpg (m.comps[k]'(by omega)) + (m.comps[k]'(by omega)).data + m.heap) * 256)])]) (zero:=[vI 0,vI 0]) (cells:=[vI ((pgAt m k + cpg (m.comps[k]'(by omega)) + (m.comps[k]'(by omega)).data) * 256),vI ((pgAt m k + cpg (m.comps[k]'(by omega)) + (m.comps[k]'(by omega)).data + m.heap) * 256)]) un51 sz3 zv51 rfl rfl rfl rfl ?_)
    refine qa rfl (zz (zs:=[vI 0,vI 0]) (ps:=[(0,[vI ((pgAt m k + cpg (m.comps[k]'(by omega)) + (m.comps[k]'(by omega)).data) * 256),vI ((pgAt m k + cpg (m.comps[k]'(by omega)) + (m.comps[k]'(by omega)).data + m.heap) * 256)])]) (cs:=[vI ((pgAt m k + cpg (m.comps[k]'(by omega)) + (m.comps[k]'(by omega)).data) * 256),vI ((pgAt m k + cpg (m.comps[k]'(by omega)) + (m.comps[k]'(by omega)).data + m.heap) * 256)]) hs61 un42 sz51 zv51 rfl rfl rfl rfl rfl ?_)
    intro b62 w63 hb65 hs64
    refine qa rfl (k7 (n2:=k + 1) (xs2:=(kv m (k + 1)).flatMap encR) hs64 6 rfl rfl rfl un42 ni42 inf51 rfl (Src.rd (news:=[vI ((pgAt m k + cpg (m.comps[k]'(by omega)) + (m.comps[k]'(by omega)).data) * 256),vI ((pgAt m k + cpg (m.comps[k]'(by omega)) + (m.comps[k]'(by omega)).data + m.heap) * 256)]) (Rd.of_blk (hs64.get 0 rfl) 0 2) rfl rfl) (rfl) (heap_snoc (by omega)) (by omega) (by omega) rfl ?_)
    intro a66 c67 w68 hs69
    refine qa rfl (qg rfl fd45_2 rfl (o':=2) rfl rfl ?_)
    refine qa rfl (zx (v:=.slice a66 (k + 1) c67) (vs:=[.slice a66 (k + 1) c67]) (cs':=[.slice a46 (k + 1) c47,.slice a56 (k + 1) c57,.slice a66 (k + 1) c67,.slice none 0 0,vI 0]) hs69 7 rfl rfl rfl sz42 rfl rfl rfl rfl rfl ?_)
    intro w70 hs71
    refine ql (qb (qc ?_))
    refine qa rfl (qj (v:=vI (pgAt m k + cpg (m.comps[k]'(by omega)) + (m.comps[k]'(by omega)).data)) rfl rfl ?_)
    refine qa rfl (qg rfl fd26_1 rfl (o':=1) rfl rfl ?_)
    refine qa rfl (qq (v:=vI m.heap) rfl ag3 (qh (hs71.get 9 rfl) rfl) rfl ?_)
    refine qa rfl (qt (v:=vI (pgAt m (k + 1))) rfl rfl rfl (ki (qz (by omega) (by omega))) ?_)
    refine qa rfl (qf (v:=vI (pgAt m (k + 1))) rfl rfl ?_)
    refine ql (z7 (qb (qc ?_)))
    refine qa rfl (qj (v:=vI ((k : Nat) : Int)) rfl rfl ?_)
    refine qa rfl (qt (v:=vI ((k + 1 : Nat) : Int)) rfl rfl rfl (ki (qz (by omega) (by omega))) ?_)
    refine qa rfl (qf (v:=vI ((k + 1 : Nat) : Int)) rfl rfl ?_)
    refine ql (qb ?_)
    refine ⟨_,?_,k + 1,a46,c47,a56,c57,a66,c67,rfl,by omega,rfl,rfl,rfl,rfl,rfl,hs71.popR.popM.popM.popM.popM⟩
    omega
   ·refine ja (z0 (z0 (ke (qb (qi (qi (qc ?_)))))))
    refine qa rfl (qf (v:=vI 0) rfl rfl ?_)
    refine ql (qb (zy ?_))
    obtain rfl : k = m.comps.length:=by omega
    have hs72:=hs24.ownNil 3 1
    refine kw (fun m_ f_ w_=>∃ j : Nat,∃ a4 : Option Addr,∃ c4 : Nat,m_ = m.shares.length - j ∧ (j ≤ m.shares.length) ∧ f_ 1 = .pointer (some ⟨b1,0,none⟩) ∧ f_ 2 = .pointer (some ⟨b5,0,none⟩) ∧ f_ 3 = .pointer (some ⟨b9,0,none⟩) ∧ f_ 4 = vI (z5 m + ((j : Nat) : Int)) ∧ f_ 7 = vI ((j : Nat) : Int) ∧ St w (fun _=>False) w_ [ownI 3 1 a4 c4 j ((j3 m j).flatMap encI),ownI 51 2 a1 c1 m.comps.length ((ks m m.comps.length).flatMap encR),ownI 51 2 a2 c2 m.comps.length ((ku m m.comps.length).flatMap encR),ownI 51 2 a3 c3 m.comps.length ((kv m m.comps.length).flatMap encR),blk b9 [.slice a1 m.comps.length c1,.slice a2 m.comps.length c2,.slice a3 m.comps.length c3,.slice a4 j c4,vI 0] 45,blk b5 [.slice none 0 0,.slice none 0 0,.slice none 0 0,.slice none 0 0,vI 0] 45,blk b1 (qn m) 26] (kh m)) ?_ ?_
    ·exact ⟨_,0,none,0,rfl,by omega,rfl,rfl,rfl,(congrArg (Value.int .i64) (Int.add_zero (z5 m)).symm),rfl,hs72⟩
    ·intro m76 f73 w74; rintro ⟨j,a4,c4,rfl,hk2,e77,e78,e79,e80,e81,hs75⟩
     rewrite [qm e77]
     rewrite [qm e78]
     rewrite [qm e79]
     rewrite [qm e80]
     rewrite [qm e81]
     refine qi (qi (qc ?_))
     refine qa rfl (qj (v:=vI ((j : Nat) : Int)) rfl rfl ?_)
     refine qa rfl (qg rfl xo rfl (o':=5) rfl rfl ?_)
     refine qa rfl (qq (v:=.slice m.sa m.shares.length m.scap) rfl ag24 (qh (hs75.get 6 rfl) rfl) rfl ?_)
     refine qa rfl (qx (len:=m.shares.length) rfl un24 rfl ?_)
     refine qa rfl (qt (k:=.i64) (k':=.i64) (a:=((j : Nat) : Int)) (b:=((m.shares.length : Nat) : Int)) rfl rfl rfl jg ?_)
     refine ql (qb ?_)
     refine zd rfl (fun hc82=>?_) (fun hc82=>?_)
     ·refine zn (qb (qi (zy (qi (qc ?_)))))
      refine qa rfl (qg rfl fd45_3 rfl (o':=3) rfl rfl ?_)
      refine qa rfl (qq (v:=.slice a4 j c4) rfl ag43 (qh (hs75.get 4 rfl) rfl) rfl ?_)
      refine qa rfl (qj (v:=vI (z5 m + ((j : Nat) : Int))) rfl rfl ?_)
      refine qa rfl (qt (v:=vI ((z5 m + ((j : Nat) : Int)) * 256)) rfl rfl rfl (b_mul (qz (by omega) (by omega))) ?_)
      refine qa rfl (zz (zs:=[vI 0]) (ps:=[(0,[vI ((z5 m + ((j : Nat) : Int)) * 256)])]) (cs:=[vI ((z5 m + ((j : Nat) : Int)) * 256)]) hs75 un43 sz3 zv3 rfl rfl rfl rfl rfl ?_)
      intro b83 w84 hb86 hs85
      refine qa rfl (k7 (n2:=j + 1) (xs2:=(j3 m (j + 1)).flatMap encI) hs85 1 rfl rfl rfl un43 ni43 inf3 rfl (Src.rd (news:=[vI ((z5 m + ((j : Nat) : Int)) * 256)]) (Rd.of_blk (hs85.get 0 rfl) 0 1) rfl rfl) (rfl) (sh_snoc m j) (by omega) (by omega) rfl ?_)
      intro a87 c88 w89 hs90
      refine qa rfl (qg rfl fd45_3 rfl (o':=3) rfl rfl ?_)
      refine qa rfl (zx (v:=.slice a87 (j + 1) c88) (vs:=[.slice a87 (j + 1) c88]) (cs':=[.slice a1 m.comps.length c1,.slice a2 m.comps.length c2,.slice a3 m.comps.length c3,.slice a87 (j + 1) c88,vI 0]) hs90 5 rfl rfl rfl sz43 rfl rfl rfl rfl rfl ?_)
      intro w91 hs92
      refine ql (qb (qc ?_))
      refine qa rfl (qj (v:=vI (z5 m + ((j : Nat) : Int))) rfl rfl ?_)
      refine qa rfl (qt (v:=vI (z5 m + ((j + 1 : Nat) : Int))) rfl rfl rfl (ki (qz (by omega) (by omega))) ?_)
      refine qa rfl (qf (v:=vI (z5 m + ((j + 1 : Nat) : Int))) rfl rfl ?_)
      refine ql (z7 (qb (qc ?_)))
      refine qa rfl (qj (v:=vI ((j : Nat) : Int)) rfl rfl ?_)
      refine qa rfl (qt (v:=vI ((j + 1 : Nat) : Int)) rfl rfl rfl (ki (qz (by omega) (by omega))) ?_)
      refine qa rfl (qf (v:=vI ((j + 1 : Nat) : Int)) rfl rfl ?_)
      refine ql (qb ?_)
      refine ⟨_,?_,j + 1,a87,c88,rfl,by omega,rfl,rfl,rfl,rfl,rfl,hs92.popM⟩
      omega
     ·refine ja (z0 (z0 (ke (qb (qi (qc ?_))))))
      refine qa rfl (qj (v:=vI (z5 m + ((j : Nat) : Int))) rfl rfl ?_)
      refine qa rfl (qg rfl fd45_4 rfl (o':=4) rfl rfl ?_)
      refine qa rfl (zx (v:=vI (z5 m + ((j : Nat) : Int))) (vs:=[vI (z5 m + ((j : Nat) : Int))]) (cs':=[.slice a1 m.comps.length c1,.slice a2 m.comps.length c2,.slice a3 m.comps.length c3,.slice a4 j c4,vI (z5 m + ((j : Nat) : Int))]) hs75 4 rfl rfl rfl sz3 rfl rfl rfl rfl rfl ?_)
      intro w93 hs94
      refine ql (qb (qi (qc ?_)))
      refine qa rfl (qw (vs:=[.slice a1 m.comps.length c1,.slice a2 m.comps.length c2,.slice a3 m.comps.length c3,.slice a4 j c4,vI (z5 m + ((j : Nat) : Int))]) rfl ag45 sz45 (Rd.of_blk (hs94.get 4 rfl) 0 5) rfl rfl ?_)
      refine qa rfl (zx (v:=.agg #[.slice a1 m.comps.length c1,.slice a2 m.comps.length c2,.slice a3 m.comps.length c3,.slice a4 j c4,vI (z5 m + ((j : Nat) : Int))]) (vs:=[.slice a1 m.comps.length c1,.slice a2 m.comps.length c2,.slice a3 m.comps.length c3,.slice a4 j c4,vI (z5 m + ((j : Nat) : Int))]) (cs':=[.slice a1 m.comps.length c1,.slice a2 m.comps.length c2,.slice a3 m.comps.length c3,.slice a4 j c4,vI (z5 m + ((j : Nat) : Int))]) hs94 5 rfl rfl rfl sz45 rfl rfl rfl rfl rfl ?_)
      intro w95 hs96
      refine ql (qb (zo ?_))
      refine ⟨.agg #[.slice a1 m.comps.length c1,.slice a2 m.comps.length c2,.slice a3 m.comps.length c3,.slice a4 j c4,vI (z5 m + ((j : Nat) : Int))],resn [.agg #[.slice a1 m.comps.length c1,.slice a2 m.comps.length c2,.slice a3 m.comps.length c3,.slice a4 j c4,vI (z5 m + ((j : Nat) : Int))]] ⟨(xc rfl ag45 sz45 (vs:=[.slice a1 m.comps.length c1,.slice a2 m.comps.length c2,.slice a3 m.comps.length c3,.slice a4 j c4,vI (z5 m + ((j : Nat) : Int))]) (Rd.of_blk (hs96.get 5 rfl) 0 5) rfl),trivial⟩ rfl,?_⟩
      obtain rfl : j = m.shares.length:=by omega
      have he:=whereS_yes hright
      exact ⟨⟨⟨a1,c1,a2,c2,a3,c3,a4,c4⟩,by rw [he]; exact lay_v,by rw [he]; exact lay_ok (hs96.get 1 rfl) (hs96.get 2 rfl) (hs96.get 3 rfl) (hs96.get 0 rfl),by rw [he]; exact lay_new (hs96.newB 1 rfl) (hs96.newB 2 rfl) (hs96.newB 3 rfl) (hs96.newB 0 rfl),by rw [he]; exact lay_B (hs96.get 1 rfl) (hs96.get 2 rfl) (hs96.get 3 rfl) (hs96.get 0 rfl)⟩,hs96.base⟩


theorem rwhere_r (m : ImageV) (hr : z2 m = true) (w : World) (hm : ∀ i ∈ kh m,i.φ w) (hb : ImgB m) (hwr : ∀ s ∈ m.shares,s.wr ≤ 9223372036854775807) :
  C Try.prog 23 [.agg (qn m).toArray] w fun v w' =>
   (∃ a1 c1 a2 c2 a3 c3 a4 c4,v = .agg #[.slice a1 m.comps.length c1,.slice a2 m.comps.length c2,.slice a3 m.comps.length c3,.slice a4 m.shares.length c4,vI (z5 m + ((m.shares.length : Nat) : Int))] ∧
    ∀ i ∈ [arrI encR 2 a1 (ks m m.comps.length),arrI encR 2 a2 (ku m m.comps.length),arrI encR 2 a3 (kv m m.comps.length),arrI encI 1 a4 (j3 m m.shares.length)],i.φ w' ∧ ∀ b,i.fp b → w.heap.size ≤ b) ∧ Grow w w':=by
 refine C.mono (rwhere_c m w hm hb hwr) ?_
 rintro v w' ⟨⟨A,rfl,h1,h2,h3⟩,hk⟩
 have he:=whereS_yes hr
 rw [he] at h1 h2
 refine ⟨⟨A.a1,A.c1,A.a2,A.c2,A.a3,A.c3,A.a4,A.c4,by rw [he,← lay_v],fun i hi=>⟨h1 i hi,h2 i hi⟩⟩,hk⟩

set_option maxHeartbeats 3000000 in
/-- seizin/seizinref17.Grants -/
theorem rgrants_c (m : ImageV) (k : Int) (w : World) (hm : ∀ i ∈ kh m,i.φ w) (hb : ImgB m) (hwr : ∀ s ∈ m.shares,s.wr ≤ 9223372036854775807) :
  C Try.prog 26 [.agg (qn m).toArray,vI k] w fun v w'=>(∃ a2 c2,v = .slice a2 (zr m k).length c2 ∧ (ownI 39 6 a2 c2 (zr m k).length ((zr m k).flatMap z9)).φ w' ∧ ∀ x,(ownI 39 6 a2 c2 (zr m k).length ((zr m k).flatMap z9)).fp x → w.heap.size ≤ x) ∧ Grow w w':=by
 have hs0 : St w (fun _=>False) w [] (kh m):=St.start w _ hm
 refine z8 [.tmp 4] 100 Try.func26 rfl Try.ntmps26 rfl rfl ?_
 refine qi (qc ?_)
 refine qa rfl (jw (v:=.agg (qn m).toArray) (cs:=(qn m)) hs0 rfl rfl rfl ?_)
 intro b1 w2 hb4 hs3
 refine qa rfl (qf (v:=.slice none 0 0) rfl rfl ?_)
 refine ql (qb (qi (qi (qc ?_))))
 refine qa rfl (qw (vs:=(qn m)) rfl ag26 sz26 (Rd.of_blk (hs3.get 0 rfl) 0 6) rfl rfl ?_)
 refine qa rfl (zi (args:=[.agg (qn m).toArray]) rfl rfl rfl en15 (rrightI_c m _ (hs3.r) hb hwr) ?_)
 rintro _ w5 ⟨rfl,hk7⟩
 have hs6:=hs3.keep hk7
 refine qa rfl (j0 (b:=(z2 m)) rfl rfl ?_)
 refine qa rfl (qj (v:=.bool (!(z2 m))) rfl rfl ?_)
 refine q4 (v:=vI k) rfl rfl rfl rfl (fun hg8=>qj (v:=vI k) rfl rfl ⟨rfl,rfl⟩) ?_
 refine q4 (v:=.bool (decide (k < 0))) rfl rfl rfl rfl (fun hg9=>qt (k:=.i64) (k':=.i64) (a:=k) (b:=0) (show ev _ _ = vI k from if_pos hg9) rfl rfl jg ⟨rfl,rfl⟩) ?_
 refine qa rfl (ka rfl (jk _ _) rfl ?_)
 refine qa rfl (qj (v:=.bool ((!(z2 m)) || decide (k < 0))) rfl rfl ?_)
 refine q4 (v:=vI k) rfl rfl rfl rfl (fun hg10=>qj (v:=vI k) rfl rfl ⟨rfl,rfl⟩) ?_
 refine q4 (v:=.pointer (some ⟨b1,3,none⟩)) rfl rfl rfl rfl (fun hg11=>qg rfl jq rfl (o':=3) rfl rfl ⟨rfl,rfl⟩) ?_
 refine q4 (v:=.slice m.ca m.comps.length m.ccap) rfl rfl rfl rfl (fun hg12=>qq (v:=.slice m.ca m.comps.length m.ccap) (show ev _ _ = .pointer (some ⟨b1,3,none⟩) from if_pos hg12) ag22 (qh (hs6.get 0 rfl) rfl) rfl ⟨rfl,rfl⟩) ?_
 refine q4 (v:=vI ((m.comps.length : Nat) : Int)) rfl rfl rfl rfl (fun hg13=>qx (len:=m.comps.length) (show ev _ _ = .slice m.ca m.comps.length m.ccap from if_pos hg13) un22 rfl ⟨rfl,rfl⟩) ?_
 refine q4 (v:=.bool (decide (((m.comps.length : Nat) : Int) ≤ k))) rfl rfl rfl rfl (fun hg14=>qt (k:=.i64) (k':=.i64) (a:=k) (b:=((m.comps.length : Nat) : Int)) (show ev _ _ = vI k from if_pos hg14) (show ev _ _ = vI ((m.comps.length : Nat) : Int) from if_pos hg14) rfl b_geq ⟨rfl,rfl⟩) ?_
 refine qa rfl (ka rfl (jk _ _) rfl ?_)
 refine ql (qb ?_)
 refine k5 (t:=(((!(z2 m)) || decide (k < 0)) || (decide (((m.comps.length : Nat) : Int) ≤ k)))) rfl (fun hc15=>?_) (fun hc15=>?_)
 ·try simp only [Bool.and_eq_true,Bool.or_eq_true,Bool.not_eq_true',Bool.and_eq_false_iff,Bool.or_eq_false_iff,Bool.not_eq_false',decide_eq_true_eq,decide_eq_false_iff_not,Bool.and_eq_false_imp] at hc15
  refine qi (qc ?_)
  refine qa rfl (qf (v:=.slice none 0 0) rfl rfl ?_)
  refine ql (qb (zo (q9 ?_)))
  refine ⟨.slice none 0 0,res1 rfl,?_⟩
  have he:=grants_no (m:=m) (k:=k) hc15
  exact ⟨⟨none,0,by rw [he]; rfl,by rw [he]; exact ⟨rfl,Nat.le_refl _,.inl ⟨rfl,rfl⟩⟩,fun x ⟨o,e⟩=>by cases e⟩,hs6.base⟩
 ·try simp only [Bool.and_eq_true,Bool.or_eq_true,Bool.not_eq_true',Bool.and_eq_false_iff,Bool.or_eq_false_iff,Bool.not_eq_false',decide_eq_true_eq,decide_eq_false_iff_not,Bool.and_eq_false_imp] at hc15
  refine zn (qb (qi ?_))
  have hright : z2 m = true:=hc15.1.1
  have hnn : 0 ≤ k ∧ k < m.comps.length:=by have:=hc15.1.2; have:=hc15.2; omega
  have hok:=jy hright
  have:=hok.n4; have:=hok.s4
  refine qc ?_
  refine qa rfl (qw (vs:=(qn m)) rfl ag26 sz26 (Rd.of_blk (hs6.get 0 rfl) 0 6) rfl rfl ?_)
  refine qa rfl (zi (args:=[.agg (qn m).toArray]) rfl rfl rfl en23 (rwhere_r m hright _ (hs6.r) hb hwr) ?_)
  rintro _ w24 ⟨⟨a16,c17,a18,c19,a20,c21,a22,c23,rfl,hr26⟩,hk27⟩
  have hs25:=hs6.addRf hk27 [arrI encR 2 a16 (ks m m.comps.length),arrI encR 2 a18 (ku m m.comps.length),arrI encR 2 a20 (kv m m.comps.length),arrI encI 1 a22 (j3 m m.shares.length)] hr26
  refine qa rfl (kk (cs:=[.slice none 0 0,.slice none 0 0,.slice none 0 0,.slice none 0 0,vI 0]) hs25 zv45 rfl rfl ?_)
  intro b28 w29 hb31 hs30
  refine qa rfl (zx (v:=.agg #[.slice a16 m.comps.length c17,.slice a18 m.comps.length c19,.slice a20 m.comps.length c21,.slice a22 m.shares.length c23,vI (z5 m + ((m.shares.length : Nat) : Int))]) (vs:=[.slice a16 m.comps.length c17,.slice a18 m.comps.length c19,.slice a20 m.comps.length c21,.slice a22 m.shares.length c23,vI (z5 m + ((m.shares.length : Nat) : Int))]) (cs':=[.slice a16 m.comps.length c17,.slice a18 m.comps.length c19,.slice a20 m.comps.length c21,.slice a22 m.shares.length c23,vI (z5 m + ((m.shares.length : Nat) : Int))]) hs30 0 rfl rfl rfl sz45 rfl rfl rfl rfl rfl ?_)
  intro w32 hs33
  refine ql (qb (qi ?_))
  obtain ⟨b34,o35,ha36,hs37⟩:=hs33.elem 0 rfl k.toNat (by rw [codesTo_len]; omega)
  rw [codesTo_get] at hs37
  obtain ⟨b38,o39,ha40,hs41⟩:=hs37.elem 2 rfl k.toNat (by rw [datasTo_len]; omega)
  rw [datasTo_get] at hs41
  refine jc js (show St _ _ _ [blk b28 [.slice a16 m.comps.length c17,.slice a18 m.comps.length c19,.slice a20 m.comps.length c21,.slice a22 m.shares.length c23,vI (z5 m + ((m.shares.length : Nat) : Int))] 45,blk b1 (qn m) 26] _ from hs41) (fun i_=>match i_ with|31=>some ([55],fun vs_=>match vs_ with|[x55]=>blk (vblk x55) [.bool true,vI ((qr m k.toNat).1),vI ((qr m k.toNat).2),vI ((qr m k.toNat).1),vI 5,vI 0,.bool true,vI ((qv m k.toNat).1),vI ((qv m k.toNat).2),vI ((qv m k.toNat).1),vI 27,vI 0,.bool true,vI (16 + k),vI ((16 + k) + 1),vI (16 + k),vI 96,vI 0] 39|_=>emp)|32=>some ([6],fun vs_=>match vs_ with|[x6]=>blk (vblk x6) [.bool true,vI ((qr m k.toNat).1),vI ((qr m k.toNat).2),vI ((qr m k.toNat).1),vI 5,vI 0,.bool true,vI ((qv m k.toNat).1),vI ((qv m k.toNat).2),vI ((qv m k.toNat).1),vI 27,vI 0,.bool true,vI (16 + k),vI ((16 + k) + 1),vI (16 + k),vI 96,vI 0] 39|_=>emp)|_=>none) (fun i_=>match i_ with|32=>[31]|_=>[]) (fun i_=>match i_ with|1=>[33]|7=>[33]|14=>[33]|20=>[33]|_=>[]) (fun i_=>match i_ with|1=>[0]|3=>[1,2]|4=>[3]|5=>[4]|7=>[6]|9=>[7,8]|10=>[9]|11=>[10]|12=>[5,11]|14=>[13]|16=>[14,15]|17=>[16]|18=>[17]|20=>[19]|22=>[20,21]|23=>[22]|24=>[23]|25=>[18,24]|27=>[26]|29=>[28]|30=>[27,29]|31=>[12,25,30]|32=>[31]|_=>[]) [32,33,34,0,1,2,3,4,5,6,7,8,9,10,11,12,13,14,15,16,17,18,19,20,21,22,23,24,25,26,27,28,29,30,35,36,37,38,39,40,41,42,43,44,45,46,47,48,49,50,51,52,53,54,55,56,57,58,59,60,61,62,63,64,65,66,67] [32] (fun i_ v_=>match i_ with|0=>v_ = .pointer (some ⟨b28,0,none⟩)|1=>v_ = .slice a16 m.comps.length c17|2=>v_ = vI k|3=>v_ = .pointer (some ⟨b34,o35 + k.toNat * 2,none⟩)|4=>v_ = .pointer (some ⟨b34,o35 + k.toNat * 2,none⟩)|5=>v_ = vI ((qr m k.toNat).1)|6=>v_ = .pointer (some ⟨b28,0,none⟩)|7=>v_ = .slice a16 m.comps.length c17|8=>v_ = vI k|9=>v_ = .pointer (some ⟨b34,o35 + k.toNat * 2,none⟩)|10=>v_ = .pointer (some ⟨b34,o35 + k.toNat * 2 + 1,none⟩)|11=>v_ = vI ((qr m k.toNat).2)|12=>v_ = .agg #[.bool true,vI ((qr m k.toNat).1),vI ((qr m k.toNat).2),vI ((qr m k.toNat).1),vI 5,vI 0]|13=>v_ = .pointer (some ⟨b28,1,none⟩)|14=>v_ = .slice a18 m.comps.length c19|15=>v_ = vI k|16=>v_ = .pointer (some ⟨b38,o39 + k.toNat * 2,none⟩)|17=>v_ = .pointer (some ⟨b38,o39 + k.toNat * 2,none⟩)|18=>v_ = vI ((qv m k.toNat).1)|19=>v_ = .pointer (some ⟨b28,1,none⟩)|20=>v_ = .slice a18 m.comps.length c19|21=>v_ = vI k|22=>v_ = .pointer (some ⟨b38,o39 + k.toNat * 2,none⟩)|23=>v_ = .pointer (some ⟨b38,o39 + k.toNat * 2 + 1,none⟩)|24=>v_ = vI ((qv m k.toNat).2)|25=>v_ = .agg #[.bool true,vI ((qv m k.toNat).1),vI ((qv m k.toNat).2),vI ((qv m k.toNat).1),vI 27,vI 0]|26=>v_ = vI k|27=>v_ = vI (16 + k)|28=>v_ = vI k|29=>v_ = vI ((16 + k) + 1)|30=>v_ = .agg #[.bool true,vI (16 + k),vI ((16 + k) + 1),vI (16 + k),vI 96,vI 0]|31=>∃ b51 : Nat,v_ = .slice (some ⟨b51,0,none⟩) 3 3|32=>∃ b55 : Nat,v_ = .slice (some ⟨b55,0,none⟩) 3 3|_=>True) (by kernel_rfl) (by kernel_rfl) ⟨?_,?_,?_,?_,?_,?_,?_,?_,?_,?_,?_,?_,?_,?_,?_,?_,?_,?_,?_,?_,?_,?_,?_,?_,?_,?_,?_,?_,?_,?_,?_,?_,?_,trivial⟩ ?_
  ·intro f0_ w0_ X0_ qp qo qu qk
   have hb5 : f0_ 5 = .pointer (some ⟨b28,0,none⟩):=(qp 5 rfl)
   refine qe rfl (qg hb5 fd45_0 rfl (o':=0) rfl rfl ?_)
   exact ⟨.pointer (some ⟨b28,0,none⟩),rfl,rfl,qk⟩
  ·intro f1_ w1_ X1_ qp qo qu qk
   obtain ⟨hu0,-⟩:=qo
   have hu0 : f1_ 24 = .pointer (some ⟨b28,0,none⟩):=hu0
   obtain ⟨hr33,-⟩:=qu
   have hr33 : Item.φ (blk b28 [.slice a16 m.comps.length c17,.slice a18 m.comps.length c19,.slice a20 m.comps.length c21,.slice a22 m.shares.length c23,vI (z5 m + ((m.shares.length : Nat) : Int))] 45) w1_:=hr33
   refine qe rfl (qq (v:=.slice a16 m.comps.length c17) hu0 ag42 (qh (hr33) rfl) rfl ?_)
   exact ⟨.slice a16 m.comps.length c17,rfl,rfl,qk⟩
  ·intro f2_ w2_ X2_ qp qo qu qk
   have hb1 : f2_ 1 = vI k:=(qp 1 rfl)
   refine qe rfl (qj (v:=vI k) hb1 rfl ?_)
   exact ⟨vI k,rfl,rfl,qk⟩
  ·intro f3_ w3_ X3_ qp qo qu qk
   obtain ⟨hu1,hu2,-⟩:=qo
   have hu1 : f3_ 25 = .slice a16 m.comps.length c17:=hu1
   have hu2 : f3_ 26 = vI k:=hu2
   refine qe rfl (qs hu1 ha36 hu2 un42 sz51 (by omega) (by omega) (o':=o35 + k.toNat * 2) (by omega) rfl ?_)
   exact ⟨.pointer (some ⟨b34,o35 + k.toNat * 2,none⟩),rfl,rfl,qk⟩
  ·intro f4_ w4_ X4_ qp qo qu qk
   obtain ⟨hu3,-⟩:=qo
   have hu3 : f4_ 27 = .pointer (some ⟨b34,o35 + k.toNat * 2,none⟩):=hu3
   refine qe rfl (k6 hu3 rfl un51 sz3 (by omega) (by omega) (o':=o35 + k.toNat * 2) (by omega) rfl ?_)
   exact ⟨.pointer (some ⟨b34,o35 + k.toNat * 2,none⟩),rfl,rfl,qk⟩
  ·intro f5_ w5_ X5_ qp qo qu qk
   obtain ⟨hu4,-⟩:=qo
   have hu4 : f5_ 28 = .pointer (some ⟨b34,o35 + k.toNat * 2,none⟩):=hu4
   refine qe rfl (qq (v:=vI ((qr m k.toNat).1)) hu4 ag3 ((qk.getR 1 rfl).2 0 _ rfl) rfl ?_)
   exact ⟨vI ((qr m k.toNat).1),rfl,rfl,qk⟩
  ·intro f6_ w6_ X6_ qp qo qu qk
   have hb5 : f6_ 5 = .pointer (some ⟨b28,0,none⟩):=(qp 5 rfl)
   refine qe rfl (qg hb5 fd45_0 rfl (o':=0) rfl rfl ?_)
   exact ⟨.pointer (some ⟨b28,0,none⟩),rfl,rfl,qk⟩
  ·intro f7_ w7_ X7_ qp qo qu qk
   obtain ⟨hu6,-⟩:=qo
   have hu6 : f7_ 30 = .pointer (some ⟨b28,0,none⟩):=hu6
   obtain ⟨hr33,-⟩:=qu
   have hr33 : Item.φ (blk b28 [.slice a16 m.comps.length c17,.slice a18 m.comps.length c19,.slice a20 m.comps.length c21,.slice a22 m.shares.length c23,vI (z5 m + ((m.shares.length : Nat) : Int))] 45) w7_:=hr33
   refine qe rfl (qq (v:=.slice a16 m.comps.length c17) hu6 ag42 (qh (hr33) rfl) rfl ?_)
   exact ⟨.slice a16 m.comps.length c17,rfl,rfl,qk⟩
  ·intro f8_ w8_ X8_ qp qo qu qk
   have hb1 : f8_ 1 = vI k:=(qp 1 rfl)
   refine qe rfl (qj (v:=vI k) hb1 rfl ?_)
   exact ⟨vI k,rfl,rfl,qk⟩
  ·intro f9_ w9_ X9_ qp qo qu qk
   obtain ⟨hu7,hu8,-⟩:=qo
   have hu7 : f9_ 31 = .slice a16 m.comps.length c17:=hu7
   have hu8 : f9_ 32 = vI k:=hu8
   refine qe rfl (qs hu7 ha36 hu8 un42 sz51 (by omega) (by omega) (o':=o35 + k.toNat * 2) (by omega) rfl ?_)
   exact ⟨.pointer (some ⟨b34,o35 + k.toNat * 2,none⟩),rfl,rfl,qk⟩
  ·intro f10_ w10_ X10_ qp qo qu qk
   obtain ⟨hu9,-⟩:=qo
   have hu9 : f10_ 33 = .pointer (some ⟨b34,o35 + k.toNat * 2,none⟩):=hu9
   refine qe rfl (k6 hu9 rfl un51 sz3 (by omega) (by omega) (o':=o35 + k.toNat * 2 + 1) (by omega) rfl ?_)
   exact ⟨.pointer (some ⟨b34,o35 + k.toNat * 2 + 1,none⟩),rfl,rfl,qk⟩
  ·intro f11_ w11_ X11_ qp qo qu qk
   obtain ⟨hu10,-⟩:=qo
   have hu10 : f11_ 34 = .pointer (some ⟨b34,o35 + k.toNat * 2 + 1,none⟩):=hu10
   refine qe rfl (qq (v:=vI ((qr m k.toNat).2)) hu10 ag3 ((qk.getR 1 rfl).2 1 _ rfl) rfl ?_)
   exact ⟨vI ((qr m k.toNat).2),rfl,rfl,qk⟩
  ·intro f12_ w12_ X12_ qp qo qu qk
   obtain ⟨hu5,hu11,-⟩:=qo
   have hu5 : f12_ 29 = vI ((qr m k.toNat).1):=hu5
   have hu11 : f12_ 35 = vI ((qr m k.toNat).2):=hu11
   refine qe rfl (zi (args:=[vI ((qr m k.toNat).1),vI ((qr m k.toNat).2),vI 5]) rfl (by simp only [List.map_cons,List.map_nil,List.nil_append,List.cons_append,List.append_nil,ev,Value.cells,hu5,hu11]) rfl en46 (rgrant_c ((qr m k.toNat).1) ((qr m k.toNat).2) 5 _) ?_)
   rintro _ w42 ⟨rfl,hk44⟩
   have hs43:=qk.keep hk44
   exact ⟨.agg #[.bool true,vI ((qr m k.toNat).1),vI ((qr m k.toNat).2),vI ((qr m k.toNat).1),vI 5,vI 0],rfl,rfl,hs43⟩
  ·intro f13_ w13_ X13_ qp qo qu qk
   have hb5 : f13_ 5 = .pointer (some ⟨b28,0,none⟩):=(qp 5 rfl)
   refine qe rfl (qg hb5 fd45_1 rfl (o':=1) rfl rfl ?_)
   exact ⟨.pointer (some ⟨b28,1,none⟩),rfl,rfl,qk⟩
  ·intro f14_ w14_ X14_ qp qo qu qk
   obtain ⟨hu13,-⟩:=qo
   have hu13 : f14_ 37 = .pointer (some ⟨b28,1,none⟩):=hu13
   obtain ⟨hr33,-⟩:=qu
   have hr33 : Item.φ (blk b28 [.slice a16 m.comps.length c17,.slice a18 m.comps.length c19,.slice a20 m.comps.length c21,.slice a22 m.shares.length c23,vI (z5 m + ((m.shares.length : Nat) : Int))] 45) w14_:=hr33
   refine qe rfl (qq (v:=.slice a18 m.comps.length c19) hu13 ag42 (qh (hr33) rfl) rfl ?_)
   exact ⟨.slice a18 m.comps.length c19,rfl,rfl,qk⟩
  ·intro f15_ w15_ X15_ qp qo qu qk
   have hb1 : f15_ 1 = vI k:=(qp 1 rfl)
   refine qe rfl (qj (v:=vI k) hb1 rfl ?_)
   exact ⟨vI k,rfl,rfl,qk⟩
  ·intro f16_ w16_ X16_ qp qo qu qk
   obtain ⟨hu14,hu15,-⟩:=qo
   have hu14 : f16_ 38 = .slice a18 m.comps.length c19:=hu14
   have hu15 : f16_ 39 = vI k:=hu15
   refine qe rfl (qs hu14 ha40 hu15 un42 sz51 (by omega) (by omega) (o':=o39 + k.toNat * 2) (by omega) rfl ?_)
   exact ⟨.pointer (some ⟨b38,o39 + k.toNat * 2,none⟩),rfl,rfl,qk⟩
  ·intro f17_ w17_ X17_ qp qo qu qk
   obtain ⟨hu16,-⟩:=qo
   have hu16 : f17_ 40 = .pointer (some ⟨b38,o39 + k.toNat * 2,none⟩):=hu16
   refine qe rfl (k6 hu16 rfl un51 sz3 (by omega) (by omega) (o':=o39 + k.toNat * 2) (by omega) rfl ?_)
   exact ⟨.pointer (some ⟨b38,o39 + k.toNat * 2,none⟩),rfl,rfl,qk⟩
  ·intro f18_ w18_ X18_ qp qo qu qk
   obtain ⟨hu17,-⟩:=qo
   have hu17 : f18_ 41 = .pointer (some ⟨b38,o39 + k.toNat * 2,none⟩):=hu17
   refine qe rfl (qq (v:=vI ((qv m k.toNat).1)) hu17 ag3 ((qk.getR 0 rfl).2 0 _ rfl) rfl ?_)
   exact ⟨vI ((qv m k.toNat).1),rfl,rfl,qk⟩
  ·intro f19_ w19_ X19_ qp qo qu qk
   have hb5 : f19_ 5 = .pointer (some ⟨b28,0,none⟩):=(qp 5 rfl)
   refine qe rfl (qg hb5 fd45_1 rfl (o':=1) rfl rfl ?_)
   exact ⟨.pointer (some ⟨b28,1,none⟩),rfl,rfl,qk⟩
  ·intro f20_ w20_ X20_ qp qo qu qk
   obtain ⟨hu19,-⟩:=qo
   have hu19 : f20_ 43 = .pointer (some ⟨b28,1,none⟩):=hu19
   obtain ⟨hr33,-⟩:=qu
   have hr33 : Item.φ (blk b28 [.slice a16 m.comps.length c17,.slice a18 m.comps.length c19,.slice a20 m.comps.length c21,.slice a22 m.shares.length c23,vI (z5 m + ((m.shares.length : Nat) : Int))] 45) w20_:=hr33
   refine qe rfl (qq (v:=.slice a18 m.comps.length c19) hu19 ag42 (qh (hr33) rfl) rfl ?_)
   exact ⟨.slice a18 m.comps.length c19,rfl,rfl,qk⟩
  ·intro f21_ w21_ X21_ qp qo qu qk
   have hb1 : f21_ 1 = vI k:=(qp 1 rfl)
   refine qe rfl (qj (v:=vI k) hb1 rfl ?_)
   exact ⟨vI k,rfl,rfl,qk⟩
  ·intro f22_ w22_ X22_ qp qo qu qk
   obtain ⟨hu20,hu21,-⟩:=qo
   have hu20 : f22_ 44 = .slice a18 m.comps.length c19:=hu20
   have hu21 : f22_ 45 = vI k:=hu21
   refine qe rfl (qs hu20 ha40 hu21 un42 sz51 (by omega) (by omega) (o':=o39 + k.toNat * 2) (by omega) rfl ?_)
   exact ⟨.pointer (some ⟨b38,o39 + k.toNat * 2,none⟩),rfl,rfl,qk⟩
  ·intro f23_ w23_ X23_ qp qo qu qk
   obtain ⟨hu22,-⟩:=qo
   have hu22 : f23_ 46 = .pointer (some ⟨b38,o39 + k.toNat * 2,none⟩):=hu22
   refine qe rfl (k6 hu22 rfl un51 sz3 (by omega) (by omega) (o':=o39 + k.toNat * 2 + 1) (by omega) rfl ?_)
   exact ⟨.pointer (some ⟨b38,o39 + k.toNat * 2 + 1,none⟩),rfl,rfl,qk⟩
  ·intro f24_ w24_ X24_ qp qo qu qk
   obtain ⟨hu23,-⟩:=qo
   have hu23 : f24_ 47 = .pointer (some ⟨b38,o39 + k.toNat * 2 + 1,none⟩):=hu23
   refine qe rfl (qq (v:=vI ((qv m k.toNat).2)) hu23 ag3 ((qk.getR 0 rfl).2 1 _ rfl) rfl ?_)
   exact ⟨vI ((qv m k.toNat).2),rfl,rfl,qk⟩
  ·intro f25_ w25_ X25_ qp qo qu qk
   obtain ⟨hu18,hu24,-⟩:=qo
   have hu18 : f25_ 42 = vI ((qv m k.toNat).1):=hu18
   have hu24 : f25_ 48 = vI ((qv m k.toNat).2):=hu24
   refine qe rfl (zi (args:=[vI ((qv m k.toNat).1),vI ((qv m k.toNat).2),vI 27]) rfl (by simp only [List.map_cons,List.map_nil,List.nil_append,List.cons_append,List.append_nil,ev,Value.cells,hu18,hu24]) rfl en46 (rgrant_c ((qv m k.toNat).1) ((qv m k.toNat).2) 27 _) ?_)
   rintro _ w45 ⟨rfl,hk47⟩
   have hs46:=qk.keep hk47
   exact ⟨.agg #[.bool true,vI ((qv m k.toNat).1),vI ((qv m k.toNat).2),vI ((qv m k.toNat).1),vI 27,vI 0],rfl,rfl,hs46⟩
  ·intro f26_ w26_ X26_ qp qo qu qk
   have hb1 : f26_ 1 = vI k:=(qp 1 rfl)
   refine qe rfl (qj (v:=vI k) hb1 rfl ?_)
   exact ⟨vI k,rfl,rfl,qk⟩
  ·intro f27_ w27_ X27_ qp qo qu qk
   obtain ⟨hu26,-⟩:=qo
   have hu26 : f27_ 50 = vI k:=hu26
   refine qe rfl (qt (v:=vI (16 + k)) rfl hu26 rfl (ki (qz (by omega) (by omega))) ?_)
   exact ⟨vI (16 + k),rfl,rfl,qk⟩
  ·intro f28_ w28_ X28_ qp qo qu qk
   have hb1 : f28_ 1 = vI k:=(qp 1 rfl)
   refine qe rfl (qj (v:=vI k) hb1 rfl ?_)
   exact ⟨vI k,rfl,rfl,qk⟩
  ·intro f29_ w29_ X29_ qp qo qu qk
   obtain ⟨hu28,-⟩:=qo
   have hu28 : f29_ 52 = vI k:=hu28
   refine qe rfl (qt (v:=vI ((16 + k) + 1)) rfl hu28 rfl (ki (qz (by omega) (by omega))) ?_)
   exact ⟨vI ((16 + k) + 1),rfl,rfl,qk⟩
  ·intro f30_ w30_ X30_ qp qo qu qk
   obtain ⟨hu27,hu29,-⟩:=qo
   have hu27 : f30_ 51 = vI (16 + k):=hu27
   have hu29 : f30_ 53 = vI ((16 + k) + 1):=hu29
   refine qe rfl (zi (args:=[vI (16 + k),vI ((16 + k) + 1),vI 96]) rfl (by simp only [List.map_cons,List.map_nil,List.nil_append,List.cons_append,List.append_nil,ev,Value.cells,hu27,hu29]) rfl en46 (rgrant_c (16 + k) ((16 + k) + 1) 96 _) ?_)
   rintro _ w48 ⟨rfl,hk50⟩
   have hs49:=qk.keep hk50
   exact ⟨.agg #[.bool true,vI (16 + k),vI ((16 + k) + 1),vI (16 + k),vI 96,vI 0],rfl,rfl,hs49⟩
  ·intro f31_ w31_ X31_ qp qo qu qk
   obtain ⟨hu12,hu25,hu30,-⟩:=qo
   have hu12 : f31_ 36 = .agg #[.bool true,vI ((qr m k.toNat).1),vI ((qr m k.toNat).2),vI ((qr m k.toNat).1),vI 5,vI 0]:=hu12
   have hu25 : f31_ 49 = .agg #[.bool true,vI ((qv m k.toNat).1),vI ((qv m k.toNat).2),vI ((qv m k.toNat).1),vI 27,vI 0]:=hu25
   have hu30 : f31_ 54 = .agg #[.bool true,vI (16 + k),vI ((16 + k) + 1),vI (16 + k),vI 96,vI 0]:=hu30
   refine qe rfl (O_buildSliceR (zl:=[.bool false,vI 0,vI 0,vI 0,vI 0,vI 0]) (zs:=[.bool false,vI 0,vI 0,vI 0,vI 0,vI 0,.bool false,vI 0,vI 0,vI 0,vI 0,vI 0,.bool false,vI 0,vI 0,vI 0,vI 0,vI 0]) (ps:=[(0,[.bool true,vI ((qr m k.toNat).1),vI ((qr m k.toNat).2),vI ((qr m k.toNat).1),vI 5,vI 0]),(1,[.bool true,vI ((qv m k.toNat).1),vI ((qv m k.toNat).2),vI ((qv m k.toNat).1),vI 27,vI 0]),(2,[.bool true,vI (16 + k),vI ((16 + k) + 1),vI (16 + k),vI 96,vI 0])]) (cs:=[.bool true,vI ((qr m k.toNat).1),vI ((qr m k.toNat).2),vI ((qr m k.toNat).1),vI 5,vI 0,.bool true,vI ((qv m k.toNat).1),vI ((qv m k.toNat).2),vI ((qv m k.toNat).1),vI 27,vI 0,.bool true,vI (16 + k),vI ((16 + k) + 1),vI (16 + k),vI 96,vI 0]) qk un48 sz39 zv39 rfl rfl rfl rfl (by simp only [List.map_cons,List.map_nil,List.nil_append,List.cons_append,List.append_nil,ev,Value.cells,hu12,hu25,hu30]) rfl rfl ?_)
   intro b51 w52 hb54 hs53
   refine ⟨.slice (some ⟨b51,0,none⟩) 3 3,rfl,⟨_,rfl⟩,?_⟩
   show St _ _ _ ((blk (vblk ((upd f31_ 55 (.slice (some ⟨b51,0,none⟩) 3 3)) 55)) [.bool true,vI ((qr m k.toNat).1),vI ((qr m k.toNat).2),vI ((qr m k.toNat).1),vI 5,vI 0,.bool true,vI ((qv m k.toNat).1),vI ((qv m k.toNat).2),vI ((qv m k.toNat).1),vI 27,vI 0,.bool true,vI (16 + k),vI ((16 + k) + 1),vI (16 + k),vI 96,vI 0] 39) :: X31_) _
   exact hs53
  ·intro f32_ w32_ X32_ qp qo qu qk
   obtain ⟨hu31,-⟩:=qo
   obtain ⟨b51,hu31⟩:=(show ∃ b51 : Nat,f32_ 55 = .slice (some ⟨b51,0,none⟩) 3 3 from hu31)
   have qk : St _ _ _ ((blk (vblk (f32_ 55)) [.bool true,vI ((qr m k.toNat).1),vI ((qr m k.toNat).2),vI ((qr m k.toNat).1),vI 5,vI 0,.bool true,vI ((qv m k.toNat).1),vI ((qv m k.toNat).2),vI ((qv m k.toNat).1),vI 27,vI 0,.bool true,vI (16 + k),vI ((16 + k) + 1),vI (16 + k),vI 96,vI 0] 39) :: X32_) _:=qk
   rw [hu31] at qk; simp only [vblk,zf,vcap,z3] at qk
   refine qe rfl (qf (v:=.slice (some ⟨b51,0,none⟩) 3 3) hu31 rfl ?_)
   refine ⟨.slice (some ⟨b51,0,none⟩) 3 3,rfl,⟨_,rfl⟩,?_⟩
   show St _ _ _ ((blk (vblk ((upd f32_ 6 (.slice (some ⟨b51,0,none⟩) 3 3)) 6)) [.bool true,vI ((qr m k.toNat).1),vI ((qr m k.toNat).2),vI ((qr m k.toNat).1),vI 5,vI 0,.bool true,vI ((qv m k.toNat).1),vI ((qv m k.toNat).2),vI ((qv m k.toNat).1),vI 27,vI 0,.bool true,vI (16 + k),vI ((16 + k) + 1),vI (16 + k),vI 96,vI 0] 39) :: X32_) _
   exact qk
  intro f56 w57 qp qo hs58
  obtain ⟨hu32,-⟩:=qo
  obtain ⟨b55,hu32⟩:=(show ∃ b55 : Nat,f56 6 = .slice (some ⟨b55,0,none⟩) 3 3 from hu32)
  have hs58 : St _ _ _ [blk (vblk (f56 6)) [.bool true,vI ((qr m k.toNat).1),vI ((qr m k.toNat).2),vI ((qr m k.toNat).1),vI 5,vI 0,.bool true,vI ((qv m k.toNat).1),vI ((qv m k.toNat).2),vI ((qv m k.toNat).1),vI 27,vI 0,.bool true,vI (16 + k),vI ((16 + k) + 1),vI (16 + k),vI 96,vI 0] 39,blk b28 [.slice a16 m.comps.length c17,.slice a18 m.comps.length c19,.slice a20 m.comps.length c21,.slice a22 m.shares.length c23,vI (z5 m + ((m.shares.length : Nat) : Int))] 45,blk b1 (qn m) 26] _:=hs58
  simp only [hu32,vblk,zf,vcap,z3] at hs58
  have hs58 : St _ _ _ [blk b55 [.bool true,vI ((qr m k.toNat).1),vI ((qr m k.toNat).2),vI ((qr m k.toNat).1),vI 5,vI 0,.bool true,vI ((qv m k.toNat).1),vI ((qv m k.toNat).2),vI ((qv m k.toNat).1),vI 27,vI 0,.bool true,vI (16 + k),vI ((16 + k) + 1),vI (16 + k),vI 96,vI 0] 39,blk b28 [.slice a16 m.comps.length c17,.slice a18 m.comps.length c19,.slice a20 m.comps.length c21,.slice a22 m.shares.length c23,vI (z5 m + ((m.shares.length : Nat) : Int))] 45,blk b1 (qn m) 26] _:=hs58
  have e59 : f56 1 = vI k:=(qp 1 rfl)
  rewrite [qm e59]
  have e60 : f56 2 = .pointer (some ⟨b1,0,none⟩):=(qp 2 rfl)
  rewrite [qm e60]
  have e61 : f56 5 = .pointer (some ⟨b28,0,none⟩):=(qp 5 rfl)
  rewrite [qm e61]
  rewrite [qm hu32]
  refine qb (qi (qi (qc ?_)))
  refine qa rfl (qf (v:=vI 0) rfl rfl ?_)
  refine ql (qb (zy ?_))
  have hs62:=hs58.popR
  have hs63:=hs62.popR
  have hs64:=hs63.ownBlk 0 rfl 6 3 rfl (by decide)
  have hs65 : St w (fun _=>False) w57 [ownI 39 6 (some ⟨b55,0,none⟩) 3 ((grTo m k 0).length) ((grTo m k 0).flatMap z9),blk b28 [.slice a16 m.comps.length c17,.slice a18 m.comps.length c19,.slice a20 m.comps.length c21,.slice a22 m.shares.length c23,vI (z5 m + ((m.shares.length : Nat) : Int))] 45,blk b1 (qn m) 26] [arrI encR 2 a16 (ks m m.comps.length),arrI encR 2 a18 (ku m m.comps.length),arrI encR 2 a20 (kv m m.comps.length),arrI encI 1 a22 (j3 m m.shares.length),arrI zu 2 m.ca m.comps,arrI z1 3 m.la m.links,arrI zw 2 m.sa m.shares,ko m.comps]:=by exact hs64
  refine kw (fun m_ f_ w_=>∃ i : Nat,∃ a6 : Option Addr,∃ c6 : Nat,m_ = m.shares.length - i ∧ (i ≤ m.shares.length) ∧ f_ 1 = vI k ∧ f_ 2 = .pointer (some ⟨b1,0,none⟩) ∧ f_ 5 = .pointer (some ⟨b28,0,none⟩) ∧ f_ 6 = .slice a6 ((grTo m k i).length) c6 ∧ f_ 7 = vI ((i : Nat) : Int) ∧ St w (fun _=>False) w_ [ownI 39 6 a6 c6 ((grTo m k i).length) ((grTo m k i).flatMap z9),blk b28 [.slice a16 m.comps.length c17,.slice a18 m.comps.length c19,.slice a20 m.comps.length c21,.slice a22 m.shares.length c23,vI (z5 m + ((m.shares.length : Nat) : Int))] 45,blk b1 (qn m) 26] [arrI encR 2 a16 (ks m m.comps.length),arrI encR 2 a18 (ku m m.comps.length),arrI encR 2 a20 (kv m m.comps.length),arrI encI 1 a22 (j3 m m.shares.length),arrI zu 2 m.ca m.comps,arrI z1 3 m.la m.links,arrI zw 2 m.sa m.shares,ko m.comps]) ?_ ?_
  ·exact ⟨_,0,(some ⟨b55,0,none⟩),3,rfl,by omega,rfl,rfl,rfl,rfl,rfl,hs65⟩
  ·intro m69 f66 w67; rintro ⟨i,a6,c6,rfl,hi,e70,e71,e72,e73,e74,hs68⟩
   rewrite [qm e70]
   rewrite [qm e71]
   rewrite [qm e72]
   rewrite [qm e73]
   rewrite [qm e74]
   refine qi (qi (qc ?_))
   refine qa rfl (qj (v:=vI ((i : Nat) : Int)) rfl rfl ?_)
   refine qa rfl (qg rfl xo rfl (o':=5) rfl rfl ?_)
   refine qa rfl (qq (v:=.slice m.sa m.shares.length m.scap) rfl ag24 (qh (hs68.get 2 rfl) rfl) rfl ?_)
   refine qa rfl (qx (len:=m.shares.length) rfl un24 rfl ?_)
   refine qa rfl (qt (k:=.i64) (k':=.i64) (a:=((i : Nat) : Int)) (b:=((m.shares.length : Nat) : Int)) rfl rfl rfl jg ?_)
   refine ql (qb ?_)
   refine zd rfl (fun hc75=>?_) (fun hc75=>?_)
   ·refine zn (qb (qi (zy (qi ?_))))
    have hsr:=share_nn hok (List.getElem_mem (by omega : i < m.shares.length))
    refine qc ?_
    refine qa rfl (qg rfl xo rfl (o':=5) rfl rfl ?_)
    refine qa rfl (qq (v:=.slice m.sa m.shares.length m.scap) rfl ag24 (qh (hs68.get 2 rfl) rfl) rfl ?_)
    refine qa rfl (qj (v:=vI ((i : Nat) : Int)) rfl rfl ?_)
    obtain ⟨b76,o77,ha78,hs79⟩:=hs68.elem 6 rfl i (by omega)
    refine qa rfl (qs rfl ha78 rfl un24 sz70 (by omega) (by omega) (o':=o77 + i * 2) (by omega) rfl ?_)
    refine qa rfl (qg rfl fd70_0 rfl (o':=o77 + i * 2) rfl rfl ?_)
    refine qa rfl (qq (v:=vI ((m.shares[i]'(by omega)).rd)) rfl ag3 ((hs79.getR 0 rfl).2 0 _ rfl) rfl ?_)
    refine qa rfl (qj (v:=vI k) rfl rfl ?_)
    refine qa rfl (qt (v:=vI ((m.shares[i]'(by omega)).rd / 2 ^ k.toNat)) rfl rfl rfl (b_shr (by omega) (shr_bit (by omega))) ?_)
    refine qa rfl (qt (v:=vI (bitS (m.shares[i]'(by omega)).rd k)) rfl rfl rfl (b_rem (by omega) (rem_nn (Int.ediv_nonneg hsr.1 (Int.le_of_lt (Int.pow_pos (by decide)))) (by omega))) ?_)
    refine qa rfl (qt (k:=.i64) (k':=.i64) (a:=(bitS (m.shares[i]'(by omega)).rd k)) (b:=1) rfl rfl rfl k8 ?_)
    refine ql (qb ?_)
    refine zd rfl (fun hc80=>?_) (fun hc80=>?_)
    ·have hsb:=shAt_b hok (i:=i) (by omega)
     have hbw:=bitS_b (m.shares[i]'(by omega)).wr k
     obtain ⟨b81,o82,ha83,hs84⟩:=hs79.elem 4 rfl i (by rw [shsTo_len]; omega)
     rw [shsTo_get] at hs84
     refine jc js (show St _ _ _ [ownI 39 6 a6 c6 ((grTo m k i).length) ((grTo m k i).flatMap z9),blk b28 [.slice a16 m.comps.length c17,.slice a18 m.comps.length c19,.slice a20 m.comps.length c21,.slice a22 m.shares.length c23,vI (z5 m + ((m.shares.length : Nat) : Int))] 45,blk b1 (qn m) 26] _ from hs84) (fun i_=>match i_ with|24=>some ([97],fun vs_=>match vs_ with|[x97]=>blk (vblk x97) [.bool true,vI (shAt m i),vI ((shAt m i) + 256),vI (shAt m i),vI (j4 (m.shares[i]'(by omega)) k),vI 0] 39|_=>emp)|25=>some ([98],fun vs_=>match vs_ with|[x98]=>ownI 39 6 (zf x98) (vcap x98) ((grTo m k (i + 1)).length) ((grTo m k (i + 1)).flatMap z9)|_=>emp)|26=>some ([6],fun vs_=>match vs_ with|[x6]=>ownI 39 6 (zf x6) (vcap x6) ((grTo m k (i + 1)).length) ((grTo m k (i + 1)).flatMap z9)|_=>emp)|_=>none) (fun i_=>match i_ with|25=>[27]|26=>[25]|_=>[]) (fun i_=>match i_ with|2=>[28]|7=>[28]|13=>[29]|25=>[24]|_=>[]) (fun i_=>match i_ with|2=>[1]|4=>[2,3]|5=>[4]|7=>[6]|9=>[7,8]|10=>[9]|11=>[10]|13=>[12]|15=>[13,14]|16=>[15]|17=>[16]|19=>[17,18]|20=>[19]|21=>[20]|22=>[21]|23=>[5,11,22]|24=>[23]|25=>[0,24]|26=>[25]|_=>[]) [24,26,28,29,0,1,2,3,4,5,6,7,8,9,10,11,12,13,14,15,16,17,18,19,20,21,22,23,30,31,32,33,34,35,36,37,38,39,40,41,42,43,44,45,46,47,48,49,50,51,52,53,54,55,56] [24,26] (fun i_ v_=>match i_ with|0=>v_ = .slice a6 ((grTo m k i).length) c6|1=>v_ = .pointer (some ⟨b28,3,none⟩)|2=>v_ = .slice a22 m.shares.length c23|3=>v_ = vI ((i : Nat) : Int)|4=>v_ = .pointer (some ⟨b81,o82 + i * 1,none⟩)|5=>v_ = vI (shAt m i)|6=>v_ = .pointer (some ⟨b28,3,none⟩)|7=>v_ = .slice a22 m.shares.length c23|8=>v_ = vI ((i : Nat) : Int)|9=>v_ = .pointer (some ⟨b81,o82 + i * 1,none⟩)|10=>v_ = vI (shAt m i)|11=>v_ = vI ((shAt m i) + 256)|12=>v_ = .pointer (some ⟨b1,5,none⟩)|13=>v_ = .slice m.sa m.shares.length m.scap|14=>v_ = vI ((i : Nat) : Int)|15=>v_ = .pointer (some ⟨b76,o77 + i * 2,none⟩)|16=>v_ = .pointer (some ⟨b76,o77 + i * 2 + 1,none⟩)|17=>v_ = vI ((m.shares[i]'(by omega)).wr)|18=>v_ = vI k|19=>v_ = vI ((m.shares[i]'(by omega)).wr / 2 ^ k.toNat)|20=>v_ = vI (bitS (m.shares[i]'(by omega)).wr k)|21=>v_ = vI ((bitS (m.shares[i]'(by omega)).wr k) * 2)|22=>v_ = vI (j4 (m.shares[i]'(by omega)) k)|23=>v_ = .agg #[.bool true,vI (shAt m i),vI ((shAt m i) + 256),vI (shAt m i),vI (j4 (m.shares[i]'(by omega)) k),vI 0]|24=>∃ b88 : Nat,v_ = .slice (some ⟨b88,0,none⟩) 1 1|25=>∃ a92 : Option Addr,∃ c93 : Nat,v_ = .slice a92 ((grTo m k (i + 1)).length) c93|26=>∃ a96 : Option Addr,∃ c97 : Nat,v_ = .slice a96 ((grTo m k (i + 1)).length) c97|_=>True) (by kernel_rfl) (by kernel_rfl) ⟨?_,?_,?_,?_,?_,?_,?_,?_,?_,?_,?_,?_,?_,?_,?_,?_,?_,?_,?_,?_,?_,?_,?_,?_,?_,?_,?_,trivial⟩ ?_
     ·intro f0_ w0_ X0_ qp qo qu qk
      have hb6 : f0_ 6 = .slice a6 ((grTo m k i).length) c6:=(qp 6 rfl)
      refine qe rfl (qj (v:=.slice a6 ((grTo m k i).length) c6) hb6 rfl ?_)
      exact ⟨.slice a6 ((grTo m k i).length) c6,rfl,rfl,qk⟩
     ·intro f1_ w1_ X1_ qp qo qu qk
      have hb5 : f1_ 5 = .pointer (some ⟨b28,0,none⟩):=(qp 5 rfl)
      refine qe rfl (qg hb5 fd45_3 rfl (o':=3) rfl rfl ?_)
      exact ⟨.pointer (some ⟨b28,3,none⟩),rfl,rfl,qk⟩
     ·intro f2_ w2_ X2_ qp qo qu qk
      obtain ⟨hu1,-⟩:=qo
      have hu1 : f2_ 74 = .pointer (some ⟨b28,3,none⟩):=hu1
      obtain ⟨hr28,-⟩:=qu
      have hr28 : Item.φ (blk b28 [.slice a16 m.comps.length c17,.slice a18 m.comps.length c19,.slice a20 m.comps.length c21,.slice a22 m.shares.length c23,vI (z5 m + ((m.shares.length : Nat) : Int))] 45) w2_:=hr28
      refine qe rfl (qq (v:=.slice a22 m.shares.length c23) hu1 ag43 (qh (hr28) rfl) rfl ?_)
      exact ⟨.slice a22 m.shares.length c23,rfl,rfl,qk⟩
     ·intro f3_ w3_ X3_ qp qo qu qk
      have hb7 : f3_ 7 = vI ((i : Nat) : Int):=(qp 7 rfl)
      refine qe rfl (qj (v:=vI ((i : Nat) : Int)) hb7 rfl ?_)
      exact ⟨vI ((i : Nat) : Int),rfl,rfl,qk⟩
     ·intro f4_ w4_ X4_ qp qo qu qk
      obtain ⟨hu2,hu3,-⟩:=qo
      have hu2 : f4_ 75 = .slice a22 m.shares.length c23:=hu2
      have hu3 : f4_ 76 = vI ((i : Nat) : Int):=hu3
      refine qe rfl (qs hu2 ha83 hu3 un43 sz3 (by omega) (by omega) (o':=o82 + i * 1) (by omega) rfl ?_)
      exact ⟨.pointer (some ⟨b81,o82 + i * 1,none⟩),rfl,rfl,qk⟩
     ·intro f5_ w5_ X5_ qp qo qu qk
      obtain ⟨hu4,-⟩:=qo
      have hu4 : f5_ 77 = .pointer (some ⟨b81,o82 + i * 1,none⟩):=hu4
      refine qe rfl (qq (v:=vI (shAt m i)) hu4 ag3 ((qk.getR 0 rfl).2 0 _ rfl) rfl ?_)
      exact ⟨vI (shAt m i),rfl,rfl,qk⟩
     ·intro f6_ w6_ X6_ qp qo qu qk
      have hb5 : f6_ 5 = .pointer (some ⟨b28,0,none⟩):=(qp 5 rfl)
      refine qe rfl (qg hb5 fd45_3 rfl (o':=3) rfl rfl ?_)
      exact ⟨.pointer (some ⟨b28,3,none⟩),rfl,rfl,qk⟩
     ·intro f7_ w7_ X7_ qp qo qu qk
      obtain ⟨hu6,-⟩:=qo
      have hu6 : f7_ 79 = .pointer (some ⟨b28,3,none⟩):=hu6
      obtain ⟨hr28,-⟩:=qu
      have hr28 : Item.φ (blk b28 [.slice a16 m.comps.length c17,.slice a18 m.comps.length c19,.slice a20 m.comps.length c21,.slice a22 m.shares.length c23,vI (z5 m + ((m.shares.length : Nat) : Int))] 45) w7_:=hr28
      refine qe rfl (qq (v:=.slice a22 m.shares.length c23) hu6 ag43 (qh (hr28) rfl) rfl ?_)
      exact ⟨.slice a22 m.shares.length c23,rfl,rfl,qk⟩
     ·intro f8_ w8_ X8_ qp qo qu qk
      have hb7 : f8_ 7 = vI ((i : Nat) : Int):=(qp 7 rfl)
      refine qe rfl (qj (v:=vI ((i : Nat) : Int)) hb7 rfl ?_)
      exact ⟨vI ((i : Nat) : Int),rfl,rfl,qk⟩
     ·intro f9_ w9_ X9_ qp qo qu qk
      obtain ⟨hu7,hu8,-⟩:=qo
      have hu7 : f9_ 80 = .slice a22 m.shares.length c23:=hu7
      have hu8 : f9_ 81 = vI ((i : Nat) : Int):=hu8
      refine qe rfl (qs hu7 ha83 hu8 un43 sz3 (by omega) (by omega) (o':=o82 + i * 1) (by omega) rfl ?_)
      exact ⟨.pointer (some ⟨b81,o82 + i * 1,none⟩),rfl,rfl,qk⟩
     ·intro f10_ w10_ X10_ qp qo qu qk
      obtain ⟨hu9,-⟩:=qo
      have hu9 : f10_ 82 = .pointer (some ⟨b81,o82 + i * 1,none⟩):=hu9
      refine qe rfl (qq (v:=vI (shAt m i)) hu9 ag3 ((qk.getR 0 rfl).2 0 _ rfl) rfl ?_)
      exact ⟨vI (shAt m i),rfl,rfl,qk⟩
     ·intro f11_ w11_ X11_ qp qo qu qk
      obtain ⟨hu10,-⟩:=qo
      have hu10 : f11_ 83 = vI (shAt m i):=hu10
      refine qe rfl (qt (v:=vI ((shAt m i) + 256)) hu10 rfl rfl (ki (qz (by omega) (by omega))) ?_)
      exact ⟨vI ((shAt m i) + 256),rfl,rfl,qk⟩
     ·intro f12_ w12_ X12_ qp qo qu qk
      have hb2 : f12_ 2 = .pointer (some ⟨b1,0,none⟩):=(qp 2 rfl)
      refine qe rfl (qg hb2 xo rfl (o':=5) rfl rfl ?_)
      exact ⟨.pointer (some ⟨b1,5,none⟩),rfl,rfl,qk⟩
     ·intro f13_ w13_ X13_ qp qo qu qk
      obtain ⟨hu12,-⟩:=qo
      have hu12 : f13_ 85 = .pointer (some ⟨b1,5,none⟩):=hu12
      obtain ⟨hr29,-⟩:=qu
      have hr29 : Item.φ (blk b1 (qn m) 26) w13_:=hr29
      refine qe rfl (qq (v:=.slice m.sa m.shares.length m.scap) hu12 ag24 (qh (hr29) rfl) rfl ?_)
      exact ⟨.slice m.sa m.shares.length m.scap,rfl,rfl,qk⟩
     ·intro f14_ w14_ X14_ qp qo qu qk
      have hb7 : f14_ 7 = vI ((i : Nat) : Int):=(qp 7 rfl)
      refine qe rfl (qj (v:=vI ((i : Nat) : Int)) hb7 rfl ?_)
      exact ⟨vI ((i : Nat) : Int),rfl,rfl,qk⟩
     ·intro f15_ w15_ X15_ qp qo qu qk
      obtain ⟨hu13,hu14,-⟩:=qo
      have hu13 : f15_ 86 = .slice m.sa m.shares.length m.scap:=hu13
      have hu14 : f15_ 87 = vI ((i : Nat) : Int):=hu14
      refine qe rfl (qs hu13 ha78 hu14 un24 sz70 (by omega) (by omega) (o':=o77 + i * 2) (by omega) rfl ?_)
      exact ⟨.pointer (some ⟨b76,o77 + i * 2,none⟩),rfl,rfl,qk⟩
     ·intro f16_ w16_ X16_ qp qo qu qk
      obtain ⟨hu15,-⟩:=qo
      have hu15 : f16_ 88 = .pointer (some ⟨b76,o77 + i * 2,none⟩):=hu15
      refine qe rfl (qg hu15 fd70_1 rfl (o':=o77 + i * 2 + 1) rfl rfl ?_)
      exact ⟨.pointer (some ⟨b76,o77 + i * 2 + 1,none⟩),rfl,rfl,qk⟩
     ·intro f17_ w17_ X17_ qp qo qu qk
      obtain ⟨hu16,-⟩:=qo
      have hu16 : f17_ 89 = .pointer (some ⟨b76,o77 + i * 2 + 1,none⟩):=hu16
      refine qe rfl (qq (v:=vI ((m.shares[i]'(by omega)).wr)) hu16 ag3 ((qk.getR 1 rfl).2 1 _ rfl) rfl ?_)
      exact ⟨vI ((m.shares[i]'(by omega)).wr),rfl,rfl,qk⟩
     ·intro f18_ w18_ X18_ qp qo qu qk
      have hb1 : f18_ 1 = vI k:=(qp 1 rfl)
      refine qe rfl (qj (v:=vI k) hb1 rfl ?_)
      exact ⟨vI k,rfl,rfl,qk⟩
     ·intro f19_ w19_ X19_ qp qo qu qk
      obtain ⟨hu17,hu18,-⟩:=qo
      have hu17 : f19_ 90 = vI ((m.shares[i]'(by omega)).wr):=hu17
      have hu18 : f19_ 91 = vI k:=hu18
      refine qe rfl (qt (v:=vI ((m.shares[i]'(by omega)).wr / 2 ^ k.toNat)) hu17 hu18 rfl (b_shr (by omega) (shr_bit (by omega))) ?_)
      exact ⟨vI ((m.shares[i]'(by omega)).wr / 2 ^ k.toNat),rfl,rfl,qk⟩
     ·intro f20_ w20_ X20_ qp qo qu qk
      obtain ⟨hu19,-⟩:=qo
      have hu19 : f20_ 92 = vI ((m.shares[i]'(by omega)).wr / 2 ^ k.toNat):=hu19
      refine qe rfl (qt (v:=vI (bitS (m.shares[i]'(by omega)).wr k)) hu19 rfl rfl (b_rem (by omega) (rem_nn (Int.ediv_nonneg hsr.2 (Int.le_of_lt (Int.pow_pos (by decide)))) (by omega))) ?_)
      exact ⟨vI (bitS (m.shares[i]'(by omega)).wr k),rfl,rfl,qk⟩
     ·intro f21_ w21_ X21_ qp qo qu qk
      obtain ⟨hu20,-⟩:=qo
      have hu20 : f21_ 93 = vI (bitS (m.shares[i]'(by omega)).wr k):=hu20
      refine qe rfl (qt (v:=vI ((bitS (m.shares[i]'(by omega)).wr k) * 2)) hu20 rfl rfl (b_mul (qz (by omega) (by omega))) ?_)
      exact ⟨vI ((bitS (m.shares[i]'(by omega)).wr k) * 2),rfl,rfl,qk⟩
     ·intro f22_ w22_ X22_ qp qo qu qk
      obtain ⟨hu21,-⟩:=qo
      have hu21 : f22_ 94 = vI ((bitS (m.shares[i]'(by omega)).wr k) * 2):=hu21
      refine qe rfl (qt (v:=vI (j4 (m.shares[i]'(by omega)) k)) rfl hu21 rfl (ki (qz (shPerm_eq _ _) (by omega))) ?_)
      exact ⟨vI (j4 (m.shares[i]'(by omega)) k),rfl,rfl,qk⟩
     ·intro f23_ w23_ X23_ qp qo qu qk
      obtain ⟨hu5,hu11,hu22,-⟩:=qo
      have hu5 : f23_ 78 = vI (shAt m i):=hu5
      have hu11 : f23_ 84 = vI ((shAt m i) + 256):=hu11
      have hu22 : f23_ 95 = vI (j4 (m.shares[i]'(by omega)) k):=hu22
      refine qe rfl (zi (args:=[vI (shAt m i),vI ((shAt m i) + 256),vI (j4 (m.shares[i]'(by omega)) k)]) rfl (by simp only [List.map_cons,List.map_nil,List.nil_append,List.cons_append,List.append_nil,ev,Value.cells,hu5,hu11,hu22]) rfl en46 (rgrant_c (shAt m i) ((shAt m i) + 256) (j4 (m.shares[i]'(by omega)) k) _) ?_)
      rintro _ w85 ⟨rfl,hk87⟩
      have hs86:=qk.keep hk87
      exact ⟨.agg #[.bool true,vI (shAt m i),vI ((shAt m i) + 256),vI (shAt m i),vI (j4 (m.shares[i]'(by omega)) k),vI 0],rfl,rfl,hs86⟩
     ·intro f24_ w24_ X24_ qp qo qu qk
      obtain ⟨hu23,-⟩:=qo
      have hu23 : f24_ 96 = .agg #[.bool true,vI (shAt m i),vI ((shAt m i) + 256),vI (shAt m i),vI (j4 (m.shares[i]'(by omega)) k),vI 0]:=hu23
      refine qe rfl (zz (zs:=[.bool false,vI 0,vI 0,vI 0,vI 0,vI 0]) (ps:=[(0,[.bool true,vI (shAt m i),vI ((shAt m i) + 256),vI (shAt m i),vI (j4 (m.shares[i]'(by omega)) k),vI 0])]) (cs:=[.bool true,vI (shAt m i),vI ((shAt m i) + 256),vI (shAt m i),vI (j4 (m.shares[i]'(by omega)) k),vI 0]) qk un48 sz39 zv39 rfl rfl (by simp only [List.map_cons,List.map_nil,List.nil_append,List.cons_append,List.append_nil,ev,Value.cells,hu23]) rfl rfl ?_)
      intro b88 w89 hb91 hs90
      refine ⟨.slice (some ⟨b88,0,none⟩) 1 1,rfl,⟨_,rfl⟩,?_⟩
      show St _ _ _ ((blk (vblk ((upd f24_ 97 (.slice (some ⟨b88,0,none⟩) 1 1)) 97)) [.bool true,vI (shAt m i),vI ((shAt m i) + 256),vI (shAt m i),vI (j4 (m.shares[i]'(by omega)) k),vI 0] 39) :: X24_) _
      exact hs90
     ·intro f25_ w25_ X25_ qp qo qu qk
      obtain ⟨hu0,hu24,-⟩:=qo
      have hu0 : f25_ 73 = .slice a6 ((grTo m k i).length) c6:=hu0
      obtain ⟨b88,hu24⟩:=(show ∃ b88 : Nat,f25_ 97 = .slice (some ⟨b88,0,none⟩) 1 1 from hu24)
      have qk : St _ _ _ ((ownI 39 6 a6 c6 ((grTo m k i).length) ((grTo m k i).flatMap z9)) :: X25_) _:=qk
      obtain ⟨hr24,-⟩:=qu
      have hr24 : Item.φ (blk (vblk (f25_ 97)) [.bool true,vI (shAt m i),vI ((shAt m i) + 256),vI (shAt m i),vI (j4 (m.shares[i]'(by omega)) k),vI 0] 39) w25_:=hr24
      rw [hu24] at hr24; simp only [vblk,zf,vcap,z3] at hr24
      refine qe rfl (k7 (n2:=(grTo m k (i + 1)).length) (xs2:=(grTo m k (i + 1)).flatMap z9) qk 0 rfl hu0 hu24 un48 ni48 inf39 rfl (Src.rd (news:=[.bool true,vI (shAt m i),vI ((shAt m i) + 256),vI (shAt m i),vI (j4 (m.shares[i]'(by omega)) k),vI 0]) (Rd.of_blk (hr24) 0 6) rfl rfl) (by rw [grTo_yes (by omega) hc80,List.length_append,List.length_singleton]) (by rw [grTo_yes (by omega) hc80,List.flatMap_append]; rfl) (by have:=grTo_len m k i; omega) (by have:=grTo_len m k i; omega) rfl ?_)
      intro a92 c93 w94 hs95
      refine ⟨.slice a92 ((grTo m k (i + 1)).length) c93,rfl,⟨_,_,rfl⟩,?_⟩
      show St _ _ _ ((ownI 39 6 (zf ((upd f25_ 98 (.slice a92 ((grTo m k (i + 1)).length) c93)) 98)) (vcap ((upd f25_ 98 (.slice a92 ((grTo m k (i + 1)).length) c93)) 98)) ((grTo m k (i + 1)).length) ((grTo m k (i + 1)).flatMap z9)) :: X25_) _
      exact hs95
     ·intro f26_ w26_ X26_ qp qo qu qk
      obtain ⟨hu25,-⟩:=qo
      obtain ⟨a92,c93,hu25⟩:=(show ∃ a92 : Option Addr,∃ c93 : Nat,f26_ 98 = .slice a92 ((grTo m k (i + 1)).length) c93 from hu25)
      have qk : St _ _ _ ((ownI 39 6 (zf (f26_ 98)) (vcap (f26_ 98)) ((grTo m k (i + 1)).length) ((grTo m k (i + 1)).flatMap z9)) :: X26_) _:=qk
      rw [hu25] at qk; simp only [vblk,zf,vcap,z3] at qk
      refine qe rfl (qf (v:=.slice a92 ((grTo m k (i + 1)).length) c93) hu25 rfl ?_)
      refine ⟨.slice a92 ((grTo m k (i + 1)).length) c93,rfl,⟨_,_,rfl⟩,?_⟩
      show St _ _ _ ((ownI 39 6 (zf ((upd f26_ 6 (.slice a92 ((grTo m k (i + 1)).length) c93)) 6)) (vcap ((upd f26_ 6 (.slice a92 ((grTo m k (i + 1)).length) c93)) 6)) ((grTo m k (i + 1)).length) ((grTo m k (i + 1)).flatMap z9)) :: X26_) _
      exact qk
     intro f98 w99 qp qo hs100
     obtain ⟨hu24,hu26,-⟩:=qo
     obtain ⟨b88,hu24⟩:=(show ∃ b88 : Nat,f98 97 = .slice (some ⟨b88,0,none⟩) 1 1 from hu24)
     obtain ⟨a96,c97,hu26⟩:=(show ∃ a96 : Option Addr,∃ c97 : Nat,f98 6 = .slice a96 ((grTo m k (i + 1)).length) c97 from hu26)
     have hs100 : St _ _ _ [blk (vblk (f98 97)) [.bool true,vI (shAt m i),vI ((shAt m i) + 256),vI (shAt m i),vI (j4 (m.shares[i]'(by omega)) k),vI 0] 39,ownI 39 6 (zf (f98 6)) (vcap (f98 6)) ((grTo m k (i + 1)).length) ((grTo m k (i + 1)).flatMap z9),blk b28 [.slice a16 m.comps.length c17,.slice a18 m.comps.length c19,.slice a20 m.comps.length c21,.slice a22 m.shares.length c23,vI (z5 m + ((m.shares.length : Nat) : Int))] 45,blk b1 (qn m) 26] _:=hs100
     simp only [hu24,hu26,vblk,zf,vcap,z3] at hs100
     have hs100 : St _ _ _ [blk b88 [.bool true,vI (shAt m i),vI ((shAt m i) + 256),vI (shAt m i),vI (j4 (m.shares[i]'(by omega)) k),vI 0] 39,ownI 39 6 a96 c97 ((grTo m k (i + 1)).length) ((grTo m k (i + 1)).flatMap z9),blk b28 [.slice a16 m.comps.length c17,.slice a18 m.comps.length c19,.slice a20 m.comps.length c21,.slice a22 m.shares.length c23,vI (z5 m + ((m.shares.length : Nat) : Int))] 45,blk b1 (qn m) 26] _:=hs100
     have e101 : f98 1 = vI k:=(qp 1 rfl)
     rewrite [qm e101]
     have e102 : f98 2 = .pointer (some ⟨b1,0,none⟩):=(qp 2 rfl)
     rewrite [qm e102]
     have e103 : f98 5 = .pointer (some ⟨b28,0,none⟩):=(qp 5 rfl)
     rewrite [qm e103]
     rewrite [qm hu26]
     have e104 : f98 7 = vI ((i : Nat) : Int):=(qp 7 rfl)
     rewrite [qm e104]
     refine z7 (qb (qc ?_))
     refine qa rfl (qj (v:=vI ((i : Nat) : Int)) rfl rfl ?_)
     refine qa rfl (qt (v:=vI ((i + 1 : Nat) : Int)) rfl rfl rfl (ki (qz (by omega) (by omega))) ?_)
     refine qa rfl (qf (v:=vI ((i + 1 : Nat) : Int)) rfl rfl ?_)
     refine ql (qb ?_)
     refine ⟨_,?_,i + 1,a96,c97,rfl,by omega,rfl,rfl,rfl,rfl,rfl,hs100.popR.popR.popM⟩
     omega
    ·refine zn (z7 (qb ?_))
     have hno:=grTo_no (m:=m) (k:=k) (i:=i) (by omega) hc80
     have hs105 : St w (fun _=>False) w67 [ownI 39 6 a6 c6 ((grTo m k (i + 1)).length) ((grTo m k (i + 1)).flatMap z9),blk b28 [.slice a16 m.comps.length c17,.slice a18 m.comps.length c19,.slice a20 m.comps.length c21,.slice a22 m.shares.length c23,vI (z5 m + ((m.shares.length : Nat) : Int))] 45,blk b1 (qn m) 26] [rdI b76 (o77 + i * 2) (zw (m.shares[i]'(by omega))),arrI encR 2 a16 (ks m m.comps.length),arrI encR 2 a18 (ku m m.comps.length),arrI encR 2 a20 (kv m m.comps.length),arrI encI 1 a22 (j3 m m.shares.length),arrI zu 2 m.ca m.comps,arrI z1 3 m.la m.links,arrI zw 2 m.sa m.shares,ko m.comps]:=by rw [hno]; exact hs79
     refine qc ?_
     refine qa rfl (qj (v:=vI ((i : Nat) : Int)) rfl rfl ?_)
     refine qa rfl (qt (v:=vI ((i + 1 : Nat) : Int)) rfl rfl rfl (ki (qz (by omega) (by omega))) ?_)
     refine qa rfl (qf (v:=vI ((i + 1 : Nat) : Int)) rfl rfl ?_)
     refine ql (qb ?_)
     refine ⟨_,?_,i + 1,a6,c6,rfl,by omega,rfl,rfl,rfl,(congrArg (fun z : List CapV=>Value.slice a6 z.length c6) hno.symm),rfl,hs105.popR⟩
     omega
   ·refine ja (z0 (z0 (ke (qb (qi (qc ?_))))))
    refine qa rfl (qj (v:=.slice a6 ((grTo m k i).length) c6) rfl rfl ?_)
    refine qa rfl (qf (v:=.slice a6 ((grTo m k i).length) c6) rfl rfl ?_)
    refine ql (qb (zo ?_))
    refine ⟨.slice a6 ((grTo m k i).length) c6,res1 rfl,?_⟩
    obtain rfl : i = m.shares.length:=by omega
    have he:=x8 (k:=k) hright (by omega) (by omega)
    exact ⟨⟨a6,c6,by rw [he],by rw [he]; exact hs68.get 0 rfl,fun x ⟨o,e⟩=>hs68.newB 0 rfl x ⟨o,e⟩⟩,hs68.base⟩

set_option maxHeartbeats 3000000 in
/-- seizin/seizinref17.Pairs -/
theorem rpairs_c (m : ImageV) (k : Int) (w : World) (hm : ∀ i ∈ kh m,i.φ w) (hb : ImgB m) (hwr : ∀ s ∈ m.shares,s.wr ≤ 9223372036854775807) :
  C Try.prog 20 [.agg (qn m).toArray,vI k] w fun v w'=>(∃ a2 c2,v = .slice a2 (zc m k).length c2 ∧ (ownI 40 12 a2 c2 (zc m k).length ((zc m k).flatMap jt)).φ w' ∧ ∀ x,(ownI 40 12 a2 c2 (zc m k).length ((zc m k).flatMap jt)).fp x → w.heap.size ≤ x) ∧ Grow w w':=by
 have hs0 : St w (fun _=>False) w [] (kh m):=St.start w _ hm
 refine z8 [.tmp 4] 63 Try.func20 rfl Try.ntmps20 rfl rfl ?_
 refine qi (qc ?_)
 refine qa rfl (jw (v:=.agg (qn m).toArray) (cs:=(qn m)) hs0 rfl rfl rfl ?_)
 intro b1 w2 hb4 hs3
 refine qa rfl (qf (v:=.slice none 0 0) rfl rfl ?_)
 refine ql (qb (qi (qc ?_)))
 refine qa rfl (qf (v:=.slice none 0 0) rfl rfl ?_)
 refine ql (qb (qi (qi (qc ?_))))
 refine qa rfl (qf (v:=vI 0) rfl rfl ?_)
 refine ql (qb (zy ?_))
 have hs5:=hs3.ownNil 40 12
 refine kw (fun m_ f_ w_=>∃ i : Nat,∃ a5 : Option Addr,∃ c5 : Nat,m_ = m.links.length - i ∧ (i ≤ m.links.length) ∧ (z2 m = true ∨ i = 0) ∧ f_ 1 = vI k ∧ f_ 2 = .pointer (some ⟨b1,0,none⟩) ∧ f_ 5 = .slice a5 ((prTo m k i).length) c5 ∧ f_ 6 = vI ((i : Nat) : Int) ∧ St w (fun _=>False) w_ [ownI 40 12 a5 c5 ((prTo m k i).length) ((prTo m k i).flatMap jt),blk b1 (qn m) 26] (kh m)) ?_ ?_
 ·exact ⟨_,0,none,0,rfl,Nat.zero_le _,.inr rfl,rfl,rfl,rfl,rfl,hs5⟩
 ·intro m9 f6 w7; rintro ⟨i,a5,c5,rfl,hi,hri,e10,e11,e12,e13,hs8⟩
  rewrite [qm e10]
  rewrite [qm e11]
  rewrite [qm e12]
  rewrite [qm e13]
  refine qi (qi ?_)
  have hbl:=hb.ll
  refine qc ?_
  refine qa rfl (qj (v:=vI ((i : Nat) : Int)) rfl rfl ?_)
  refine qa rfl (qg rfl xx rfl (o':=4) rfl rfl ?_)
  refine qa rfl (qq (v:=.slice m.la m.links.length m.lcap) rfl ag23 (qh (hs8.get 1 rfl) rfl) rfl ?_)
  refine qa rfl (qx (len:=m.links.length) rfl un23 rfl ?_)
  refine qa rfl (qt (k:=.i64) (k':=.i64) (a:=((i : Nat) : Int)) (b:=((m.links.length : Nat) : Int)) rfl rfl rfl jg ?_)
  refine qa rfl (qj (v:=.bool (decide (((i : Nat) : Int) < ((m.links.length : Nat) : Int)))) rfl rfl ?_)
  refine kn (v:=.agg (qn m).toArray) rfl rfl rfl rfl (fun hg14=>qw (vs:=(qn m)) rfl ag26 sz26 (Rd.of_blk (hs8.get 1 rfl) 0 6) rfl rfl ⟨rfl,rfl⟩) ?_
  refine L_guard_t (v:=.bool (z2 m)) rfl rfl rfl rfl hs8 (fun hg15=>?_) (fun w19 hs20=>?_)
  ·refine zi (args:=[.agg (qn m).toArray]) rfl (cons2 (if_pos hg15) rfl) rfl en15 (rrightI_c m _ (hs8.r) hb hwr) ?_
   rintro _ w16 ⟨rfl,hk18⟩
   have hs17:=hs8.keep hk18
   exact ⟨rfl,hs17⟩
  refine qa rfl (ka rfl (j1 _ _) rfl ?_)
  refine ql (qb ?_)
  refine k5 (t:=((decide (((i : Nat) : Int) < ((m.links.length : Nat) : Int))) && (z2 m))) rfl (fun hc21=>?_) (fun hc21=>?_)
  ·refine zn (qb (qi (zy (qi ?_))))
   have hright : z2 m = true:=(Bool.and_eq_true _ _ ▸ hc21 : _ ∧ _).2
   have hil : i < m.links.length:=by have:=of_decide_eq_true (Bool.and_eq_true _ _ ▸ hc21 : _ ∧ _).1; omega
   have hok:=jy hright
   have:=hok.n4; have:=hok.l16
   refine qc ?_
   refine qa rfl (qg rfl xx rfl (o':=4) rfl rfl ?_)
   refine qa rfl (qq (v:=.slice m.la m.links.length m.lcap) rfl ag23 (qh (hs20.get 1 rfl) rfl) rfl ?_)
   refine qa rfl (qj (v:=vI ((i : Nat) : Int)) rfl rfl ?_)
   obtain ⟨b22,o23,ha24,hs25⟩:=hs20.elem 1 rfl i (by omega)
   refine qa rfl (qs rfl ha24 rfl un23 sz68 (by omega) (by omega) (o':=o23 + i * 3) (by omega) rfl ?_)
   refine qa rfl (qw (vs:=[vI ((m.links[i]'(by omega)).fr),vI ((m.links[i]'(by omega)).to),vI ((m.links[i]'(by omega)).ad)]) rfl ag68 sz68 ((hs25.getR 0 rfl).2) rfl rfl ?_)
   refine qa rfl (kk (cs:=[vI 0,vI 0,vI 0]) hs25 zv68 rfl rfl ?_)
   intro b26 w27 hb29 hs28
   refine qa rfl (zx (v:=.agg #[vI ((m.links[i]'(by omega)).fr),vI ((m.links[i]'(by omega)).to),vI ((m.links[i]'(by omega)).ad)]) (vs:=[vI ((m.links[i]'(by omega)).fr),vI ((m.links[i]'(by omega)).to),vI ((m.links[i]'(by omega)).ad)]) (cs':=[vI ((m.links[i]'(by omega)).fr),vI ((m.links[i]'(by omega)).to),vI ((m.links[i]'(by omega)).ad)]) hs28 0 rfl rfl rfl sz68 rfl rfl rfl rfl rfl ?_)
   intro w30 hs31
   refine ql (qb (qi (qi (qc ?_))))
   refine qa rfl (qg rfl fd68_0 rfl (o':=0) rfl rfl ?_)
   refine qa rfl (qq (v:=vI ((m.links[i]'(by omega)).fr)) rfl ag3 (qh (hs31.get 0 rfl) rfl) rfl ?_)
   refine qa rfl (qj (v:=vI k) rfl rfl ?_)
   refine qa rfl (qt (k:=.i64) (k':=.i64) (a:=((m.links[i]'(by omega)).fr)) (b:=k) rfl rfl rfl yd ?_)
   refine ql (qb ?_)
   refine zd rfl (fun hc32=>?_) (fun hc32=>?_)
   ·refine ja (z0 (ke (qb ?_)))
    have hno:=prTo_no (m:=m) (k:=k) (i:=i) (by omega) hc32
    have hs33 : St w (fun _=>False) w30 [blk b26 [vI ((m.links[i]'(by omega)).fr),vI ((m.links[i]'(by omega)).to),vI ((m.links[i]'(by omega)).ad)] 68,ownI 40 12 a5 c5 ((prTo m k (i + 1)).length) ((prTo m k (i + 1)).flatMap jt),blk b1 (qn m) 26] [rdI b22 (o23 + i * 3) (z1 (m.links[i]'(by omega))),arrI zu 2 m.ca m.comps,arrI z1 3 m.la m.links,arrI zw 2 m.sa m.shares,ko m.comps]:=by rw [hno]; exact hs31
    refine qc ?_
    refine qa rfl (qj (v:=vI ((i : Nat) : Int)) rfl rfl ?_)
    refine qa rfl (qt (v:=vI ((i + 1 : Nat) : Int)) rfl rfl rfl (ki (qz (by omega) (by omega))) ?_)
    refine qa rfl (qf (v:=vI ((i + 1 : Nat) : Int)) rfl rfl ?_)
    refine ql (qb ?_)
    refine ⟨_,?_,i + 1,a5,c5,rfl,by omega,.inl hright,rfl,rfl,(congrArg (fun z : List (CapV × CapV)=>Value.slice a5 z.length c5) hno.symm),rfl,hs33.popR.popM⟩
    omega
   ·refine zn (qb (qi (qc ?_)))
    refine qa rfl (qw (vs:=(qn m)) rfl ag26 sz26 (Rd.of_blk (hs31.get 2 rfl) 0 6) rfl rfl ?_)
    refine qa rfl (qg rfl fd68_1 rfl (o':=1) rfl rfl ?_)
    refine qa rfl (qq (v:=vI ((m.links[i]'(by omega)).to)) rfl ag3 (qh (hs31.get 0 rfl) rfl) rfl ?_)
    refine qa rfl (zi (args:=[.agg (qn m).toArray,vI ((m.links[i]'(by omega)).to)]) rfl rfl rfl en26 (rgrants_c m ((m.links[i]'(by omega)).to) _ (hs31.popR.r) hb hwr) ?_)
    rintro _ w36 ⟨⟨a34,c35,rfl,ha38,hn39⟩,hk40⟩
    have hs37:=hs31.add hk40 (ownI 39 6 a34 c35 ((zr m ((m.links[i]'(by omega)).to)).length) ((zr m ((m.links[i]'(by omega)).to)).flatMap z9)) ha38 hn39
    refine qa rfl (qf (v:=.slice a34 ((zr m ((m.links[i]'(by omega)).to)).length) c35) rfl rfl ?_)
    refine ql (qb (qi ?_))
    have hs41:=hs37.ownArr 0 (enc:=z9) (l:=(zr m (m.links[i]'(by omega)).to)) rfl (fun _=>rfl) (by decide)
    have hlk:=linkS_ok (hok.link _ (List.getElem_mem (by omega : i < m.links.length)))
    have hgl:=grants_len (m:=m) (k:=(m.links[i]'(by omega)).to) hright (by omega) (by omega)
    obtain ⟨g0,g1⟩:=grants_01 (m:=m) (k:=(m.links[i]'(by omega)).to) hright (by omega) (by omega) (by omega)
    have hcb:=codeAt_b hok (i:=(m.links[i]'(by omega)).to.toNat) (by omega); have had:=link_ad hok (List.getElem_mem (by omega : i < m.links.length))
    refine qc ?_
    refine qa rfl (qj (v:=.slice a34 ((zr m ((m.links[i]'(by omega)).to)).length) c35) rfl rfl ?_)
    obtain ⟨b42,o43,ha44,hs45⟩:=hs41.elem 0 rfl 0 (by omega)
    rw [g0] at hs45
    refine qa rfl (qs rfl ha44 rfl un48 sz39 (by omega) (by omega) (o':=o43 + 0 * 6) (by omega) rfl ?_)
    refine qa rfl (qw (vs:=[.bool true,vI ((qr m (m.links[i]'(by omega)).to.toNat).1),vI ((qr m (m.links[i]'(by omega)).to.toNat).2),vI ((qr m (m.links[i]'(by omega)).to.toNat).1),vI 5,vI 0]) rfl ag39 sz39 ((hs45.getR 0 rfl).2) rfl rfl ?_)
    refine qa rfl (kk (cs:=[.bool false,vI 0,vI 0,vI 0,vI 0,vI 0]) hs45 zv39 rfl rfl ?_)
    intro b46 w47 hb49 hs48
    refine qa rfl (zx (v:=.agg #[.bool true,vI ((qr m (m.links[i]'(by omega)).to.toNat).1),vI ((qr m (m.links[i]'(by omega)).to.toNat).2),vI ((qr m (m.links[i]'(by omega)).to.toNat).1),vI 5,vI 0]) (vs:=[.bool true,vI ((qr m (m.links[i]'(by omega)).to.toNat).1),vI ((qr m (m.links[i]'(by omega)).to.toNat).2),vI ((qr m (m.links[i]'(by omega)).to.toNat).1),vI 5,vI 0]) (cs':=[.bool true,vI ((qr m (m.links[i]'(by omega)).to.toNat).1),vI ((qr m (m.links[i]'(by omega)).to.toNat).2),vI ((qr m (m.links[i]'(by omega)).to.toNat).1),vI 5,vI 0]) hs48 0 rfl rfl rfl sz39 rfl rfl rfl rfl rfl ?_)
    intro w50 hs51
    refine ql (qb (qi (qc ?_)))
    refine qa rfl (qg rfl fd39_1 rfl (o':=1) rfl rfl ?_)
    refine qa rfl (qq (v:=vI ((qr m (m.links[i]'(by omega)).to.toNat).1)) rfl ag3 (qh (hs51.get 0 rfl) rfl) rfl ?_)
    refine qa rfl (qg rfl fd68_2 rfl (o':=2) rfl rfl ?_)
    refine qa rfl (qq (v:=vI ((m.links[i]'(by omega)).ad)) rfl ag3 (qh (hs51.get 1 rfl) rfl) rfl ?_)
    refine qa rfl (qt (v:=vI (4 * ((m.links[i]'(by omega)).ad))) rfl rfl rfl (b_mul (qz (by omega) (by omega))) ?_)
    refine qa rfl (qt (v:=vI (((qr m (m.links[i]'(by omega)).to.toNat).1) + (4 * ((m.links[i]'(by omega)).ad)))) rfl rfl rfl (ki (qz (by omega) (by omega))) ?_)
    refine qa rfl (qg rfl fd39_3 rfl (o':=3) rfl rfl ?_)
    refine qa rfl (zx (v:=vI (((qr m (m.links[i]'(by omega)).to.toNat).1) + (4 * ((m.links[i]'(by omega)).ad)))) (vs:=[vI (((qr m (m.links[i]'(by omega)).to.toNat).1) + (4 * ((m.links[i]'(by omega)).ad)))]) (cs':=[.bool true,vI ((qr m (m.links[i]'(by omega)).to.toNat).1),vI ((qr m (m.links[i]'(by omega)).to.toNat).2),vI (((qr m (m.links[i]'(by omega)).to.toNat).1) + (4 * ((m.links[i]'(by omega)).ad))),vI 5,vI 0]) hs51 0 rfl rfl rfl sz3 rfl rfl rfl rfl rfl ?_)
    intro w52 hs53
    refine ql (qb (qi (qc ?_)))
    refine qa rfl (qg rfl fd68_1 rfl (o':=1) rfl rfl ?_)
    refine qa rfl (qq (v:=vI ((m.links[i]'(by omega)).to)) rfl ag3 (qh (hs53.get 1 rfl) rfl) rfl ?_)
    refine qa rfl (qt (v:=vI (2 + ((m.links[i]'(by omega)).to))) rfl rfl rfl (ki (qz (by omega) (by omega))) ?_)
    refine qa rfl (qg rfl fd39_5 rfl (o':=5) rfl rfl ?_)
    refine qa rfl (zx (v:=vI (2 + ((m.links[i]'(by omega)).to))) (vs:=[vI (2 + ((m.links[i]'(by omega)).to))]) (cs':=[.bool true,vI ((qr m (m.links[i]'(by omega)).to.toNat).1),vI ((qr m (m.links[i]'(by omega)).to.toNat).2),vI (((qr m (m.links[i]'(by omega)).to.toNat).1) + (4 * ((m.links[i]'(by omega)).ad))),vI 5,vI (2 + ((m.links[i]'(by omega)).to))]) hs53 0 rfl rfl rfl sz3 rfl rfl rfl rfl rfl ?_)
    intro w54 hs55
    refine ql (qb (qi (qc ?_)))
    refine qa rfl (qj (v:=.slice a34 ((zr m ((m.links[i]'(by omega)).to)).length) c35) rfl rfl ?_)
    obtain ⟨b56,o57,ha58,hs59⟩:=hs55.elem 1 rfl 1 (by omega)
    rw [g1] at hs59
    refine qa rfl (qs rfl ha58 rfl un48 sz39 (by omega) (by omega) (o':=o57 + 1 * 6) (by omega) rfl ?_)
    refine qa rfl (qw (vs:=[.bool true,vI ((qv m (m.links[i]'(by omega)).to.toNat).1),vI ((qv m (m.links[i]'(by omega)).to.toNat).2),vI ((qv m (m.links[i]'(by omega)).to.toNat).1),vI 27,vI 0]) rfl ag39 sz39 ((hs59.getR 0 rfl).2) rfl rfl ?_)
    refine qa rfl (kk (cs:=[.bool false,vI 0,vI 0,vI 0,vI 0,vI 0]) hs59 zv39 rfl rfl ?_)
    intro b60 w61 hb63 hs62
    refine qa rfl (zx (v:=.agg #[.bool true,vI ((qv m (m.links[i]'(by omega)).to.toNat).1),vI ((qv m (m.links[i]'(by omega)).to.toNat).2),vI ((qv m (m.links[i]'(by omega)).to.toNat).1),vI 27,vI 0]) (vs:=[.bool true,vI ((qv m (m.links[i]'(by omega)).to.toNat).1),vI ((qv m (m.links[i]'(by omega)).to.toNat).2),vI ((qv m (m.links[i]'(by omega)).to.toNat).1),vI 27,vI 0]) (cs':=[.bool true,vI ((qv m (m.links[i]'(by omega)).to.toNat).1),vI ((qv m (m.links[i]'(by omega)).to.toNat).2),vI ((qv m (m.links[i]'(by omega)).to.toNat).1),vI 27,vI 0]) hs62 0 rfl rfl rfl sz39 rfl rfl rfl rfl rfl ?_)
    intro w64 hs65
    refine ql (qb (qi (qc ?_)))
    refine qa rfl (qg rfl fd68_1 rfl (o':=1) rfl rfl ?_)
    refine qa rfl (qq (v:=vI ((m.links[i]'(by omega)).to)) rfl ag3 (qh (hs65.get 2 rfl) rfl) rfl ?_)
    refine qa rfl (qt (v:=vI (2 + ((m.links[i]'(by omega)).to))) rfl rfl rfl (ki (qz (by omega) (by omega))) ?_)
    refine qa rfl (qg rfl fd39_5 rfl (o':=5) rfl rfl ?_)
    refine qa rfl (zx (v:=vI (2 + ((m.links[i]'(by omega)).to))) (vs:=[vI (2 + ((m.links[i]'(by omega)).to))]) (cs':=[.bool true,vI ((qv m (m.links[i]'(by omega)).to.toNat).1),vI ((qv m (m.links[i]'(by omega)).to.toNat).2),vI ((qv m (m.links[i]'(by omega)).to.toNat).1),vI 27,vI (2 + ((m.links[i]'(by omega)).to))]) hs65 0 rfl rfl rfl sz3 rfl rfl rfl rfl rfl ?_)
    intro w66 hs67
    refine ql (qb (qc ?_))
    refine qa rfl (qj (v:=.slice a5 ((prTo m k i).length) c5) rfl rfl ?_)
    refine qa rfl (qw (vs:=[.bool true,vI ((qr m (m.links[i]'(by omega)).to.toNat).1),vI ((qr m (m.links[i]'(by omega)).to.toNat).2),vI (((qr m (m.links[i]'(by omega)).to.toNat).1) + (4 * ((m.links[i]'(by omega)).ad))),vI 5,vI (2 + ((m.links[i]'(by omega)).to))]) rfl ag39 sz39 (Rd.of_blk (hs67.get 1 rfl) 0 6) rfl rfl ?_)
    refine qa rfl (qw (vs:=[.bool true,vI ((qv m (m.links[i]'(by omega)).to.toNat).1),vI ((qv m (m.links[i]'(by omega)).to.toNat).2),vI ((qv m (m.links[i]'(by omega)).to.toNat).1),vI 27,vI (2 + ((m.links[i]'(by omega)).to))]) rfl ag39 sz39 (Rd.of_blk (hs67.get 0 rfl) 0 6) rfl rfl ?_)
    refine qa rfl (xe (ps:=[(0,[.bool true,vI ((qr m (m.links[i]'(by omega)).to.toNat).1),vI ((qr m (m.links[i]'(by omega)).to.toNat).2),vI (((qr m (m.links[i]'(by omega)).to.toNat).1) + (4 * ((m.links[i]'(by omega)).ad))),vI 5,vI (2 + ((m.links[i]'(by omega)).to))]),(1,[.bool true,vI ((qv m (m.links[i]'(by omega)).to.toNat).1),vI ((qv m (m.links[i]'(by omega)).to.toNat).2),vI ((qv m (m.links[i]'(by omega)).to.toNat).1),vI 27,vI (2 + ((m.links[i]'(by omega)).to))])]) (zero:=[.bool false,vI 0,vI 0,vI 0,vI 0,vI 0,.bool false,vI 0,vI 0,vI 0,vI 0,vI 0]) (cells:=[.bool true,vI ((qr m (m.links[i]'(by omega)).to.toNat).1),vI ((qr m (m.links[i]'(by omega)).to.toNat).2),vI (((qr m (m.links[i]'(by omega)).to.toNat).1) + (4 * ((m.links[i]'(by omega)).ad))),vI 5,vI (2 + ((m.links[i]'(by omega)).to)),.bool true,vI ((qv m (m.links[i]'(by omega)).to.toNat).1),vI ((qv m (m.links[i]'(by omega)).to.toNat).2),vI ((qv m (m.links[i]'(by omega)).to.toNat).1),vI 27,vI (2 + ((m.links[i]'(by omega)).to))]) un40 sz39 zv40 rfl rfl rfl rfl ?_)
    refine qa rfl (O_buildSliceR (zl:=[.bool false,vI 0,vI 0,vI 0,vI 0,vI 0,.bool false,vI 0,vI 0,vI 0,vI 0,vI 0]) (zs:=[.bool false,vI 0,vI 0,vI 0,vI 0,vI 0,.bool false,vI 0,vI 0,vI 0,vI 0,vI 0]) (ps:=[(0,[.bool true,vI ((qr m (m.links[i]'(by omega)).to.toNat).1),vI ((qr m (m.links[i]'(by omega)).to.toNat).2),vI (((qr m (m.links[i]'(by omega)).to.toNat).1) + (4 * ((m.links[i]'(by omega)).ad))),vI 5,vI (2 + ((m.links[i]'(by omega)).to)),.bool true,vI ((qv m (m.links[i]'(by omega)).to.toNat).1),vI ((qv m (m.links[i]'(by omega)).to.toNat).2),vI ((qv m (m.links[i]'(by omega)).to.toNat).1),vI 27,vI (2 + ((m.links[i]'(by omega)).to))])]) (cs:=[.bool true,vI ((qr m (m.links[i]'(by omega)).to.toNat).1),vI ((qr m (m.links[i]'(by omega)).to.toNat).2),vI (((qr m (m.links[i]'(by omega)).to.toNat).1) + (4 * ((m.links[i]'(by omega)).ad))),vI 5,vI (2 + ((m.links[i]'(by omega)).to)),.bool true,vI ((qv m (m.links[i]'(by omega)).to.toNat).1),vI ((qv m (m.links[i]'(by omega)).to.toNat).2),vI ((qv m (m.links[i]'(by omega)).to.toNat).1),vI 27,vI (2 + ((m.links[i]'(by omega)).to))]) hs67 un36 sz40 zv40 rfl rfl rfl rfl rfl rfl rfl ?_)
    intro b68 w69 hb71 hs70
    refine qa rfl (k7 (n2:=(prTo m k (i + 1)).length) (xs2:=(prTo m k (i + 1)).flatMap jt) hs70 4 rfl rfl rfl un36 ni36 inf40 rfl (Src.rd (news:=[.bool true,vI ((qr m (m.links[i]'(by omega)).to.toNat).1),vI ((qr m (m.links[i]'(by omega)).to.toNat).2),vI (((qr m (m.links[i]'(by omega)).to.toNat).1) + (4 * ((m.links[i]'(by omega)).ad))),vI 5,vI (2 + ((m.links[i]'(by omega)).to)),.bool true,vI ((qv m (m.links[i]'(by omega)).to.toNat).1),vI ((qv m (m.links[i]'(by omega)).to.toNat).2),vI ((qv m (m.links[i]'(by omega)).to.toNat).1),vI 27,vI (2 + ((m.links[i]'(by omega)).to))]) (Rd.of_blk (hs70.get 0 rfl) 0 12) rfl rfl) (by rw [prTo_yes (by omega) (by simpa using hc32),List.length_append,List.length_singleton]) (by rw [prTo_yes (by omega) (by simpa using hc32),List.flatMap_append]; rfl) (by have:=prTo_len m k i; omega) (by have:=prTo_len m k i; omega) rfl ?_)
    intro a72 c73 w74 hs75
    refine qa rfl (qf (v:=.slice a72 ((prTo m k (i + 1)).length) c73) rfl rfl ?_)
    refine ql (z7 (qb (qc ?_)))
    refine qa rfl (qj (v:=vI ((i : Nat) : Int)) rfl rfl ?_)
    refine qa rfl (qt (v:=vI ((i + 1 : Nat) : Int)) rfl rfl rfl (ki (qz (by omega) (by omega))) ?_)
    refine qa rfl (qf (v:=vI ((i + 1 : Nat) : Int)) rfl rfl ?_)
    refine ql (qb ?_)
    refine ⟨_,?_,i + 1,a72,c73,rfl,by omega,.inl hright,rfl,rfl,rfl,rfl,hs75.popR.popR.popR.popR.popM.popM.popM.popM⟩
    omega
  ·refine ja (z0 (z0 (ke (qb (qi (qc ?_))))))
   refine qa rfl (qj (v:=.slice a5 ((prTo m k i).length) c5) rfl rfl ?_)
   refine qa rfl (qf (v:=.slice a5 ((prTo m k i).length) c5) rfl rfl ?_)
   refine ql (qb (zo ?_))
   refine ⟨.slice a5 ((prTo m k i).length) c5,res1 rfl,?_⟩
   have he:=rpairs_end (k:=k) hi hri hc21
   exact ⟨⟨a5,c5,by rw [he],by rw [he]; exact hs20.get 0 rfl,fun x ⟨o,e⟩=>hs20.newB 0 rfl x ⟨o,e⟩⟩,hs20.base⟩


end Go.Proofs.Ytgddigkdldnmdaa
