import Derived.Test.YtgddigkdldnmdaaCWhere6
namespace Go.Proofs.Ytgddigkdldnmdaa
open Go Go.Vg Go.Img
set_option linter.unusedSimpArgs false
set_option maxHeartbeats 4000000
theorem en22 : ∀ args w,(callFunc 22 args).run Try.prog w = .ok (.enter 22 args) w:=fun args w=>qy Try.func22 (by kernel_rfl) rfl args w
theorem en45 : ∀ args w,(callFunc 45 args).run Try.prog w = .ok (.enter 45 args) w:=fun args w=>qy Try.func45 (by kernel_rfl) rfl args w
theorem un48 : Un Try.prog 48 (.slice 39):=Try.underlying48
theorem ni48 : NotInt Try.prog 48:=⟨_,Try.underlying48,by intro k h; cases h⟩
theorem inf39 : Inf Try.prog 39 (.agg #[.bool false,vI 0,vI 0,vI 0,vI 0,vI 0]) 6 48:=by unfold Inf; kernel_rfl
theorem en25 : ∀ args w,(callFunc 25 args).run Try.prog w = .ok (.enter 25 args) w:=fun args w=>qy Try.func25 (by kernel_rfl) rfl args w
theorem fd39_3 : FdAt Try.prog 39 3 3 1 false:=FdAt.mk' _ _ Try.underlying39 rfl rfl (fun _=>by kernel_rfl) (fun _=>by kernel_rfl)
theorem fd39_5 : FdAt Try.prog 39 5 5 1 false:=FdAt.mk' _ _ Try.underlying39 rfl rfl (fun _=>by kernel_rfl) (fun _=>by kernel_rfl)
theorem un40 : Un Try.prog 40 (.array 2 39):=Try.underlying40
theorem zv40 : Zv Try.prog 40 (.agg #[.bool false,vI 0,vI 0,vI 0,vI 0,vI 0,.bool false,vI 0,vI 0,vI 0,vI 0,vI 0]):=Try.zeroValue40
theorem un36 : Un Try.prog 36 (.slice 40):=Try.underlying36
theorem sz40 : Sz Try.prog 40 12:=fun _=>by kernel_rfl
theorem ni36 : NotInt Try.prog 36:=⟨_,Try.underlying36,by intro k h; cases h⟩
theorem inf40 : Inf Try.prog 40 (.agg #[.bool false,vI 0,vI 0,vI 0,vI 0,vI 0,.bool false,vI 0,vI 0,vI 0,vI 0,vI 0]) 12 96:=by unfold Inf; kernel_rfl

theorem where_r (m : ImageV) (hr : z2 m = true) (w : World) (hm : ∀ i ∈ kh m,i.φ w) (hb : ImgB m) :
  C Try.prog 22 [.agg (qn m).toArray] w fun v w' =>
   (∃ a1 c1 a2 c2 a3 c3 a4 c4,v = .agg #[.slice a1 m.comps.length c1,.slice a2 m.comps.length c2,.slice a3 m.comps.length c3,.slice a4 m.shares.length c4,vI (z5 m + ((m.shares.length : Nat) : Int))] ∧
    ∀ i ∈ [arrI encR 2 a1 (ks m m.comps.length),arrI encR 2 a2 (ku m m.comps.length),arrI encR 2 a3 (kv m m.comps.length),arrI encI 1 a4 (j3 m m.shares.length)],i.φ w' ∧ ∀ b,i.fp b → w.heap.size ≤ b) ∧ Grow w w':=by
 refine C.mono (where_c m w hm hb) ?_
 rintro v w' ⟨⟨A,rfl,h1,h2,h3⟩,hk⟩
 have he:=whereS_yes hr
 rw [he] at h1 h2
 refine ⟨⟨A.a1,A.c1,A.a2,A.c2,A.a3,A.c3,A.a4,A.c4,by rw [he,← lay_v],fun i hi=>⟨h1 i hi,h2 i hi⟩⟩,hk⟩

theorem codesTo_get {m : ImageV} {n i : Nat} (h : i < (ks m n).length) : (ks m n)[i] = qr m i:=by simp [ks]
theorem datasTo_get {m : ImageV} {n i : Nat} (h : i < (ku m n).length) : (ku m n)[i] = qv m i:=by simp [ku]
theorem heapsTo_get {m : ImageV} {n i : Nat} (h : i < (kv m n).length) : (kv m n)[i] = heapAt m i:=by simp [kv]
theorem shsTo_get {m : ImageV} {n i : Nat} (h : i < (j3 m n).length) : (j3 m n)[i] = shAt m i:=by simp [j3]
theorem shAt_b {m : ImageV} (h : RightOk m) {i : Nat} (hi : i < m.shares.length) : 0 ≤ shAt m i ∧ shAt m i ≤ 100000:=by
 have:=pgEnd_b h; have:=h.s4
 unfold shAt; omega
theorem codeAt_b {m : ImageV} (h : RightOk m) {i : Nat} (hi : i < m.comps.length) : 0 ≤ (qr m i).1 ∧ (qr m i).1 ≤ 100000:=by
 have:=pgAt_b h i (by omega); have:=h.n4
 unfold qr
 constructor
 ·show 0 ≤ pgAt m i * 256; omega
 ·show pgAt m i * 256 ≤ 100000; omega
theorem grants_no {m : ImageV} {k : Int} (h : (z2 m = false ∨ k < 0) ∨ ((m.comps.length : Nat) : Int) ≤ k) : zr m k = []:=by
 unfold zr
 rw [if_neg]
 rintro ⟨h1,h2,h3⟩
 rcases h with (h|h)|h
 ·rw [h1] at h; cases h
 ·omega
 ·omega
theorem x8 {m : ImageV} {k : Int} (h : z2 m = true) (h1 : 0 ≤ k) (h2 : k < m.comps.length) : zr m k = grTo m k m.shares.length:=by
 unfold zr
 rw [if_pos ⟨h,h1,h2⟩]
theorem grants_len {m : ImageV} {k : Int} (h : z2 m = true) (h1 : 0 ≤ k) (h2 : k < m.comps.length) : 3 ≤ (zr m k).length:=by
 rw [x8 h h1 h2]; exact (grTo_len _ _ _).1
theorem grants_01 {m : ImageV} {k : Int} (h : z2 m = true) (h1 : 0 ≤ k) (h2 : k < m.comps.length) (h3 : 3 ≤ (zr m k).length) : (zr m k)[0]'(by omega) = xk (qr m k.toNat) 5 ∧ (zr m k)[1]'(by omega) = xk (qv m k.toNat) 27:=by
 constructor
 ·rw [List.getElem_of_eq (x8 h h1 h2)]; rfl
 ·rw [List.getElem_of_eq (x8 h h1 h2)]; rfl
theorem link_ad {m : ImageV} (h : RightOk m) {k : LinkV} (hk : k ∈ m.links) : 0 ≤ k.ad ∧ k.ad ≤ 1024:=by
 have:=linkS_ok (h.link k hk)
 have hc:=h.comp _ (List.getElem_mem (by omega : k.to.toNat < m.comps.length))
 have:=hc.lm
 have e:=codeLen_at (m:=m) (t:=k.to) (by omega) (by omega)
 omega

set_option maxHeartbeats 2000000 in
/-- seizin/image.Grants -/
theorem grants_c (m : ImageV) (k : Int) (w : World) (hm : ∀ i ∈ kh m,i.φ w) (hb : ImgB m) :
  C Try.prog 25 [.agg (qn m).toArray,vI k] w fun v w'=>(∃ a2 c2,v = .slice a2 (zr m k).length c2 ∧ (ownI 39 6 a2 c2 (zr m k).length ((zr m k).flatMap z9)).φ w' ∧ ∀ x,(ownI 39 6 a2 c2 (zr m k).length ((zr m k).flatMap z9)).fp x → w.heap.size ≤ x) ∧ Grow w w':=by
 have hs0 : St w (fun _=>False) w [] (kh m):=St.start w _ hm
 refine z8 [.tmp 4] 87 Try.func25 rfl Try.ntmps25 rfl rfl ?_
 refine qi (qc ?_)
 refine qa rfl (jw (v:=.agg (qn m).toArray) (cs:=(qn m)) hs0 rfl rfl rfl ?_)
 intro b1 w2 hb4 hs3
 refine qa rfl (qf (v:=.slice none 0 0) rfl rfl ?_)
 refine ql (qb (qi (qi (qc ?_))))
 refine qa rfl (qw (vs:=(qn m)) rfl ag26 sz26 (Rd.of_blk (hs3.get 0 rfl) 0 6) rfl rfl ?_)
 refine qa rfl (zi (args:=[.agg (qn m).toArray]) rfl rfl rfl en14 (iright_c m _ (hs3.r) hb) ?_)
 rintro _ w5 ⟨rfl,hk7⟩
 have hs6:=hs3.keep hk7
 refine qa rfl (j0 (b:=(z2 m)) rfl rfl ?_)
 refine qa rfl (qj (v:=.bool (!(z2 m))) rfl rfl ?_)
 refine q4 (v:=vI k) rfl rfl rfl rfl (fun hg8=>qj (v:=vI k) rfl rfl ⟨rfl,rfl⟩) ?_
 refine q4 (v:=.bool (decide (k < 0))) rfl rfl rfl rfl (fun hg9=>qt (k:=.i64) (k':=.i64) (a:=k) (b:=0) (show ev _ _ = vI k from if_pos hg9) rfl rfl jg ⟨rfl,rfl⟩) ?_
 refine qa rfl (ka rfl (jk _ _) rfl ?_)
 refine qa rfl (qj (v:=.bool ((!(z2 m)) || decide (k < 0))) rfl rfl ?_)
 refine q4 (v:=vI k) rfl rfl rfl rfl (fun hg10=>qj (v:=vI k) rfl rfl ⟨rfl,rfl⟩) ?_
 refine q4 (v:=.pointer (some ⟨b1,3,none⟩)) rfl rfl rfl rfl (fun hg11=>qg rfl jq rfl (o':=3) rfl rfl ⟨rfl,rfl⟩) ?_
 refine q4 (v:=.slice m.ca m.comps.length m.ccap) rfl rfl rfl rfl (fun hg12=>qq (v:=.slice m.ca m.comps.length m.ccap) (show ev _ _ = .pointer (some ⟨b1,3,none⟩) from if_pos hg12) ag22 (qh (hs6.get 0 rfl) rfl) rfl ⟨rfl,rfl⟩) ?_
 refine q4 (v:=vI ((m.comps.length : Nat) : Int)) rfl rfl rfl rfl (fun hg13=>qx (len:=m.comps.length) (show ev _ _ = .slice m.ca m.comps.length m.ccap from if_pos hg13) un22 rfl ⟨rfl,rfl⟩) ?_
 refine q4 (v:=.bool (decide (((m.comps.length : Nat) : Int) ≤ k))) rfl rfl rfl rfl (fun hg14=>qt (k:=.i64) (k':=.i64) (a:=k) (b:=((m.comps.length : Nat) : Int)) (show ev _ _ = vI k from if_pos hg14) (show ev _ _ = vI ((m.comps.length : Nat) : Int) from if_pos hg14) rfl b_geq ⟨rfl,rfl⟩) ?_
 refine qa rfl (ka rfl (jk _ _) rfl ?_)
 refine ql (qb ?_)
 refine k5 (t:=(((!(z2 m)) || decide (k < 0)) || (decide (((m.comps.length : Nat) : Int) ≤ k)))) rfl (fun hc15=>?_) (fun hc15=>?_)
 ·try simp only [Bool.and_eq_true,Bool.or_eq_true,Bool.not_eq_true',Bool.and_eq_false_iff,Bool.or_eq_false_iff,Bool.not_eq_false',decide_eq_true_eq,decide_eq_false_iff_not,Bool.and_eq_false_imp] at hc15
  refine qi (qc ?_)
  refine qa rfl (qf (v:=.slice none 0 0) rfl rfl ?_)
  refine ql (qb (zo (q9 ?_)))
  refine ⟨.slice none 0 0,res1 rfl,?_⟩
  have he:=grants_no hc15
  exact ⟨⟨none,0,by rw [he]; rfl,by rw [he]; exact ⟨rfl,Nat.le_refl _,.inl ⟨rfl,rfl⟩⟩,fun x ⟨o,e⟩=>by cases e⟩,hs6.base⟩
 ·try simp only [Bool.and_eq_true,Bool.or_eq_true,Bool.not_eq_true',Bool.and_eq_false_iff,Bool.or_eq_false_iff,Bool.not_eq_false',decide_eq_true_eq,decide_eq_false_iff_not,Bool.and_eq_false_imp] at hc15
  refine zn (qb (qi ?_))
  have hright : z2 m = true:=hc15.1.1
  have hnn : 0 ≤ k ∧ k < m.comps.length:=by have:=hc15.1.2; have:=hc15.2; omega
  have hok:=jy hright
  have:=hok.n4; have:=hok.s4
  refine qc ?_
  refine qa rfl (qw (vs:=(qn m)) rfl ag26 sz26 (Rd.of_blk (hs6.get 0 rfl) 0 6) rfl rfl ?_)
  refine qa rfl (zi (args:=[.agg (qn m).toArray]) rfl rfl rfl en22 (where_r m hright _ (hs6.r) hb) ?_)
  rintro _ w24 ⟨⟨a16,c17,a18,c19,a20,c21,a22,c23,rfl,hr26⟩,hk27⟩
  have hs25:=hs6.addRf hk27 [arrI encR 2 a16 (ks m m.comps.length),arrI encR 2 a18 (ku m m.comps.length),arrI encR 2 a20 (kv m m.comps.length),arrI encI 1 a22 (j3 m m.shares.length)] hr26
  refine qa rfl (kk (cs:=[.slice none 0 0,.slice none 0 0,.slice none 0 0,.slice none 0 0,vI 0]) hs25 zv45 rfl rfl ?_)
  intro b28 w29 hb31 hs30
  refine qa rfl (zx (v:=.agg #[.slice a16 m.comps.length c17,.slice a18 m.comps.length c19,.slice a20 m.comps.length c21,.slice a22 m.shares.length c23,vI (z5 m + ((m.shares.length : Nat) : Int))]) (vs:=[.slice a16 m.comps.length c17,.slice a18 m.comps.length c19,.slice a20 m.comps.length c21,.slice a22 m.shares.length c23,vI (z5 m + ((m.shares.length : Nat) : Int))]) (cs':=[.slice a16 m.comps.length c17,.slice a18 m.comps.length c19,.slice a20 m.comps.length c21,.slice a22 m.shares.length c23,vI (z5 m + ((m.shares.length : Nat) : Int))]) hs30 0 rfl rfl rfl sz45 rfl rfl rfl rfl rfl ?_)
  intro w32 hs33
  refine ql (qb (qi ?_))
  obtain ⟨b34,o35,ha36,hs37⟩:=hs33.elem 0 rfl k.toNat (by rw [codesTo_len]; omega)
  rw [codesTo_get] at hs37
  obtain ⟨b38,o39,ha40,hs41⟩:=hs37.elem 2 rfl k.toNat (by rw [datasTo_len]; omega)
  rw [datasTo_get] at hs41
  refine jc js (show St _ _ _ [blk b28 [.slice a16 m.comps.length c17,.slice a18 m.comps.length c19,.slice a20 m.comps.length c21,.slice a22 m.shares.length c23,vI (z5 m + ((m.shares.length : Nat) : Int))] 45,blk b1 (qn m) 26] _ from hs41) (fun i_=>match i_ with|19=>some ([45],fun vs_=>match vs_ with|[x45]=>blk (vblk x45) [.bool true,vI ((qr m k.toNat).1),vI ((qr m k.toNat).2),vI ((qr m k.toNat).1),vI 5,vI 0,.bool true,vI ((qv m k.toNat).1),vI ((qv m k.toNat).2),vI ((qv m k.toNat).1),vI 27,vI 0,.bool true,vI (16 + k),vI ((16 + k) + 1),vI (16 + k),vI 96,vI 0] 39|_=>emp)|20=>some ([6],fun vs_=>match vs_ with|[x6]=>blk (vblk x6) [.bool true,vI ((qr m k.toNat).1),vI ((qr m k.toNat).2),vI ((qr m k.toNat).1),vI 5,vI 0,.bool true,vI ((qv m k.toNat).1),vI ((qv m k.toNat).2),vI ((qv m k.toNat).1),vI 27,vI 0,.bool true,vI (16 + k),vI ((16 + k) + 1),vI (16 + k),vI 96,vI 0] 39|_=>emp)|_=>none) (fun i_=>match i_ with|20=>[19]|_=>[]) (fun i_=>match i_ with|1=>[21]|7=>[21]|_=>[]) (fun i_=>match i_ with|1=>[0]|3=>[1,2]|4=>[3]|5=>[4]|7=>[6]|9=>[7,8]|10=>[9]|11=>[10]|13=>[12]|15=>[14]|16=>[15]|17=>[13,16]|18=>[17]|19=>[5,11,18]|20=>[19]|_=>[]) [20,21,22,0,1,2,3,4,5,6,7,8,9,10,11,12,13,14,15,16,17,18,23,24,25,26,27,28,29,30,31,32,33,34,35,36,37,38,39,40,41,42,43] [20] (fun i_ v_=>match i_ with|0=>v_ = .pointer (some ⟨b28,0,none⟩)|1=>v_ = .slice a16 m.comps.length c17|2=>v_ = vI k|3=>v_ = .pointer (some ⟨b34,o35 + k.toNat * 2,none⟩)|4=>v_ = .agg #[vI ((qr m k.toNat).1),vI ((qr m k.toNat).2)]|5=>v_ = .agg #[.bool true,vI ((qr m k.toNat).1),vI ((qr m k.toNat).2),vI ((qr m k.toNat).1),vI 5,vI 0]|6=>v_ = .pointer (some ⟨b28,1,none⟩)|7=>v_ = .slice a18 m.comps.length c19|8=>v_ = vI k|9=>v_ = .pointer (some ⟨b38,o39 + k.toNat * 2,none⟩)|10=>v_ = .agg #[vI ((qv m k.toNat).1),vI ((qv m k.toNat).2)]|11=>v_ = .agg #[.bool true,vI ((qv m k.toNat).1),vI ((qv m k.toNat).2),vI ((qv m k.toNat).1),vI 27,vI 0]|12=>v_ = vI k|13=>v_ = vI (16 + k)|14=>v_ = vI k|15=>v_ = vI (16 + k)|16=>v_ = vI ((16 + k) + 1)|17=>v_ = .agg #[vI (16 + k),vI ((16 + k) + 1)]|18=>v_ = .agg #[.bool true,vI (16 + k),vI ((16 + k) + 1),vI (16 + k),vI 96,vI 0]|19=>∃ b51 : Nat,v_ = .slice (some ⟨b51,0,none⟩) 3 3|20=>∃ b55 : Nat,v_ = .slice (some ⟨b55,0,none⟩) 3 3|_=>True) (by kernel_rfl) (by kernel_rfl) ⟨?_,?_,?_,?_,?_,?_,?_,?_,?_,?_,?_,?_,?_,?_,?_,?_,?_,?_,?_,?_,?_,trivial⟩ ?_
  ·intro f0_ w0_ X0_ qp qo qu qk
   have hb5 : f0_ 5 = .pointer (some ⟨b28,0,none⟩):=(qp 5 rfl)
   refine qe rfl (qg hb5 fd45_0 rfl (o':=0) rfl rfl ?_)
   exact ⟨.pointer (some ⟨b28,0,none⟩),rfl,rfl,qk⟩
  ·intro f1_ w1_ X1_ qp qo qu qk
   obtain ⟨hu0,-⟩:=qo
   have hu0 : f1_ 26 = .pointer (some ⟨b28,0,none⟩):=hu0
   obtain ⟨hr21,-⟩:=qu
   have hr21 : Item.φ (blk b28 [.slice a16 m.comps.length c17,.slice a18 m.comps.length c19,.slice a20 m.comps.length c21,.slice a22 m.shares.length c23,vI (z5 m + ((m.shares.length : Nat) : Int))] 45) w1_:=hr21
   refine qe rfl (qq (v:=.slice a16 m.comps.length c17) hu0 ag42 (qh (hr21) rfl) rfl ?_)
   exact ⟨.slice a16 m.comps.length c17,rfl,rfl,qk⟩
  ·intro f2_ w2_ X2_ qp qo qu qk
   have hb1 : f2_ 1 = vI k:=(qp 1 rfl)
   refine qe rfl (qj (v:=vI k) hb1 rfl ?_)
   exact ⟨vI k,rfl,rfl,qk⟩
  ·intro f3_ w3_ X3_ qp qo qu qk
   obtain ⟨hu1,hu2,-⟩:=qo
   have hu1 : f3_ 27 = .slice a16 m.comps.length c17:=hu1
   have hu2 : f3_ 28 = vI k:=hu2
   refine qe rfl (qs hu1 ha36 hu2 un42 sz51 (by omega) (by omega) (o':=o35 + k.toNat * 2) (by omega) rfl ?_)
   exact ⟨.pointer (some ⟨b34,o35 + k.toNat * 2,none⟩),rfl,rfl,qk⟩
  ·intro f4_ w4_ X4_ qp qo qu qk
   obtain ⟨hu3,-⟩:=qo
   have hu3 : f4_ 29 = .pointer (some ⟨b34,o35 + k.toNat * 2,none⟩):=hu3
   refine qe rfl (qw (vs:=[vI ((qr m k.toNat).1),vI ((qr m k.toNat).2)]) hu3 ag51 sz51 ((qk.getR 1 rfl).2) rfl rfl ?_)
   exact ⟨.agg #[vI ((qr m k.toNat).1),vI ((qr m k.toNat).2)],rfl,rfl,qk⟩
  ·intro f5_ w5_ X5_ qp qo qu qk
   obtain ⟨hu4,-⟩:=qo
   have hu4 : f5_ 30 = .agg #[vI ((qr m k.toNat).1),vI ((qr m k.toNat).2)]:=hu4
   refine qe rfl (zi (args:=[.agg #[vI ((qr m k.toNat).1),vI ((qr m k.toNat).2)],vI 5]) rfl (by simp only [List.map_cons,List.map_nil,List.nil_append,List.cons_append,List.append_nil,ev,Value.cells,hu4]) rfl en45 (grant_c ((qr m k.toNat).1) ((qr m k.toNat).2) 5 _) ?_)
   rintro _ w42 ⟨rfl,hk44⟩
   have hs43:=qk.keep hk44
   exact ⟨.agg #[.bool true,vI ((qr m k.toNat).1),vI ((qr m k.toNat).2),vI ((qr m k.toNat).1),vI 5,vI 0],rfl,rfl,hs43⟩
  ·intro f6_ w6_ X6_ qp qo qu qk
   have hb5 : f6_ 5 = .pointer (some ⟨b28,0,none⟩):=(qp 5 rfl)
   refine qe rfl (qg hb5 fd45_1 rfl (o':=1) rfl rfl ?_)
   exact ⟨.pointer (some ⟨b28,1,none⟩),rfl,rfl,qk⟩
  ·intro f7_ w7_ X7_ qp qo qu qk
   obtain ⟨hu6,-⟩:=qo
   have hu6 : f7_ 32 = .pointer (some ⟨b28,1,none⟩):=hu6
   obtain ⟨hr21,-⟩:=qu
   have hr21 : Item.φ (blk b28 [.slice a16 m.comps.length c17,.slice a18 m.comps.length c19,.slice a20 m.comps.length c21,.slice a22 m.shares.length c23,vI (z5 m + ((m.shares.length : Nat) : Int))] 45) w7_:=hr21
   refine qe rfl (qq (v:=.slice a18 m.comps.length c19) hu6 ag42 (qh (hr21) rfl) rfl ?_)
   exact ⟨.slice a18 m.comps.length c19,rfl,rfl,qk⟩
  ·intro f8_ w8_ X8_ qp qo qu qk
   have hb1 : f8_ 1 = vI k:=(qp 1 rfl)
   refine qe rfl (qj (v:=vI k) hb1 rfl ?_)
   exact ⟨vI k,rfl,rfl,qk⟩
  ·intro f9_ w9_ X9_ qp qo qu qk
   obtain ⟨hu7,hu8,-⟩:=qo
   have hu7 : f9_ 33 = .slice a18 m.comps.length c19:=hu7
   have hu8 : f9_ 34 = vI k:=hu8
   refine qe rfl (qs hu7 ha40 hu8 un42 sz51 (by omega) (by omega) (o':=o39 + k.toNat * 2) (by omega) rfl ?_)
   exact ⟨.pointer (some ⟨b38,o39 + k.toNat * 2,none⟩),rfl,rfl,qk⟩
  ·intro f10_ w10_ X10_ qp qo qu qk
   obtain ⟨hu9,-⟩:=qo
   have hu9 : f10_ 35 = .pointer (some ⟨b38,o39 + k.toNat * 2,none⟩):=hu9
   refine qe rfl (qw (vs:=[vI ((qv m k.toNat).1),vI ((qv m k.toNat).2)]) hu9 ag51 sz51 ((qk.getR 0 rfl).2) rfl rfl ?_)
   exact ⟨.agg #[vI ((qv m k.toNat).1),vI ((qv m k.toNat).2)],rfl,rfl,qk⟩
  ·intro f11_ w11_ X11_ qp qo qu qk
   obtain ⟨hu10,-⟩:=qo
   have hu10 : f11_ 36 = .agg #[vI ((qv m k.toNat).1),vI ((qv m k.toNat).2)]:=hu10
   refine qe rfl (zi (args:=[.agg #[vI ((qv m k.toNat).1),vI ((qv m k.toNat).2)],vI 27]) rfl (by simp only [List.map_cons,List.map_nil,List.nil_append,List.cons_append,List.append_nil,ev,Value.cells,hu10]) rfl en45 (grant_c ((qv m k.toNat).1) ((qv m k.toNat).2) 27 _) ?_)
   rintro _ w45 ⟨rfl,hk47⟩
   have hs46:=qk.keep hk47
   exact ⟨.agg #[.bool true,vI ((qv m k.toNat).1),vI ((qv m k.toNat).2),vI ((qv m k.toNat).1),vI 27,vI 0],rfl,rfl,hs46⟩
  ·intro f12_ w12_ X12_ qp qo qu qk
   have hb1 : f12_ 1 = vI k:=(qp 1 rfl)
   refine qe rfl (qj (v:=vI k) hb1 rfl ?_)
   exact ⟨vI k,rfl,rfl,qk⟩
  ·intro f13_ w13_ X13_ qp qo qu qk
   obtain ⟨hu12,-⟩:=qo
   have hu12 : f13_ 38 = vI k:=hu12
   refine qe rfl (qt (v:=vI (16 + k)) rfl hu12 rfl (ki (qz (by omega) (by omega))) ?_)
   exact ⟨vI (16 + k),rfl,rfl,qk⟩
  ·intro f14_ w14_ X14_ qp qo qu qk
   have hb1 : f14_ 1 = vI k:=(qp 1 rfl)
   refine qe rfl (qj (v:=vI k) hb1 rfl ?_)
   exact ⟨vI k,rfl,rfl,qk⟩
  ·intro f15_ w15_ X15_ qp qo qu qk
   obtain ⟨hu14,-⟩:=qo
   have hu14 : f15_ 40 = vI k:=hu14
   refine qe rfl (qt (v:=vI (16 + k)) rfl hu14 rfl (ki (qz (by omega) (by omega))) ?_)
   exact ⟨vI (16 + k),rfl,rfl,qk⟩
  ·intro f16_ w16_ X16_ qp qo qu qk
   obtain ⟨hu15,-⟩:=qo
   have hu15 : f16_ 41 = vI (16 + k):=hu15
   refine qe rfl (qt (v:=vI ((16 + k) + 1)) hu15 rfl rfl (ki (qz (by omega) (by omega))) ?_)
   exact ⟨vI ((16 + k) + 1),rfl,rfl,qk⟩
  ·intro f17_ w17_ X17_ qp qo qu qk
   obtain ⟨hu13,hu16,-⟩:=qo
   have hu13 : f17_ 39 = vI (16 + k):=hu13
   have hu16 : f17_ 42 = vI ((16 + k) + 1):=hu16
   refine qe rfl (xe (ps:=[(0,[vI (16 + k)]),(1,[vI ((16 + k) + 1)])]) (zero:=[vI 0,vI 0]) (cells:=[vI (16 + k),vI ((16 + k) + 1)]) un51 sz3 zv51 rfl (by simp only [List.map_cons,List.map_nil,List.nil_append,List.cons_append,List.append_nil,ev,Value.cells,hu13,hu16]) rfl rfl ?_)
   exact ⟨.agg #[vI (16 + k),vI ((16 + k) + 1)],rfl,rfl,qk⟩
  ·intro f18_ w18_ X18_ qp qo qu qk
   obtain ⟨hu17,-⟩:=qo
   have hu17 : f18_ 43 = .agg #[vI (16 + k),vI ((16 + k) + 1)]:=hu17
   refine qe rfl (zi (args:=[.agg #[vI (16 + k),vI ((16 + k) + 1)],vI 96]) rfl (by simp only [List.map_cons,List.map_nil,List.nil_append,List.cons_append,List.append_nil,ev,Value.cells,hu17]) rfl en45 (grant_c (16 + k) ((16 + k) + 1) 96 _) ?_)
   rintro _ w48 ⟨rfl,hk50⟩
   have hs49:=qk.keep hk50
   exact ⟨.agg #[.bool true,vI (16 + k),vI ((16 + k) + 1),vI (16 + k),vI 96,vI 0],rfl,rfl,hs49⟩
  ·intro f19_ w19_ X19_ qp qo qu qk
   obtain ⟨hu5,hu11,hu18,-⟩:=qo
   have hu5 : f19_ 31 = .agg #[.bool true,vI ((qr m k.toNat).1),vI ((qr m k.toNat).2),vI ((qr m k.toNat).1),vI 5,vI 0]:=hu5
   have hu11 : f19_ 37 = .agg #[.bool true,vI ((qv m k.toNat).1),vI ((qv m k.toNat).2),vI ((qv m k.toNat).1),vI 27,vI 0]:=hu11
   have hu18 : f19_ 44 = .agg #[.bool true,vI (16 + k),vI ((16 + k) + 1),vI (16 + k),vI 96,vI 0]:=hu18
   refine qe rfl (O_buildSliceR (zl:=[.bool false,vI 0,vI 0,vI 0,vI 0,vI 0]) (zs:=[.bool false,vI 0,vI 0,vI 0,vI 0,vI 0,.bool false,vI 0,vI 0,vI 0,vI 0,vI 0,.bool false,vI 0,vI 0,vI 0,vI 0,vI 0]) (ps:=[(0,[.bool true,vI ((qr m k.toNat).1),vI ((qr m k.toNat).2),vI ((qr m k.toNat).1),vI 5,vI 0]),(1,[.bool true,vI ((qv m k.toNat).1),vI ((qv m k.toNat).2),vI ((qv m k.toNat).1),vI 27,vI 0]),(2,[.bool true,vI (16 + k),vI ((16 + k) + 1),vI (16 + k),vI 96,vI 0])]) (cs:=[.bool true,vI ((qr m k.toNat).1),vI ((qr m k.toNat).2),vI ((qr m k.toNat).1),vI 5,vI 0,.bool true,vI ((qv m k.toNat).1),vI ((qv m k.toNat).2),vI ((qv m k.toNat).1),vI 27,vI 0,.bool true,vI (16 + k),vI ((16 + k) + 1),vI (16 + k),vI 96,vI 0]) qk un48 sz39 zv39 rfl rfl rfl rfl (by simp only [List.map_cons,List.map_nil,List.nil_append,List.cons_append,List.append_nil,ev,Value.cells,hu5,hu11,hu18]) rfl rfl ?_)
   intro b51 w52 hb54 hs53
   refine ⟨.slice (some ⟨b51,0,none⟩) 3 3,rfl,⟨_,rfl⟩,?_⟩
   show St _ _ _ ((blk (vblk ((upd f19_ 45 (.slice (some ⟨b51,0,none⟩) 3 3)) 45)) [.bool true,vI ((qr m k.toNat).1),vI ((qr m k.toNat).2),vI ((qr m k.toNat).1),vI 5,vI 0,.bool true,vI ((qv m k.toNat).1),vI ((qv m k.toNat).2),vI ((qv m k.toNat).1),vI 27,vI 0,.bool true,vI (16 + k),vI ((16 + k) + 1),vI (16 + k),vI 96,vI 0] 39) :: X19_) _
   exact hs53
  ·intro f20_ w20_ X20_ qp qo qu qk
   obtain ⟨hu19,-⟩:=qo
   obtain ⟨b51,hu19⟩:=(show ∃ b51 : Nat,f20_ 45 = .slice (some ⟨b51,0,none⟩) 3 3 from hu19)
   have qk : St _ _ _ ((blk (vblk (f20_ 45)) [.bool true,vI ((qr m k.toNat).1),vI ((qr m k.toNat).2),vI ((qr m k.toNat).1),vI 5,vI 0,.bool true,vI ((qv m k.toNat).1),vI ((qv m k.toNat).2),vI ((qv m k.toNat).1),vI 27,vI 0,.bool true,vI (16 + k),vI ((16 + k) + 1),vI (16 + k),vI 96,vI 0] 39) :: X20_) _:=qk
   rw [hu19] at qk; simp only [vblk,zf,vcap,z3] at qk
   refine qe rfl (qf (v:=.slice (some ⟨b51,0,none⟩) 3 3) hu19 rfl ?_)
   refine ⟨.slice (some ⟨b51,0,none⟩) 3 3,rfl,⟨_,rfl⟩,?_⟩
   show St _ _ _ ((blk (vblk ((upd f20_ 6 (.slice (some ⟨b51,0,none⟩) 3 3)) 6)) [.bool true,vI ((qr m k.toNat).1),vI ((qr m k.toNat).2),vI ((qr m k.toNat).1),vI 5,vI 0,.bool true,vI ((qv m k.toNat).1),vI ((qv m k.toNat).2),vI ((qv m k.toNat).1),vI 27,vI 0,.bool true,vI (16 + k),vI ((16 + k) + 1),vI (16 + k),vI 96,vI 0] 39) :: X20_) _
   exact qk
  intro f56 w57 qp qo hs58
  obtain ⟨hu20,-⟩:=qo
  obtain ⟨b55,hu20⟩:=(show ∃ b55 : Nat,f56 6 = .slice (some ⟨b55,0,none⟩) 3 3 from hu20)
  have hs58 : St _ _ _ [blk (vblk (f56 6)) [.bool true,vI ((qr m k.toNat).1),vI ((qr m k.toNat).2),vI ((qr m k.toNat).1),vI 5,vI 0,.bool true,vI ((qv m k.toNat).1),vI ((qv m k.toNat).2),vI ((qv m k.toNat).1),vI 27,vI 0,.bool true,vI (16 + k),vI ((16 + k) + 1),vI (16 + k),vI 96,vI 0] 39,blk b28 [.slice a16 m.comps.length c17,.slice a18 m.comps.length c19,.slice a20 m.comps.length c21,.slice a22 m.shares.length c23,vI (z5 m + ((m.shares.length : Nat) : Int))] 45,blk b1 (qn m) 26] _:=hs58
  simp only [hu20,vblk,zf,vcap,z3] at hs58
  have hs58 : St _ _ _ [blk b55 [.bool true,vI ((qr m k.toNat).1),vI ((qr m k.toNat).2),vI ((qr m k.toNat).1),vI 5,vI 0,.bool true,vI ((qv m k.toNat).1),vI ((qv m k.toNat).2),vI ((qv m k.toNat).1),vI 27,vI 0,.bool true,vI (16 + k),vI ((16 + k) + 1),vI (16 + k),vI 96,vI 0] 39,blk b28 [.slice a16 m.comps.length c17,.slice a18 m.comps.length c19,.slice a20 m.comps.length c21,.slice a22 m.shares.length c23,vI (z5 m + ((m.shares.length : Nat) : Int))] 45,blk b1 (qn m) 26] _:=hs58
  have e59 : f56 1 = vI k:=(qp 1 rfl)
  rewrite [qm e59]
  have e60 : f56 2 = .pointer (some ⟨b1,0,none⟩):=(qp 2 rfl)
  rewrite [qm e60]
  have e61 : f56 5 = .pointer (some ⟨b28,0,none⟩):=(qp 5 rfl)
  rewrite [qm e61]
  rewrite [qm hu20]
  refine qb (qi (qi (qc ?_)))
  refine qa rfl (qg rfl xo rfl (o':=5) rfl rfl ?_)
  refine qa rfl (qq (v:=.slice m.sa m.shares.length m.scap) rfl ag24 (qh (hs58.get 2 rfl) rfl) rfl ?_)
  refine qa rfl (qx (len:=m.shares.length) rfl un24 rfl ?_)
  refine qa rfl (qj (v:=vI 0) rfl rfl ?_)
  refine ql (qb (zy ?_))
  have hs62:=hs58.popR
  have hs63:=hs62.popR
  have hs64:=hs63.ownBlk 0 rfl 6 3 rfl (by decide)
  have hs65 : St w (fun _=>False) w57 [ownI 39 6 (some ⟨b55,0,none⟩) 3 ((grTo m k 0).length) ((grTo m k 0).flatMap z9),blk b28 [.slice a16 m.comps.length c17,.slice a18 m.comps.length c19,.slice a20 m.comps.length c21,.slice a22 m.shares.length c23,vI (z5 m + ((m.shares.length : Nat) : Int))] 45,blk b1 (qn m) 26] [arrI encR 2 a16 (ks m m.comps.length),arrI encR 2 a18 (ku m m.comps.length),arrI encR 2 a20 (kv m m.comps.length),arrI encI 1 a22 (j3 m m.shares.length),arrI zu 2 m.ca m.comps,arrI z1 3 m.la m.links,arrI zw 2 m.sa m.shares,ko m.comps]:=by exact hs64
  refine kw (fun m_ f_ w_=>∃ i : Nat,∃ a6 : Option Addr,∃ c6 : Nat,m_ = m.shares.length - i ∧ (i ≤ m.shares.length) ∧ f_ 1 = vI k ∧ f_ 5 = .pointer (some ⟨b28,0,none⟩) ∧ f_ 6 = .slice a6 ((grTo m k i).length) c6 ∧ f_ 47 = .slice m.sa m.shares.length m.scap ∧ f_ 48 = vI ((m.shares.length : Nat) : Int) ∧ f_ 49 = vI ((i : Nat) : Int) ∧ St w (fun _=>False) w_ [ownI 39 6 a6 c6 ((grTo m k i).length) ((grTo m k i).flatMap z9),blk b28 [.slice a16 m.comps.length c17,.slice a18 m.comps.length c19,.slice a20 m.comps.length c21,.slice a22 m.shares.length c23,vI (z5 m + ((m.shares.length : Nat) : Int))] 45,blk b1 (qn m) 26] [arrI encR 2 a16 (ks m m.comps.length),arrI encR 2 a18 (ku m m.comps.length),arrI encR 2 a20 (kv m m.comps.length),arrI encI 1 a22 (j3 m m.shares.length),arrI zu 2 m.ca m.comps,arrI z1 3 m.la m.links,arrI zw 2 m.sa m.shares,ko m.comps]) ?_ ?_
  ·exact ⟨_,0,(some ⟨b55,0,none⟩),3,rfl,by omega,rfl,rfl,rfl,rfl,rfl,rfl,hs65⟩
  ·intro m69 f66 w67; rintro ⟨i,a6,c6,rfl,hi,e70,e71,e72,e73,e74,e75,hs68⟩
   rewrite [qm e70]
   rewrite [qm e71]
   rewrite [qm e72]
   rewrite [qm e73]
   rewrite [qm e74]
   rewrite [qm e75]
   refine qi ?_
   skip
   refine qc ?_
   refine qa rfl (qt (k:=.i64) (k':=.i64) (a:=((i : Nat) : Int)) (b:=((m.shares.length : Nat) : Int)) rfl rfl rfl jg ?_)
   refine ql (qb (qi ?_))
   refine zd rfl (fun hc76=>?_) (fun hc76=>?_)
   ·refine zn (qb (qi (zy (qi (qc ?_)))))
    refine qa rfl (qj (v:=vI ((i : Nat) : Int)) rfl rfl ?_)
    obtain ⟨b77,o78,ha79,hs80⟩:=hs68.elem 6 rfl i (by omega)
    refine qa rfl (qs rfl ha79 rfl un24 sz70 (by omega) (by omega) (o':=o78 + i * 2) (by omega) rfl ?_)
    refine qa rfl (qw (vs:=[vI ((m.shares[i]'(by omega)).rd),vI ((m.shares[i]'(by omega)).wr)]) rfl ag70 sz70 ((hs80.getR 0 rfl).2) rfl rfl ?_)
    refine qa rfl (kk (cs:=[vI 0,vI 0]) hs80 zv70 rfl rfl ?_)
    intro b81 w82 hb84 hs83
    refine qa rfl (qf (v:=vI ((i : Nat) : Int)) rfl rfl ?_)
    refine qa rfl (zx (v:=.agg #[vI ((m.shares[i]'(by omega)).rd),vI ((m.shares[i]'(by omega)).wr)]) (vs:=[vI ((m.shares[i]'(by omega)).rd),vI ((m.shares[i]'(by omega)).wr)]) (cs':=[vI ((m.shares[i]'(by omega)).rd),vI ((m.shares[i]'(by omega)).wr)]) hs83 0 rfl rfl rfl sz70 rfl rfl rfl rfl rfl ?_)
    intro w85 hs86
    refine ql (qb (qi (qc ?_)))
    refine qa rfl (qf (v:=vI 1) rfl rfl ?_)
    refine ql (qb (qi (qi (qc ?_))))
    refine qa rfl (qg rfl fd70_1 rfl (o':=1) rfl rfl ?_)
    refine qa rfl (qq (v:=vI ((m.shares[i]'(by omega)).wr)) rfl ag3 (qh (hs86.get 0 rfl) rfl) rfl ?_)
    refine qa rfl (qj (v:=vI k) rfl rfl ?_)
    refine qa rfl (qt (v:=vI ((m.shares[i]'(by omega)).wr / 2 ^ k.toNat)) rfl rfl rfl (b_shr (by omega) (shr_bit (by omega))) ?_)
    refine qa rfl (qt (v:=vI (bitS (m.shares[i]'(by omega)).wr k)) rfl rfl rfl (b_and (and_one _)) ?_)
    refine qa rfl (qt (k:=.i64) (k':=.i64) (a:=(bitS (m.shares[i]'(by omega)).wr k)) (b:=1) rfl rfl rfl k8 ?_)
    refine ql (qb ?_)
    refine zd rfl (fun hc87=>?_) (fun hc87=>?_)
    ·refine qc ?_
     refine qa rfl (qj (v:=vI 1) rfl rfl ?_)
     refine qa rfl (qt (v:=vI 3) rfl rfl rfl (b_or (by rfl)) ?_)
     refine qa rfl (qf (v:=vI 3) rfl rfl ?_)
     refine ql (qb (qi (qc ?_)))
     refine qa rfl (qg rfl fd70_0 rfl (o':=0) rfl rfl ?_)
     refine qa rfl (qq (v:=vI ((m.shares[i]'(by omega)).rd)) rfl ag3 (qh (hs86.get 0 rfl) rfl) rfl ?_)
     refine qa rfl (qj (v:=vI k) rfl rfl ?_)
     refine qa rfl (qt (v:=vI ((m.shares[i]'(by omega)).rd / 2 ^ k.toNat)) rfl rfl rfl (b_shr (by omega) (shr_bit (by omega))) ?_)
     refine qa rfl (qt (v:=vI (bitS (m.shares[i]'(by omega)).rd k)) rfl rfl rfl (b_and (and_one _)) ?_)
     refine qa rfl (qt (k:=.i64) (k':=.i64) (a:=(bitS (m.shares[i]'(by omega)).rd k)) (b:=1) rfl rfl rfl k8 ?_)
     refine ql (qb ?_)
     refine zd rfl (fun hc88=>?_) (fun hc88=>?_)
     ·have hsb:=shAt_b hok (i:=i) (by omega)
      obtain ⟨b89,o90,ha91,hs92⟩:=hs86.elem 4 rfl i (by rw [shsTo_len]; omega)
      rw [shsTo_get] at hs92
      refine jc js (show St _ _ _ [blk b81 [vI ((m.shares[i]'(by omega)).rd),vI ((m.shares[i]'(by omega)).wr)] 70,ownI 39 6 a6 c6 ((grTo m k i).length) ((grTo m k i).flatMap z9),blk b28 [.slice a16 m.comps.length c17,.slice a18 m.comps.length c19,.slice a20 m.comps.length c21,.slice a22 m.shares.length c23,vI (z5 m + ((m.shares.length : Nat) : Int))] 45,blk b1 (qn m) 26] _ from hs92) (fun i_=>match i_ with|15=>some ([83],fun vs_=>match vs_ with|[x83]=>blk (vblk x83) [.bool true,vI (shAt m i),vI ((shAt m i) + 256),vI (shAt m i),vI 3,vI 0] 39|_=>emp)|16=>some ([84],fun vs_=>match vs_ with|[x84]=>ownI 39 6 (zf x84) (vcap x84) ((grTo m k (i + 1)).length) ((grTo m k (i + 1)).flatMap z9)|_=>emp)|17=>some ([6],fun vs_=>match vs_ with|[x6]=>ownI 39 6 (zf x6) (vcap x6) ((grTo m k (i + 1)).length) ((grTo m k (i + 1)).flatMap z9)|_=>emp)|_=>none) (fun i_=>match i_ with|16=>[19]|17=>[16]|_=>[]) (fun i_=>match i_ with|2=>[20]|7=>[20]|16=>[15]|_=>[]) (fun i_=>match i_ with|2=>[1]|4=>[2,3]|5=>[4]|7=>[6]|9=>[7,8]|10=>[9]|11=>[10]|12=>[5,11]|14=>[12,13]|15=>[14]|16=>[0,15]|17=>[16]|_=>[]) [15,18,17,20,21,0,1,2,3,4,5,6,7,8,9,10,11,12,13,14,22,23,24,25,26,27,28,29,30,31,32,33,34,35,36,37,38,39] [15,17] (fun i_ v_=>match i_ with|0=>v_ = .slice a6 ((grTo m k i).length) c6|1=>v_ = .pointer (some ⟨b28,3,none⟩)|2=>v_ = .slice a22 m.shares.length c23|3=>v_ = vI ((i : Nat) : Int)|4=>v_ = .pointer (some ⟨b89,o90 + i * 1,none⟩)|5=>v_ = vI (shAt m i)|6=>v_ = .pointer (some ⟨b28,3,none⟩)|7=>v_ = .slice a22 m.shares.length c23|8=>v_ = vI ((i : Nat) : Int)|9=>v_ = .pointer (some ⟨b89,o90 + i * 1,none⟩)|10=>v_ = vI (shAt m i)|11=>v_ = vI ((shAt m i) + 256)|12=>v_ = .agg #[vI (shAt m i),vI ((shAt m i) + 256)]|13=>v_ = vI 3|14=>v_ = .agg #[.bool true,vI (shAt m i),vI ((shAt m i) + 256),vI (shAt m i),vI 3,vI 0]|15=>∃ b96 : Nat,v_ = .slice (some ⟨b96,0,none⟩) 1 1|16=>∃ a100 : Option Addr,∃ c101 : Nat,v_ = .slice a100 ((grTo m k (i + 1)).length) c101|17=>∃ a104 : Option Addr,∃ c105 : Nat,v_ = .slice a104 ((grTo m k (i + 1)).length) c105|_=>True) (by kernel_rfl) (by kernel_rfl) ⟨?_,?_,?_,?_,?_,?_,?_,?_,?_,?_,?_,?_,?_,?_,?_,?_,?_,?_,trivial⟩ ?_
      ·intro f0_ w0_ X0_ qp qo qu qk
       have hb6 : f0_ 6 = .slice a6 ((grTo m k i).length) c6:=(qp 6 rfl)
       refine qe rfl (qj (v:=.slice a6 ((grTo m k i).length) c6) hb6 rfl ?_)
       exact ⟨.slice a6 ((grTo m k i).length) c6,rfl,rfl,qk⟩
      ·intro f1_ w1_ X1_ qp qo qu qk
       have hb5 : f1_ 5 = .pointer (some ⟨b28,0,none⟩):=(qp 5 rfl)
       refine qe rfl (qg hb5 fd45_3 rfl (o':=3) rfl rfl ?_)
       exact ⟨.pointer (some ⟨b28,3,none⟩),rfl,rfl,qk⟩
      ·intro f2_ w2_ X2_ qp qo qu qk
       obtain ⟨hu1,-⟩:=qo
       have hu1 : f2_ 69 = .pointer (some ⟨b28,3,none⟩):=hu1
       obtain ⟨hr20,-⟩:=qu
       have hr20 : Item.φ (blk b28 [.slice a16 m.comps.length c17,.slice a18 m.comps.length c19,.slice a20 m.comps.length c21,.slice a22 m.shares.length c23,vI (z5 m + ((m.shares.length : Nat) : Int))] 45) w2_:=hr20
       refine qe rfl (qq (v:=.slice a22 m.shares.length c23) hu1 ag43 (qh (hr20) rfl) rfl ?_)
       exact ⟨.slice a22 m.shares.length c23,rfl,rfl,qk⟩
      ·intro f3_ w3_ X3_ qp qo qu qk
       have hb7 : f3_ 7 = vI ((i : Nat) : Int):=(qp 7 rfl)
       refine qe rfl (qj (v:=vI ((i : Nat) : Int)) hb7 rfl ?_)
       exact ⟨vI ((i : Nat) : Int),rfl,rfl,qk⟩
      ·intro f4_ w4_ X4_ qp qo qu qk
       obtain ⟨hu2,hu3,-⟩:=qo
       have hu2 : f4_ 70 = .slice a22 m.shares.length c23:=hu2
       have hu3 : f4_ 71 = vI ((i : Nat) : Int):=hu3
       refine qe rfl (qs hu2 ha91 hu3 un43 sz3 (by omega) (by omega) (o':=o90 + i * 1) (by omega) rfl ?_)
       exact ⟨.pointer (some ⟨b89,o90 + i * 1,none⟩),rfl,rfl,qk⟩
      ·intro f5_ w5_ X5_ qp qo qu qk
       obtain ⟨hu4,-⟩:=qo
       have hu4 : f5_ 72 = .pointer (some ⟨b89,o90 + i * 1,none⟩):=hu4
       refine qe rfl (qq (v:=vI (shAt m i)) hu4 ag3 ((qk.getR 0 rfl).2 0 _ rfl) rfl ?_)
       exact ⟨vI (shAt m i),rfl,rfl,qk⟩
      ·intro f6_ w6_ X6_ qp qo qu qk
       have hb5 : f6_ 5 = .pointer (some ⟨b28,0,none⟩):=(qp 5 rfl)
       refine qe rfl (qg hb5 fd45_3 rfl (o':=3) rfl rfl ?_)
       exact ⟨.pointer (some ⟨b28,3,none⟩),rfl,rfl,qk⟩
      ·intro f7_ w7_ X7_ qp qo qu qk
       obtain ⟨hu6,-⟩:=qo
       have hu6 : f7_ 74 = .pointer (some ⟨b28,3,none⟩):=hu6
       obtain ⟨hr20,-⟩:=qu
       have hr20 : Item.φ (blk b28 [.slice a16 m.comps.length c17,.slice a18 m.comps.length c19,.slice a20 m.comps.length c21,.slice a22 m.shares.length c23,vI (z5 m + ((m.shares.length : Nat) : Int))] 45) w7_:=hr20
       refine qe rfl (qq (v:=.slice a22 m.shares.length c23) hu6 ag43 (qh (hr20) rfl) rfl ?_)
       exact ⟨.slice a22 m.shares.length c23,rfl,rfl,qk⟩
      ·intro f8_ w8_ X8_ qp qo qu qk
       have hb7 : f8_ 7 = vI ((i : Nat) : Int):=(qp 7 rfl)
       refine qe rfl (qj (v:=vI ((i : Nat) : Int)) hb7 rfl ?_)
       exact ⟨vI ((i : Nat) : Int),rfl,rfl,qk⟩
      ·intro f9_ w9_ X9_ qp qo qu qk
       obtain ⟨hu7,hu8,-⟩:=qo
       have hu7 : f9_ 75 = .slice a22 m.shares.length c23:=hu7
       have hu8 : f9_ 76 = vI ((i : Nat) : Int):=hu8
       refine qe rfl (qs hu7 ha91 hu8 un43 sz3 (by omega) (by omega) (o':=o90 + i * 1) (by omega) rfl ?_)
       exact ⟨.pointer (some ⟨b89,o90 + i * 1,none⟩),rfl,rfl,qk⟩
      ·intro f10_ w10_ X10_ qp qo qu qk
       obtain ⟨hu9,-⟩:=qo
       have hu9 : f10_ 77 = .pointer (some ⟨b89,o90 + i * 1,none⟩):=hu9
       refine qe rfl (qq (v:=vI (shAt m i)) hu9 ag3 ((qk.getR 0 rfl).2 0 _ rfl) rfl ?_)
       exact ⟨vI (shAt m i),rfl,rfl,qk⟩
      ·intro f11_ w11_ X11_ qp qo qu qk
       obtain ⟨hu10,-⟩:=qo
       have hu10 : f11_ 78 = vI (shAt m i):=hu10
       refine qe rfl (qt (v:=vI ((shAt m i) + 256)) hu10 rfl rfl (ki (qz (by omega) (by omega))) ?_)
       exact ⟨vI ((shAt m i) + 256),rfl,rfl,qk⟩
      ·intro f12_ w12_ X12_ qp qo qu qk
       obtain ⟨hu5,hu11,-⟩:=qo
       have hu5 : f12_ 73 = vI (shAt m i):=hu5
       have hu11 : f12_ 79 = vI ((shAt m i) + 256):=hu11
       refine qe rfl (xe (ps:=[(0,[vI (shAt m i)]),(1,[vI ((shAt m i) + 256)])]) (zero:=[vI 0,vI 0]) (cells:=[vI (shAt m i),vI ((shAt m i) + 256)]) un51 sz3 zv51 rfl (by simp only [List.map_cons,List.map_nil,List.nil_append,List.cons_append,List.append_nil,ev,Value.cells,hu5,hu11]) rfl rfl ?_)
       exact ⟨.agg #[vI (shAt m i),vI ((shAt m i) + 256)],rfl,rfl,qk⟩
      ·intro f13_ w13_ X13_ qp qo qu qk
       have hb9 : f13_ 9 = vI 3:=(qp 9 rfl)
       refine qe rfl (qj (v:=vI 3) hb9 rfl ?_)
       exact ⟨vI 3,rfl,rfl,qk⟩
      ·intro f14_ w14_ X14_ qp qo qu qk
       obtain ⟨hu12,hu13,-⟩:=qo
       have hu12 : f14_ 80 = .agg #[vI (shAt m i),vI ((shAt m i) + 256)]:=hu12
       have hu13 : f14_ 81 = vI 3:=hu13
       refine qe rfl (zi (args:=[.agg #[vI (shAt m i),vI ((shAt m i) + 256)],vI 3]) rfl (by simp only [List.map_cons,List.map_nil,List.nil_append,List.cons_append,List.append_nil,ev,Value.cells,hu12,hu13]) rfl en45 (grant_c (shAt m i) ((shAt m i) + 256) 3 _) ?_)
       rintro _ w93 ⟨rfl,hk95⟩
       have hs94:=qk.keep hk95
       exact ⟨.agg #[.bool true,vI (shAt m i),vI ((shAt m i) + 256),vI (shAt m i),vI 3,vI 0],rfl,rfl,hs94⟩
      ·intro f15_ w15_ X15_ qp qo qu qk
       obtain ⟨hu14,-⟩:=qo
       have hu14 : f15_ 82 = .agg #[.bool true,vI (shAt m i),vI ((shAt m i) + 256),vI (shAt m i),vI 3,vI 0]:=hu14
       refine qe rfl (zz (zs:=[.bool false,vI 0,vI 0,vI 0,vI 0,vI 0]) (ps:=[(0,[.bool true,vI (shAt m i),vI ((shAt m i) + 256),vI (shAt m i),vI 3,vI 0])]) (cs:=[.bool true,vI (shAt m i),vI ((shAt m i) + 256),vI (shAt m i),vI 3,vI 0]) qk un48 sz39 zv39 rfl rfl (by simp only [List.map_cons,List.map_nil,List.nil_append,List.cons_append,List.append_nil,ev,Value.cells,hu14]) rfl rfl ?_)
       intro b96 w97 hb99 hs98
       refine ⟨.slice (some ⟨b96,0,none⟩) 1 1,rfl,⟨_,rfl⟩,?_⟩
       show St _ _ _ ((blk (vblk ((upd f15_ 83 (.slice (some ⟨b96,0,none⟩) 1 1)) 83)) [.bool true,vI (shAt m i),vI ((shAt m i) + 256),vI (shAt m i),vI 3,vI 0] 39) :: X15_) _
       exact hs98
      ·intro f16_ w16_ X16_ qp qo qu qk
       obtain ⟨hu0,hu15,-⟩:=qo
       have hu0 : f16_ 68 = .slice a6 ((grTo m k i).length) c6:=hu0
       obtain ⟨b96,hu15⟩:=(show ∃ b96 : Nat,f16_ 83 = .slice (some ⟨b96,0,none⟩) 1 1 from hu15)
       have qk : St _ _ _ ((ownI 39 6 a6 c6 ((grTo m k i).length) ((grTo m k i).flatMap z9)) :: X16_) _:=qk
       obtain ⟨hr15,-⟩:=qu
       have hr15 : Item.φ (blk (vblk (f16_ 83)) [.bool true,vI (shAt m i),vI ((shAt m i) + 256),vI (shAt m i),vI 3,vI 0] 39) w16_:=hr15
       rw [hu15] at hr15; simp only [vblk,zf,vcap,z3] at hr15
       refine qe rfl (k7 (n2:=(grTo m k (i + 1)).length) (xs2:=(grTo m k (i + 1)).flatMap z9) qk 0 rfl hu0 hu15 un48 ni48 inf39 rfl (Src.rd (news:=[.bool true,vI (shAt m i),vI ((shAt m i) + 256),vI (shAt m i),vI 3,vI 0]) (Rd.of_blk (hr15) 0 6) rfl rfl) (by rw [grTo_yes (by omega) hc88,List.length_append,List.length_singleton]) (by have hpe : j4 (m.shares[i]'(by omega)) k = 3:=(by unfold j4; rw [if_pos hc87]); rw [grTo_yes (by omega) hc88,List.flatMap_append,hpe]; rfl) (by have:=grTo_len m k i; omega) (by have:=grTo_len m k i; omega) rfl ?_)
       intro a100 c101 w102 hs103
       refine ⟨.slice a100 ((grTo m k (i + 1)).length) c101,rfl,⟨_,_,rfl⟩,?_⟩
       show St _ _ _ ((ownI 39 6 (zf ((upd f16_ 84 (.slice a100 ((grTo m k (i + 1)).length) c101)) 84)) (vcap ((upd f16_ 84 (.slice a100 ((grTo m k (i + 1)).length) c101)) 84)) ((grTo m k (i + 1)).length) ((grTo m k (i + 1)).flatMap z9)) :: X16_) _
       exact hs103
      ·intro f17_ w17_ X17_ qp qo qu qk
       obtain ⟨hu16,-⟩:=qo
       obtain ⟨a100,c101,hu16⟩:=(show ∃ a100 : Option Addr,∃ c101 : Nat,f17_ 84 = .slice a100 ((grTo m k (i + 1)).length) c101 from hu16)
       have qk : St _ _ _ ((ownI 39 6 (zf (f17_ 84)) (vcap (f17_ 84)) ((grTo m k (i + 1)).length) ((grTo m k (i + 1)).flatMap z9)) :: X17_) _:=qk
       rw [hu16] at qk; simp only [vblk,zf,vcap,z3] at qk
       refine qe rfl (qf (v:=.slice a100 ((grTo m k (i + 1)).length) c101) hu16 rfl ?_)
       refine ⟨.slice a100 ((grTo m k (i + 1)).length) c101,rfl,⟨_,_,rfl⟩,?_⟩
       show St _ _ _ ((ownI 39 6 (zf ((upd f17_ 6 (.slice a100 ((grTo m k (i + 1)).length) c101)) 6)) (vcap ((upd f17_ 6 (.slice a100 ((grTo m k (i + 1)).length) c101)) 6)) ((grTo m k (i + 1)).length) ((grTo m k (i + 1)).flatMap z9)) :: X17_) _
       exact qk
      intro f106 w107 qp qo hs108
      obtain ⟨hu15,hu17,-⟩:=qo
      obtain ⟨b96,hu15⟩:=(show ∃ b96 : Nat,f106 83 = .slice (some ⟨b96,0,none⟩) 1 1 from hu15)
      obtain ⟨a104,c105,hu17⟩:=(show ∃ a104 : Option Addr,∃ c105 : Nat,f106 6 = .slice a104 ((grTo m k (i + 1)).length) c105 from hu17)
      have hs108 : St _ _ _ [blk (vblk (f106 83)) [.bool true,vI (shAt m i),vI ((shAt m i) + 256),vI (shAt m i),vI 3,vI 0] 39,blk b81 [vI ((m.shares[i]'(by omega)).rd),vI ((m.shares[i]'(by omega)).wr)] 70,ownI 39 6 (zf (f106 6)) (vcap (f106 6)) ((grTo m k (i + 1)).length) ((grTo m k (i + 1)).flatMap z9),blk b28 [.slice a16 m.comps.length c17,.slice a18 m.comps.length c19,.slice a20 m.comps.length c21,.slice a22 m.shares.length c23,vI (z5 m + ((m.shares.length : Nat) : Int))] 45,blk b1 (qn m) 26] _:=hs108
      simp only [hu15,hu17,vblk,zf,vcap,z3] at hs108
      have hs108 : St _ _ _ [blk b96 [.bool true,vI (shAt m i),vI ((shAt m i) + 256),vI (shAt m i),vI 3,vI 0] 39,blk b81 [vI ((m.shares[i]'(by omega)).rd),vI ((m.shares[i]'(by omega)).wr)] 70,ownI 39 6 a104 c105 ((grTo m k (i + 1)).length) ((grTo m k (i + 1)).flatMap z9),blk b28 [.slice a16 m.comps.length c17,.slice a18 m.comps.length c19,.slice a20 m.comps.length c21,.slice a22 m.shares.length c23,vI (z5 m + ((m.shares.length : Nat) : Int))] 45,blk b1 (qn m) 26] _:=hs108
      have e109 : f106 1 = vI k:=(qp 1 rfl)
      rewrite [qm e109]
      have e110 : f106 5 = .pointer (some ⟨b28,0,none⟩):=(qp 5 rfl)
      rewrite [qm e110]
      rewrite [qm hu17]
      have e111 : f106 47 = .slice m.sa m.shares.length m.scap:=(qp 47 rfl)
      rewrite [qm e111]
      have e112 : f106 48 = vI ((m.shares.length : Nat) : Int):=(qp 48 rfl)
      rewrite [qm e112]
      have e113 : f106 49 = vI ((i : Nat) : Int):=(qp 49 rfl)
      rewrite [qm e113]
      refine z7 (qb (qc ?_))
      refine qa rfl (qt (v:=vI ((i + 1 : Nat) : Int)) rfl rfl rfl (ki (qz (by omega) (by omega))) ?_)
      refine qa rfl (qj (v:=vI ((i + 1 : Nat) : Int)) rfl rfl ?_)
      refine ql (qb ?_)
      refine ⟨_,?_,i + 1,a104,c105,rfl,by omega,rfl,rfl,rfl,rfl,rfl,rfl,hs108.popR.popR.popM.popM⟩
      omega
     ·refine zn (z7 (qb ?_))
      have hno:=grTo_no (m:=m) (k:=k) (i:=i) (by omega) hc88
      have hs114 : St w (fun _=>False) w85 [blk b81 [vI ((m.shares[i]'(by omega)).rd),vI ((m.shares[i]'(by omega)).wr)] 70,ownI 39 6 a6 c6 ((grTo m k (i + 1)).length) ((grTo m k (i + 1)).flatMap z9),blk b28 [.slice a16 m.comps.length c17,.slice a18 m.comps.length c19,.slice a20 m.comps.length c21,.slice a22 m.shares.length c23,vI (z5 m + ((m.shares.length : Nat) : Int))] 45,blk b1 (qn m) 26] [rdI b77 (o78 + i * 2) (zw (m.shares[i]'(by omega))),arrI encR 2 a16 (ks m m.comps.length),arrI encR 2 a18 (ku m m.comps.length),arrI encR 2 a20 (kv m m.comps.length),arrI encI 1 a22 (j3 m m.shares.length),arrI zu 2 m.ca m.comps,arrI z1 3 m.la m.links,arrI zw 2 m.sa m.shares,ko m.comps]:=by rw [hno]; exact hs86
      refine qc ?_
      refine qa rfl (qt (v:=vI ((i + 1 : Nat) : Int)) rfl rfl rfl (ki (qz (by omega) (by omega))) ?_)
      refine qa rfl (qj (v:=vI ((i + 1 : Nat) : Int)) rfl rfl ?_)
      refine ql (qb ?_)
      refine ⟨_,?_,i + 1,a6,c6,rfl,by omega,rfl,rfl,(congrArg (fun z : List CapV=>Value.slice a6 z.length c6) hno.symm),rfl,rfl,rfl,hs114.popR.popM⟩
      omega
    ·refine zn (qb (qi (qc ?_)))
     refine qa rfl (qg rfl fd70_0 rfl (o':=0) rfl rfl ?_)
     refine qa rfl (qq (v:=vI ((m.shares[i]'(by omega)).rd)) rfl ag3 (qh (hs86.get 0 rfl) rfl) rfl ?_)
     refine qa rfl (qj (v:=vI k) rfl rfl ?_)
     refine qa rfl (qt (v:=vI ((m.shares[i]'(by omega)).rd / 2 ^ k.toNat)) rfl rfl rfl (b_shr (by omega) (shr_bit (by omega))) ?_)
     refine qa rfl (qt (v:=vI (bitS (m.shares[i]'(by omega)).rd k)) rfl rfl rfl (b_and (and_one _)) ?_)
     refine qa rfl (qt (k:=.i64) (k':=.i64) (a:=(bitS (m.shares[i]'(by omega)).rd k)) (b:=1) rfl rfl rfl k8 ?_)
     refine ql (qb ?_)
     refine zd rfl (fun hc115=>?_) (fun hc115=>?_)
     ·have hsb:=shAt_b hok (i:=i) (by omega)
      obtain ⟨b116,o117,ha118,hs119⟩:=hs86.elem 4 rfl i (by rw [shsTo_len]; omega)
      rw [shsTo_get] at hs119
      refine jc js (show St _ _ _ [blk b81 [vI ((m.shares[i]'(by omega)).rd),vI ((m.shares[i]'(by omega)).wr)] 70,ownI 39 6 a6 c6 ((grTo m k i).length) ((grTo m k i).flatMap z9),blk b28 [.slice a16 m.comps.length c17,.slice a18 m.comps.length c19,.slice a20 m.comps.length c21,.slice a22 m.shares.length c23,vI (z5 m + ((m.shares.length : Nat) : Int))] 45,blk b1 (qn m) 26] _ from hs119) (fun i_=>match i_ with|15=>some ([83],fun vs_=>match vs_ with|[x83]=>blk (vblk x83) [.bool true,vI (shAt m i),vI ((shAt m i) + 256),vI (shAt m i),vI 1,vI 0] 39|_=>emp)|16=>some ([84],fun vs_=>match vs_ with|[x84]=>ownI 39 6 (zf x84) (vcap x84) ((grTo m k (i + 1)).length) ((grTo m k (i + 1)).flatMap z9)|_=>emp)|17=>some ([6],fun vs_=>match vs_ with|[x6]=>ownI 39 6 (zf x6) (vcap x6) ((grTo m k (i + 1)).length) ((grTo m k (i + 1)).flatMap z9)|_=>emp)|_=>none) (fun i_=>match i_ with|16=>[19]|17=>[16]|_=>[]) (fun i_=>match i_ with|2=>[20]|7=>[20]|16=>[15]|_=>[]) (fun i_=>match i_ with|2=>[1]|4=>[2,3]|5=>[4]|7=>[6]|9=>[7,8]|10=>[9]|11=>[10]|12=>[5,11]|14=>[12,13]|15=>[14]|16=>[0,15]|17=>[16]|_=>[]) [15,18,17,20,21,0,1,2,3,4,5,6,7,8,9,10,11,12,13,14,22,23,24,25,26,27,28,29,30,31,32,33,34,35,36,37,38,39] [15,17] (fun i_ v_=>match i_ with|0=>v_ = .slice a6 ((grTo m k i).length) c6|1=>v_ = .pointer (some ⟨b28,3,none⟩)|2=>v_ = .slice a22 m.shares.length c23|3=>v_ = vI ((i : Nat) : Int)|4=>v_ = .pointer (some ⟨b116,o117 + i * 1,none⟩)|5=>v_ = vI (shAt m i)|6=>v_ = .pointer (some ⟨b28,3,none⟩)|7=>v_ = .slice a22 m.shares.length c23|8=>v_ = vI ((i : Nat) : Int)|9=>v_ = .pointer (some ⟨b116,o117 + i * 1,none⟩)|10=>v_ = vI (shAt m i)|11=>v_ = vI ((shAt m i) + 256)|12=>v_ = .agg #[vI (shAt m i),vI ((shAt m i) + 256)]|13=>v_ = vI 1|14=>v_ = .agg #[.bool true,vI (shAt m i),vI ((shAt m i) + 256),vI (shAt m i),vI 1,vI 0]|15=>∃ b123 : Nat,v_ = .slice (some ⟨b123,0,none⟩) 1 1|16=>∃ a127 : Option Addr,∃ c128 : Nat,v_ = .slice a127 ((grTo m k (i + 1)).length) c128|17=>∃ a131 : Option Addr,∃ c132 : Nat,v_ = .slice a131 ((grTo m k (i + 1)).length) c132|_=>True) (by kernel_rfl) (by kernel_rfl) ⟨?_,?_,?_,?_,?_,?_,?_,?_,?_,?_,?_,?_,?_,?_,?_,?_,?_,?_,trivial⟩ ?_
      ·intro f0_ w0_ X0_ qp qo qu qk
       have hb6 : f0_ 6 = .slice a6 ((grTo m k i).length) c6:=(qp 6 rfl)
       refine qe rfl (qj (v:=.slice a6 ((grTo m k i).length) c6) hb6 rfl ?_)
       exact ⟨.slice a6 ((grTo m k i).length) c6,rfl,rfl,qk⟩
      ·intro f1_ w1_ X1_ qp qo qu qk
       have hb5 : f1_ 5 = .pointer (some ⟨b28,0,none⟩):=(qp 5 rfl)
       refine qe rfl (qg hb5 fd45_3 rfl (o':=3) rfl rfl ?_)
       exact ⟨.pointer (some ⟨b28,3,none⟩),rfl,rfl,qk⟩
      ·intro f2_ w2_ X2_ qp qo qu qk
       obtain ⟨hu1,-⟩:=qo
       have hu1 : f2_ 69 = .pointer (some ⟨b28,3,none⟩):=hu1
       obtain ⟨hr20,-⟩:=qu
       have hr20 : Item.φ (blk b28 [.slice a16 m.comps.length c17,.slice a18 m.comps.length c19,.slice a20 m.comps.length c21,.slice a22 m.shares.length c23,vI (z5 m + ((m.shares.length : Nat) : Int))] 45) w2_:=hr20
       refine qe rfl (qq (v:=.slice a22 m.shares.length c23) hu1 ag43 (qh (hr20) rfl) rfl ?_)
       exact ⟨.slice a22 m.shares.length c23,rfl,rfl,qk⟩
      ·intro f3_ w3_ X3_ qp qo qu qk
       have hb7 : f3_ 7 = vI ((i : Nat) : Int):=(qp 7 rfl)
       refine qe rfl (qj (v:=vI ((i : Nat) : Int)) hb7 rfl ?_)
       exact ⟨vI ((i : Nat) : Int),rfl,rfl,qk⟩
      ·intro f4_ w4_ X4_ qp qo qu qk
       obtain ⟨hu2,hu3,-⟩:=qo
       have hu2 : f4_ 70 = .slice a22 m.shares.length c23:=hu2
       have hu3 : f4_ 71 = vI ((i : Nat) : Int):=hu3
       refine qe rfl (qs hu2 ha118 hu3 un43 sz3 (by omega) (by omega) (o':=o117 + i * 1) (by omega) rfl ?_)
       exact ⟨.pointer (some ⟨b116,o117 + i * 1,none⟩),rfl,rfl,qk⟩
      ·intro f5_ w5_ X5_ qp qo qu qk
       obtain ⟨hu4,-⟩:=qo
       have hu4 : f5_ 72 = .pointer (some ⟨b116,o117 + i * 1,none⟩):=hu4
       refine qe rfl (qq (v:=vI (shAt m i)) hu4 ag3 ((qk.getR 0 rfl).2 0 _ rfl) rfl ?_)
       exact ⟨vI (shAt m i),rfl,rfl,qk⟩
      ·intro f6_ w6_ X6_ qp qo qu qk
       have hb5 : f6_ 5 = .pointer (some ⟨b28,0,none⟩):=(qp 5 rfl)
       refine qe rfl (qg hb5 fd45_3 rfl (o':=3) rfl rfl ?_)
       exact ⟨.pointer (some ⟨b28,3,none⟩),rfl,rfl,qk⟩
      ·intro f7_ w7_ X7_ qp qo qu qk
       obtain ⟨hu6,-⟩:=qo
       have hu6 : f7_ 74 = .pointer (some ⟨b28,3,none⟩):=hu6
       obtain ⟨hr20,-⟩:=qu
       have hr20 : Item.φ (blk b28 [.slice a16 m.comps.length c17,.slice a18 m.comps.length c19,.slice a20 m.comps.length c21,.slice a22 m.shares.length c23,vI (z5 m + ((m.shares.length : Nat) : Int))] 45) w7_:=hr20
       refine qe rfl (qq (v:=.slice a22 m.shares.length c23) hu6 ag43 (qh (hr20) rfl) rfl ?_)
       exact ⟨.slice a22 m.shares.length c23,rfl,rfl,qk⟩
      ·intro f8_ w8_ X8_ qp qo qu qk
       have hb7 : f8_ 7 = vI ((i : Nat) : Int):=(qp 7 rfl)
       refine qe rfl (qj (v:=vI ((i : Nat) : Int)) hb7 rfl ?_)
       exact ⟨vI ((i : Nat) : Int),rfl,rfl,qk⟩
      ·intro f9_ w9_ X9_ qp qo qu qk
       obtain ⟨hu7,hu8,-⟩:=qo
       have hu7 : f9_ 75 = .slice a22 m.shares.length c23:=hu7
       have hu8 : f9_ 76 = vI ((i : Nat) : Int):=hu8
       refine qe rfl (qs hu7 ha118 hu8 un43 sz3 (by omega) (by omega) (o':=o117 + i * 1) (by omega) rfl ?_)
       exact ⟨.pointer (some ⟨b116,o117 + i * 1,none⟩),rfl,rfl,qk⟩
      ·intro f10_ w10_ X10_ qp qo qu qk
       obtain ⟨hu9,-⟩:=qo
       have hu9 : f10_ 77 = .pointer (some ⟨b116,o117 + i * 1,none⟩):=hu9
       refine qe rfl (qq (v:=vI (shAt m i)) hu9 ag3 ((qk.getR 0 rfl).2 0 _ rfl) rfl ?_)
       exact ⟨vI (shAt m i),rfl,rfl,qk⟩
      ·intro f11_ w11_ X11_ qp qo qu qk
       obtain ⟨hu10,-⟩:=qo
       have hu10 : f11_ 78 = vI (shAt m i):=hu10
       refine qe rfl (qt (v:=vI ((shAt m i) + 256)) hu10 rfl rfl (ki (qz (by omega) (by omega))) ?_)
       exact ⟨vI ((shAt m i) + 256),rfl,rfl,qk⟩
      ·intro f12_ w12_ X12_ qp qo qu qk
       obtain ⟨hu5,hu11,-⟩:=qo
       have hu5 : f12_ 73 = vI (shAt m i):=hu5
       have hu11 : f12_ 79 = vI ((shAt m i) + 256):=hu11
       refine qe rfl (xe (ps:=[(0,[vI (shAt m i)]),(1,[vI ((shAt m i) + 256)])]) (zero:=[vI 0,vI 0]) (cells:=[vI (shAt m i),vI ((shAt m i) + 256)]) un51 sz3 zv51 rfl (by simp only [List.map_cons,List.map_nil,List.nil_append,List.cons_append,List.append_nil,ev,Value.cells,hu5,hu11]) rfl rfl ?_)
       exact ⟨.agg #[vI (shAt m i),vI ((shAt m i) + 256)],rfl,rfl,qk⟩
      ·intro f13_ w13_ X13_ qp qo qu qk
       have hb9 : f13_ 9 = vI 1:=(qp 9 rfl)
       refine qe rfl (qj (v:=vI 1) hb9 rfl ?_)
       exact ⟨vI 1,rfl,rfl,qk⟩
      ·intro f14_ w14_ X14_ qp qo qu qk
       obtain ⟨hu12,hu13,-⟩:=qo
       have hu12 : f14_ 80 = .agg #[vI (shAt m i),vI ((shAt m i) + 256)]:=hu12
       have hu13 : f14_ 81 = vI 1:=hu13
       refine qe rfl (zi (args:=[.agg #[vI (shAt m i),vI ((shAt m i) + 256)],vI 1]) rfl (by simp only [List.map_cons,List.map_nil,List.nil_append,List.cons_append,List.append_nil,ev,Value.cells,hu12,hu13]) rfl en45 (grant_c (shAt m i) ((shAt m i) + 256) 1 _) ?_)
       rintro _ w120 ⟨rfl,hk122⟩
       have hs121:=qk.keep hk122
       exact ⟨.agg #[.bool true,vI (shAt m i),vI ((shAt m i) + 256),vI (shAt m i),vI 1,vI 0],rfl,rfl,hs121⟩
      ·intro f15_ w15_ X15_ qp qo qu qk
       obtain ⟨hu14,-⟩:=qo
       have hu14 : f15_ 82 = .agg #[.bool true,vI (shAt m i),vI ((shAt m i) + 256),vI (shAt m i),vI 1,vI 0]:=hu14
       refine qe rfl (zz (zs:=[.bool false,vI 0,vI 0,vI 0,vI 0,vI 0]) (ps:=[(0,[.bool true,vI (shAt m i),vI ((shAt m i) + 256),vI (shAt m i),vI 1,vI 0])]) (cs:=[.bool true,vI (shAt m i),vI ((shAt m i) + 256),vI (shAt m i),vI 1,vI 0]) qk un48 sz39 zv39 rfl rfl (by simp only [List.map_cons,List.map_nil,List.nil_append,List.cons_append,List.append_nil,ev,Value.cells,hu14]) rfl rfl ?_)
       intro b123 w124 hb126 hs125
       refine ⟨.slice (some ⟨b123,0,none⟩) 1 1,rfl,⟨_,rfl⟩,?_⟩
       show St _ _ _ ((blk (vblk ((upd f15_ 83 (.slice (some ⟨b123,0,none⟩) 1 1)) 83)) [.bool true,vI (shAt m i),vI ((shAt m i) + 256),vI (shAt m i),vI 1,vI 0] 39) :: X15_) _
       exact hs125
      ·intro f16_ w16_ X16_ qp qo qu qk
       obtain ⟨hu0,hu15,-⟩:=qo
       have hu0 : f16_ 68 = .slice a6 ((grTo m k i).length) c6:=hu0
       obtain ⟨b123,hu15⟩:=(show ∃ b123 : Nat,f16_ 83 = .slice (some ⟨b123,0,none⟩) 1 1 from hu15)
       have qk : St _ _ _ ((ownI 39 6 a6 c6 ((grTo m k i).length) ((grTo m k i).flatMap z9)) :: X16_) _:=qk
       obtain ⟨hr15,-⟩:=qu
       have hr15 : Item.φ (blk (vblk (f16_ 83)) [.bool true,vI (shAt m i),vI ((shAt m i) + 256),vI (shAt m i),vI 1,vI 0] 39) w16_:=hr15
       rw [hu15] at hr15; simp only [vblk,zf,vcap,z3] at hr15
       refine qe rfl (k7 (n2:=(grTo m k (i + 1)).length) (xs2:=(grTo m k (i + 1)).flatMap z9) qk 0 rfl hu0 hu15 un48 ni48 inf39 rfl (Src.rd (news:=[.bool true,vI (shAt m i),vI ((shAt m i) + 256),vI (shAt m i),vI 1,vI 0]) (Rd.of_blk (hr15) 0 6) rfl rfl) (by rw [grTo_yes (by omega) hc115,List.length_append,List.length_singleton]) (by have hpe : j4 (m.shares[i]'(by omega)) k = 1:=(by unfold j4; rw [if_neg hc87]); rw [grTo_yes (by omega) hc115,List.flatMap_append,hpe]; rfl) (by have:=grTo_len m k i; omega) (by have:=grTo_len m k i; omega) rfl ?_)
       intro a127 c128 w129 hs130
       refine ⟨.slice a127 ((grTo m k (i + 1)).length) c128,rfl,⟨_,_,rfl⟩,?_⟩
       show St _ _ _ ((ownI 39 6 (zf ((upd f16_ 84 (.slice a127 ((grTo m k (i + 1)).length) c128)) 84)) (vcap ((upd f16_ 84 (.slice a127 ((grTo m k (i + 1)).length) c128)) 84)) ((grTo m k (i + 1)).length) ((grTo m k (i + 1)).flatMap z9)) :: X16_) _
       exact hs130
      ·intro f17_ w17_ X17_ qp qo qu qk
       obtain ⟨hu16,-⟩:=qo
       obtain ⟨a127,c128,hu16⟩:=(show ∃ a127 : Option Addr,∃ c128 : Nat,f17_ 84 = .slice a127 ((grTo m k (i + 1)).length) c128 from hu16)
       have qk : St _ _ _ ((ownI 39 6 (zf (f17_ 84)) (vcap (f17_ 84)) ((grTo m k (i + 1)).length) ((grTo m k (i + 1)).flatMap z9)) :: X17_) _:=qk
       rw [hu16] at qk; simp only [vblk,zf,vcap,z3] at qk
       refine qe rfl (qf (v:=.slice a127 ((grTo m k (i + 1)).length) c128) hu16 rfl ?_)
       refine ⟨.slice a127 ((grTo m k (i + 1)).length) c128,rfl,⟨_,_,rfl⟩,?_⟩
       show St _ _ _ ((ownI 39 6 (zf ((upd f17_ 6 (.slice a127 ((grTo m k (i + 1)).length) c128)) 6)) (vcap ((upd f17_ 6 (.slice a127 ((grTo m k (i + 1)).length) c128)) 6)) ((grTo m k (i + 1)).length) ((grTo m k (i + 1)).flatMap z9)) :: X17_) _
       exact qk
      intro f133 w134 qp qo hs135
      obtain ⟨hu15,hu17,-⟩:=qo
      obtain ⟨b123,hu15⟩:=(show ∃ b123 : Nat,f133 83 = .slice (some ⟨b123,0,none⟩) 1 1 from hu15)
      obtain ⟨a131,c132,hu17⟩:=(show ∃ a131 : Option Addr,∃ c132 : Nat,f133 6 = .slice a131 ((grTo m k (i + 1)).length) c132 from hu17)
      have hs135 : St _ _ _ [blk (vblk (f133 83)) [.bool true,vI (shAt m i),vI ((shAt m i) + 256),vI (shAt m i),vI 1,vI 0] 39,blk b81 [vI ((m.shares[i]'(by omega)).rd),vI ((m.shares[i]'(by omega)).wr)] 70,ownI 39 6 (zf (f133 6)) (vcap (f133 6)) ((grTo m k (i + 1)).length) ((grTo m k (i + 1)).flatMap z9),blk b28 [.slice a16 m.comps.length c17,.slice a18 m.comps.length c19,.slice a20 m.comps.length c21,.slice a22 m.shares.length c23,vI (z5 m + ((m.shares.length : Nat) : Int))] 45,blk b1 (qn m) 26] _:=hs135
      simp only [hu15,hu17,vblk,zf,vcap,z3] at hs135
      have hs135 : St _ _ _ [blk b123 [.bool true,vI (shAt m i),vI ((shAt m i) + 256),vI (shAt m i),vI 1,vI 0] 39,blk b81 [vI ((m.shares[i]'(by omega)).rd),vI ((m.shares[i]'(by omega)).wr)] 70,ownI 39 6 a131 c132 ((grTo m k (i + 1)).length) ((grTo m k (i + 1)).flatMap z9),blk b28 [.slice a16 m.comps.length c17,.slice a18 m.comps.length c19,.slice a20 m.comps.length c21,.slice a22 m.shares.length c23,vI (z5 m + ((m.shares.length : Nat) : Int))] 45,blk b1 (qn m) 26] _:=hs135
      have e136 : f133 1 = vI k:=(qp 1 rfl)
      rewrite [qm e136]
      have e137 : f133 5 = .pointer (some ⟨b28,0,none⟩):=(qp 5 rfl)
      rewrite [qm e137]
      rewrite [qm hu17]
      have e138 : f133 47 = .slice m.sa m.shares.length m.scap:=(qp 47 rfl)
      rewrite [qm e138]
      have e139 : f133 48 = vI ((m.shares.length : Nat) : Int):=(qp 48 rfl)
      rewrite [qm e139]
      have e140 : f133 49 = vI ((i : Nat) : Int):=(qp 49 rfl)
      rewrite [qm e140]
      refine z7 (qb (qc ?_))
      refine qa rfl (qt (v:=vI ((i + 1 : Nat) : Int)) rfl rfl rfl (ki (qz (by omega) (by omega))) ?_)
      refine qa rfl (qj (v:=vI ((i + 1 : Nat) : Int)) rfl rfl ?_)
      refine ql (qb ?_)
      refine ⟨_,?_,i + 1,a131,c132,rfl,by omega,rfl,rfl,rfl,rfl,rfl,rfl,hs135.popR.popR.popM.popM⟩
      omega
     ·refine zn (z7 (qb ?_))
      have hno:=grTo_no (m:=m) (k:=k) (i:=i) (by omega) hc115
      have hs141 : St w (fun _=>False) w85 [blk b81 [vI ((m.shares[i]'(by omega)).rd),vI ((m.shares[i]'(by omega)).wr)] 70,ownI 39 6 a6 c6 ((grTo m k (i + 1)).length) ((grTo m k (i + 1)).flatMap z9),blk b28 [.slice a16 m.comps.length c17,.slice a18 m.comps.length c19,.slice a20 m.comps.length c21,.slice a22 m.shares.length c23,vI (z5 m + ((m.shares.length : Nat) : Int))] 45,blk b1 (qn m) 26] [rdI b77 (o78 + i * 2) (zw (m.shares[i]'(by omega))),arrI encR 2 a16 (ks m m.comps.length),arrI encR 2 a18 (ku m m.comps.length),arrI encR 2 a20 (kv m m.comps.length),arrI encI 1 a22 (j3 m m.shares.length),arrI zu 2 m.ca m.comps,arrI z1 3 m.la m.links,arrI zw 2 m.sa m.shares,ko m.comps]:=by rw [hno]; exact hs86
      refine qc ?_
      refine qa rfl (qt (v:=vI ((i + 1 : Nat) : Int)) rfl rfl rfl (ki (qz (by omega) (by omega))) ?_)
      refine qa rfl (qj (v:=vI ((i + 1 : Nat) : Int)) rfl rfl ?_)
      refine ql (qb ?_)
      refine ⟨_,?_,i + 1,a6,c6,rfl,by omega,rfl,rfl,(congrArg (fun z : List CapV=>Value.slice a6 z.length c6) hno.symm),rfl,rfl,rfl,hs141.popR.popM⟩
      omega
   ·refine ja (z0 (z0 (ke (qb (qi (qc ?_))))))
    refine qa rfl (qj (v:=.slice a6 ((grTo m k i).length) c6) rfl rfl ?_)
    refine qa rfl (qf (v:=.slice a6 ((grTo m k i).length) c6) rfl rfl ?_)
    refine ql (qb (zo ?_))
    refine ⟨.slice a6 ((grTo m k i).length) c6,res1 rfl,?_⟩
    obtain rfl : i = m.shares.length:=by omega
    have he:=x8 (k:=k) hright (by omega) (by omega)
    exact ⟨⟨a6,c6,by rw [he],by rw [he]; exact hs68.get 0 rfl,fun x ⟨o,e⟩=>hs68.newB 0 rfl x ⟨o,e⟩⟩,hs68.base⟩

set_option maxHeartbeats 2000000 in
/-- seizin/image.Pairs -/
theorem pairs_c (m : ImageV) (k : Int) (w : World) (hm : ∀ i ∈ kh m,i.φ w) (hb : ImgB m) :
  C Try.prog 19 [.agg (qn m).toArray,vI k] w fun v w'=>(∃ a2 c2,v = .slice a2 (zc m k).length c2 ∧ (ownI 40 12 a2 c2 (zc m k).length ((zc m k).flatMap jt)).φ w' ∧ ∀ x,(ownI 40 12 a2 c2 (zc m k).length ((zc m k).flatMap jt)).fp x → w.heap.size ≤ x) ∧ Grow w w':=by
 have hs0 : St w (fun _=>False) w [] (kh m):=St.start w _ hm
 refine z8 [.tmp 4] 58 Try.func19 rfl Try.ntmps19 rfl rfl ?_
 refine qi (qc ?_)
 refine qa rfl (jw (v:=.agg (qn m).toArray) (cs:=(qn m)) hs0 rfl rfl rfl ?_)
 intro b1 w2 hb4 hs3
 refine qa rfl (qf (v:=.slice none 0 0) rfl rfl ?_)
 refine ql (qb (qi (qc ?_)))
 refine qa rfl (qf (v:=.slice none 0 0) rfl rfl ?_)
 refine ql (qb (qi (qi (qc ?_))))
 refine qa rfl (qw (vs:=(qn m)) rfl ag26 sz26 (Rd.of_blk (hs3.get 0 rfl) 0 6) rfl rfl ?_)
 refine qa rfl (zi (args:=[.agg (qn m).toArray]) rfl rfl rfl en14 (iright_c m _ (hs3.r) hb) ?_)
 rintro _ w5 ⟨rfl,hk7⟩
 have hs6:=hs3.keep hk7
 refine qa rfl (j0 (b:=(z2 m)) rfl rfl ?_)
 refine ql (qb ?_)
 refine k5 (t:=(!(z2 m))) rfl (fun hc8=>?_) (fun hc8=>?_)
 ·try simp only [Bool.and_eq_true,Bool.or_eq_true,Bool.not_eq_true',Bool.and_eq_false_iff,Bool.or_eq_false_iff,Bool.not_eq_false',decide_eq_true_eq,decide_eq_false_iff_not,Bool.and_eq_false_imp] at hc8
  refine qi (qc ?_)
  refine qa rfl (qf (v:=.slice none 0 0) rfl rfl ?_)
  refine ql (qb (zo (q9 ?_)))
  refine ⟨.slice none 0 0,res1 rfl,?_⟩
  have he : zc m k = []:=by unfold zc; rw [if_neg (by rw [hc8]; simp)]
  exact ⟨⟨none,0,by rw [he]; rfl,by rw [he]; exact ⟨rfl,Nat.le_refl _,.inl ⟨rfl,rfl⟩⟩,fun x ⟨o,e⟩=>by cases e⟩,hs6.base⟩
 ·try simp only [Bool.and_eq_true,Bool.or_eq_true,Bool.not_eq_true',Bool.and_eq_false_iff,Bool.or_eq_false_iff,Bool.not_eq_false',decide_eq_true_eq,decide_eq_false_iff_not,Bool.and_eq_false_imp] at hc8
  refine zn (qb (qi (qi ?_)))
  have hright : z2 m = true:=by simpa using hc8
  have hok:=jy hright
  have:=hok.n4; have:=hok.l16
  refine qc ?_
  refine qa rfl (qg rfl xx rfl (o':=4) rfl rfl ?_)
  refine qa rfl (qq (v:=.slice m.la m.links.length m.lcap) rfl ag23 (qh (hs6.get 0 rfl) rfl) rfl ?_)
  refine qa rfl (qx (len:=m.links.length) rfl un23 rfl ?_)
  refine qa rfl (qj (v:=vI 0) rfl rfl ?_)
  refine ql (qb (zy ?_))
  have hs9:=hs6.ownNil 40 12
  refine kw (fun m_ f_ w_=>∃ i : Nat,∃ a5 : Option Addr,∃ c5 : Nat,m_ = m.links.length - i ∧ (i ≤ m.links.length) ∧ f_ 1 = vI k ∧ f_ 2 = .pointer (some ⟨b1,0,none⟩) ∧ f_ 5 = .slice a5 ((prTo m k i).length) c5 ∧ f_ 15 = .slice m.la m.links.length m.lcap ∧ f_ 16 = vI ((m.links.length : Nat) : Int) ∧ f_ 17 = vI ((i : Nat) : Int) ∧ St w (fun _=>False) w_ [ownI 40 12 a5 c5 ((prTo m k i).length) ((prTo m k i).flatMap jt),blk b1 (qn m) 26] (kh m)) ?_ ?_
  ·exact ⟨_,0,none,0,rfl,by omega,rfl,rfl,rfl,rfl,rfl,rfl,hs9⟩
  ·intro m13 f10 w11; rintro ⟨i,a5,c5,rfl,hi,e14,e15,e16,e17,e18,e19,hs12⟩
   rewrite [qm e14]
   rewrite [qm e15]
   rewrite [qm e16]
   rewrite [qm e17]
   rewrite [qm e18]
   rewrite [qm e19]
   refine qi (qc ?_)
   refine qa rfl (qt (k:=.i64) (k':=.i64) (a:=((i : Nat) : Int)) (b:=((m.links.length : Nat) : Int)) rfl rfl rfl jg ?_)
   refine ql (qb (qi ?_))
   refine zd rfl (fun hc20=>?_) (fun hc20=>?_)
   ·refine zn (qb (qi (zy (qi (qc ?_)))))
    obtain ⟨b21,o22,ha23,hs24⟩:=hs12.elem 1 rfl i (by omega)
    refine qa rfl (qs rfl ha23 rfl un23 sz68 (by omega) (by omega) (o':=o22 + i * 3) (by omega) rfl ?_)
    refine qa rfl (qw (vs:=[vI ((m.links[i]'(by omega)).fr),vI ((m.links[i]'(by omega)).to),vI ((m.links[i]'(by omega)).ad)]) rfl ag68 sz68 ((hs24.getR 0 rfl).2) rfl rfl ?_)
    refine qa rfl (kk (cs:=[vI 0,vI 0,vI 0]) hs24 zv68 rfl rfl ?_)
    intro b25 w26 hb28 hs27
    refine qa rfl (zx (v:=.agg #[vI ((m.links[i]'(by omega)).fr),vI ((m.links[i]'(by omega)).to),vI ((m.links[i]'(by omega)).ad)]) (vs:=[vI ((m.links[i]'(by omega)).fr),vI ((m.links[i]'(by omega)).to),vI ((m.links[i]'(by omega)).ad)]) (cs':=[vI ((m.links[i]'(by omega)).fr),vI ((m.links[i]'(by omega)).to),vI ((m.links[i]'(by omega)).ad)]) hs27 0 rfl rfl rfl sz68 rfl rfl rfl rfl rfl ?_)
    intro w29 hs30
    refine ql (qb (qi (qi (qc ?_))))
    refine qa rfl (qg rfl fd68_0 rfl (o':=0) rfl rfl ?_)
    refine qa rfl (qq (v:=vI ((m.links[i]'(by omega)).fr)) rfl ag3 (qh (hs30.get 0 rfl) rfl) rfl ?_)
    refine qa rfl (qj (v:=vI k) rfl rfl ?_)
    refine qa rfl (qt (k:=.i64) (k':=.i64) (a:=((m.links[i]'(by omega)).fr)) (b:=k) rfl rfl rfl yd ?_)
    refine ql (qb ?_)
    refine zd rfl (fun hc31=>?_) (fun hc31=>?_)
    ·refine ja (z0 (ke (qb ?_)))
     have hno:=prTo_no (m:=m) (k:=k) (i:=i) (by omega) hc31
     have hs32 : St w (fun _=>False) w29 [blk b25 [vI ((m.links[i]'(by omega)).fr),vI ((m.links[i]'(by omega)).to),vI ((m.links[i]'(by omega)).ad)] 68,ownI 40 12 a5 c5 ((prTo m k (i + 1)).length) ((prTo m k (i + 1)).flatMap jt),blk b1 (qn m) 26] [rdI b21 (o22 + i * 3) (z1 (m.links[i]'(by omega))),arrI zu 2 m.ca m.comps,arrI z1 3 m.la m.links,arrI zw 2 m.sa m.shares,ko m.comps]:=by rw [hno]; exact hs30
     refine qc ?_
     refine qa rfl (qt (v:=vI ((i + 1 : Nat) : Int)) rfl rfl rfl (ki (qz (by omega) (by omega))) ?_)
     refine qa rfl (qj (v:=vI ((i + 1 : Nat) : Int)) rfl rfl ?_)
     refine ql (qb ?_)
     refine ⟨_,?_,i + 1,a5,c5,rfl,by omega,rfl,rfl,(congrArg (fun z : List (CapV × CapV)=>Value.slice a5 z.length c5) hno.symm),rfl,rfl,rfl,hs32.popR.popM⟩
     omega
    ·refine zn (qb (qi (qc ?_)))
     refine qa rfl (qw (vs:=(qn m)) rfl ag26 sz26 (Rd.of_blk (hs30.get 2 rfl) 0 6) rfl rfl ?_)
     refine qa rfl (qg rfl fd68_1 rfl (o':=1) rfl rfl ?_)
     refine qa rfl (qq (v:=vI ((m.links[i]'(by omega)).to)) rfl ag3 (qh (hs30.get 0 rfl) rfl) rfl ?_)
     refine qa rfl (zi (args:=[.agg (qn m).toArray,vI ((m.links[i]'(by omega)).to)]) rfl rfl rfl en25 (grants_c m ((m.links[i]'(by omega)).to) _ (hs30.popR.r) hb) ?_)
     rintro _ w35 ⟨⟨a33,c34,rfl,ha37,hn38⟩,hk39⟩
     have hs36:=hs30.add hk39 (ownI 39 6 a33 c34 ((zr m ((m.links[i]'(by omega)).to)).length) ((zr m ((m.links[i]'(by omega)).to)).flatMap z9)) ha37 hn38
     refine qa rfl (qf (v:=.slice a33 ((zr m ((m.links[i]'(by omega)).to)).length) c34) rfl rfl ?_)
     refine ql (qb (qi ?_))
     have hs40:=hs36.ownArr 0 (enc:=z9) (l:=(zr m (m.links[i]'(by omega)).to)) rfl (fun _=>rfl) (by decide)
     have hlk:=linkS_ok (hok.link _ (List.getElem_mem (by omega : i < m.links.length)))
     have hgl:=grants_len (m:=m) (k:=(m.links[i]'(by omega)).to) hright (by omega) (by omega)
     obtain ⟨g0,g1⟩:=grants_01 (m:=m) (k:=(m.links[i]'(by omega)).to) hright (by omega) (by omega) (by omega)
     have hcb:=codeAt_b hok (i:=(m.links[i]'(by omega)).to.toNat) (by omega); have had:=link_ad hok (List.getElem_mem (by omega : i < m.links.length))
     obtain ⟨b41,o42,ha43,hs44⟩:=hs40.elem 0 rfl 0 (by omega)
     rw [g0] at hs44
     obtain ⟨b45,o46,ha47,hs48⟩:=hs44.elem 1 rfl 1 (by omega)
     rw [g1] at hs48
     refine jc js (show St _ _ _ [blk b25 [vI ((m.links[i]'(by omega)).fr),vI ((m.links[i]'(by omega)).to),vI ((m.links[i]'(by omega)).ad)] 68,ownI 40 12 a5 c5 ((prTo m k i).length) ((prTo m k i).flatMap jt),blk b1 (qn m) 26] _ from hs48) (fun i_=>match i_ with|6=>some ([9],fun vs_=>match vs_ with|[x9]=>blk (vblk x9) [.bool false,vI 0,vI 0,vI 0,vI 0,vI 0] 39|_=>emp)|7=>some ([10],fun vs_=>match vs_ with|[x10]=>blk (vblk x10) [.bool false,vI 0,vI 0,vI 0,vI 0,vI 0] 39|_=>emp)|8=>some ([9],fun vs_=>match vs_ with|[x9]=>blk (vblk x9) [.bool true,vI ((qr m (m.links[i]'(by omega)).to.toNat).1),vI ((qr m (m.links[i]'(by omega)).to.toNat).2),vI ((qr m (m.links[i]'(by omega)).to.toNat).1),vI 5,vI 0] 39|_=>emp)|9=>some ([10],fun vs_=>match vs_ with|[x10]=>blk (vblk x10) [.bool true,vI ((qv m (m.links[i]'(by omega)).to.toNat).1),vI ((qv m (m.links[i]'(by omega)).to.toNat).2),vI ((qv m (m.links[i]'(by omega)).to.toNat).1),vI 27,vI 0] 39|_=>emp)|_=>none) (fun i_=>match i_ with|8=>[6]|9=>[7]|_=>[]) (fun i_=>match i_ with|_=>[]) (fun i_=>match i_ with|1=>[0]|2=>[1]|4=>[3]|5=>[4]|8=>[6,2]|9=>[7,5]|_=>[]) [9,8,10,11,12,0,1,2,3,4,5,13,14,15,16,17,18,19,20,21,22] [6,7] (fun i_ v_=>match i_ with|0=>v_ = .slice a33 ((zr m ((m.links[i]'(by omega)).to)).length) c34|1=>v_ = .pointer (some ⟨b41,o42 + 0 * 6,none⟩)|2=>v_ = .agg #[.bool true,vI ((qr m (m.links[i]'(by omega)).to.toNat).1),vI ((qr m (m.links[i]'(by omega)).to.toNat).2),vI ((qr m (m.links[i]'(by omega)).to.toNat).1),vI 5,vI 0]|3=>v_ = .slice a33 ((zr m ((m.links[i]'(by omega)).to)).length) c34|4=>v_ = .pointer (some ⟨b45,o46 + 1 * 6,none⟩)|5=>v_ = .agg #[.bool true,vI ((qv m (m.links[i]'(by omega)).to.toNat).1),vI ((qv m (m.links[i]'(by omega)).to.toNat).2),vI ((qv m (m.links[i]'(by omega)).to.toNat).1),vI 27,vI 0]|6=>∃ b49 : Nat,v_ = .pointer (some ⟨b49,0,none⟩)|7=>∃ b53 : Nat,v_ = .pointer (some ⟨b53,0,none⟩)|_=>True) (by kernel_rfl) (by kernel_rfl) ⟨?_,?_,?_,?_,?_,?_,?_,?_,?_,?_,trivial⟩ ?_
     ·intro f0_ w0_ X0_ qp qo qu qk
      have hb8 : f0_ 8 = .slice a33 ((zr m ((m.links[i]'(by omega)).to)).length) c34:=(qp 8 rfl)
      refine qe rfl (qj (v:=.slice a33 ((zr m ((m.links[i]'(by omega)).to)).length) c34) hb8 rfl ?_)
      exact ⟨.slice a33 ((zr m ((m.links[i]'(by omega)).to)).length) c34,rfl,rfl,qk⟩
     ·intro f1_ w1_ X1_ qp qo qu qk
      obtain ⟨hu0,-⟩:=qo
      have hu0 : f1_ 29 = .slice a33 ((zr m ((m.links[i]'(by omega)).to)).length) c34:=hu0
      refine qe rfl (qs hu0 ha43 rfl un48 sz39 (by omega) (by omega) (o':=o42 + 0 * 6) (by omega) rfl ?_)
      exact ⟨.pointer (some ⟨b41,o42 + 0 * 6,none⟩),rfl,rfl,qk⟩
     ·intro f2_ w2_ X2_ qp qo qu qk
      obtain ⟨hu1,-⟩:=qo
      have hu1 : f2_ 30 = .pointer (some ⟨b41,o42 + 0 * 6,none⟩):=hu1
      refine qe rfl (qw (vs:=[.bool true,vI ((qr m (m.links[i]'(by omega)).to.toNat).1),vI ((qr m (m.links[i]'(by omega)).to.toNat).2),vI ((qr m (m.links[i]'(by omega)).to.toNat).1),vI 5,vI 0]) hu1 ag39 sz39 ((qk.getR 1 rfl).2) rfl rfl ?_)
      exact ⟨.agg #[.bool true,vI ((qr m (m.links[i]'(by omega)).to.toNat).1),vI ((qr m (m.links[i]'(by omega)).to.toNat).2),vI ((qr m (m.links[i]'(by omega)).to.toNat).1),vI 5,vI 0],rfl,rfl,qk⟩
     ·intro f3_ w3_ X3_ qp qo qu qk
      have hb8 : f3_ 8 = .slice a33 ((zr m ((m.links[i]'(by omega)).to)).length) c34:=(qp 8 rfl)
      refine qe rfl (qj (v:=.slice a33 ((zr m ((m.links[i]'(by omega)).to)).length) c34) hb8 rfl ?_)
      exact ⟨.slice a33 ((zr m ((m.links[i]'(by omega)).to)).length) c34,rfl,rfl,qk⟩
     ·intro f4_ w4_ X4_ qp qo qu qk
      obtain ⟨hu3,-⟩:=qo
      have hu3 : f4_ 32 = .slice a33 ((zr m ((m.links[i]'(by omega)).to)).length) c34:=hu3
      refine qe rfl (qs hu3 ha47 rfl un48 sz39 (by omega) (by omega) (o':=o46 + 1 * 6) (by omega) rfl ?_)
      exact ⟨.pointer (some ⟨b45,o46 + 1 * 6,none⟩),rfl,rfl,qk⟩
     ·intro f5_ w5_ X5_ qp qo qu qk
      obtain ⟨hu4,-⟩:=qo
      have hu4 : f5_ 33 = .pointer (some ⟨b45,o46 + 1 * 6,none⟩):=hu4
      refine qe rfl (qw (vs:=[.bool true,vI ((qv m (m.links[i]'(by omega)).to.toNat).1),vI ((qv m (m.links[i]'(by omega)).to.toNat).2),vI ((qv m (m.links[i]'(by omega)).to.toNat).1),vI 27,vI 0]) hu4 ag39 sz39 ((qk.getR 0 rfl).2) rfl rfl ?_)
      exact ⟨.agg #[.bool true,vI ((qv m (m.links[i]'(by omega)).to.toNat).1),vI ((qv m (m.links[i]'(by omega)).to.toNat).2),vI ((qv m (m.links[i]'(by omega)).to.toNat).1),vI 27,vI 0],rfl,rfl,qk⟩
     ·intro f6_ w6_ X6_ qp qo qu qk
      refine qe rfl (kk (cs:=[.bool false,vI 0,vI 0,vI 0,vI 0,vI 0]) qk zv39 rfl rfl ?_)
      intro b49 w50 hb52 hs51
      refine ⟨.pointer (some ⟨b49,0,none⟩),rfl,⟨_,rfl⟩,?_⟩
      show St _ _ _ ((blk (vblk ((upd f6_ 9 (.pointer (some ⟨b49,0,none⟩))) 9)) [.bool false,vI 0,vI 0,vI 0,vI 0,vI 0] 39) :: X6_) _
      exact hs51
     ·intro f7_ w7_ X7_ qp qo qu qk
      refine qe rfl (kk (cs:=[.bool false,vI 0,vI 0,vI 0,vI 0,vI 0]) qk zv39 rfl rfl ?_)
      intro b53 w54 hb56 hs55
      refine ⟨.pointer (some ⟨b53,0,none⟩),rfl,⟨_,rfl⟩,?_⟩
      show St _ _ _ ((blk (vblk ((upd f7_ 10 (.pointer (some ⟨b53,0,none⟩))) 10)) [.bool false,vI 0,vI 0,vI 0,vI 0,vI 0] 39) :: X7_) _
      exact hs55
     ·intro f8_ w8_ X8_ qp qo qu qk
      obtain ⟨hu6,hu2,-⟩:=qo
      obtain ⟨b49,hu6⟩:=(show ∃ b49 : Nat,f8_ 9 = .pointer (some ⟨b49,0,none⟩) from hu6)
      have hu2 : f8_ 31 = .agg #[.bool true,vI ((qr m (m.links[i]'(by omega)).to.toNat).1),vI ((qr m (m.links[i]'(by omega)).to.toNat).2),vI ((qr m (m.links[i]'(by omega)).to.toNat).1),vI 5,vI 0]:=hu2
      have qk : St _ _ _ ((blk (vblk (f8_ 9)) [.bool false,vI 0,vI 0,vI 0,vI 0,vI 0] 39) :: X8_) _:=qk
      rw [hu6] at qk; simp only [vblk,zf,vcap,z3] at qk
      refine qe rfl (zx (v:=.agg #[.bool true,vI ((qr m (m.links[i]'(by omega)).to.toNat).1),vI ((qr m (m.links[i]'(by omega)).to.toNat).2),vI ((qr m (m.links[i]'(by omega)).to.toNat).1),vI 5,vI 0]) (vs:=[.bool true,vI ((qr m (m.links[i]'(by omega)).to.toNat).1),vI ((qr m (m.links[i]'(by omega)).to.toNat).2),vI ((qr m (m.links[i]'(by omega)).to.toNat).1),vI 5,vI 0]) (cs':=[.bool true,vI ((qr m (m.links[i]'(by omega)).to.toNat).1),vI ((qr m (m.links[i]'(by omega)).to.toNat).2),vI ((qr m (m.links[i]'(by omega)).to.toNat).1),vI 5,vI 0]) qk 0 rfl hu6 hu2 sz39 rfl rfl rfl rfl rfl ?_)
      intro w57 hs58
      refine ⟨undef,rfl,trivial,?_⟩
      show St _ _ _ ((blk (vblk (f8_ 9)) [.bool true,vI ((qr m (m.links[i]'(by omega)).to.toNat).1),vI ((qr m (m.links[i]'(by omega)).to.toNat).2),vI ((qr m (m.links[i]'(by omega)).to.toNat).1),vI 5,vI 0] 39) :: X8_) _
      rw [show (f8_) 9 = _ from hu6]
      exact hs58
     ·intro f9_ w9_ X9_ qp qo qu qk
      obtain ⟨hu7,hu5,-⟩:=qo
      obtain ⟨b53,hu7⟩:=(show ∃ b53 : Nat,f9_ 10 = .pointer (some ⟨b53,0,none⟩) from hu7)
      have hu5 : f9_ 34 = .agg #[.bool true,vI ((qv m (m.links[i]'(by omega)).to.toNat).1),vI ((qv m (m.links[i]'(by omega)).to.toNat).2),vI ((qv m (m.links[i]'(by omega)).to.toNat).1),vI 27,vI 0]:=hu5
      have qk : St _ _ _ ((blk (vblk (f9_ 10)) [.bool false,vI 0,vI 0,vI 0,vI 0,vI 0] 39) :: X9_) _:=qk
      rw [hu7] at qk; simp only [vblk,zf,vcap,z3] at qk
      refine qe rfl (zx (v:=.agg #[.bool true,vI ((qv m (m.links[i]'(by omega)).to.toNat).1),vI ((qv m (m.links[i]'(by omega)).to.toNat).2),vI ((qv m (m.links[i]'(by omega)).to.toNat).1),vI 27,vI 0]) (vs:=[.bool true,vI ((qv m (m.links[i]'(by omega)).to.toNat).1),vI ((qv m (m.links[i]'(by omega)).to.toNat).2),vI ((qv m (m.links[i]'(by omega)).to.toNat).1),vI 27,vI 0]) (cs':=[.bool true,vI ((qv m (m.links[i]'(by omega)).to.toNat).1),vI ((qv m (m.links[i]'(by omega)).to.toNat).2),vI ((qv m (m.links[i]'(by omega)).to.toNat).1),vI 27,vI 0]) qk 0 rfl hu7 hu5 sz39 rfl rfl rfl rfl rfl ?_)
      intro w59 hs60
      refine ⟨undef,rfl,trivial,?_⟩
      show St _ _ _ ((blk (vblk (f9_ 10)) [.bool true,vI ((qv m (m.links[i]'(by omega)).to.toNat).1),vI ((qv m (m.links[i]'(by omega)).to.toNat).2),vI ((qv m (m.links[i]'(by omega)).to.toNat).1),vI 27,vI 0] 39) :: X9_) _
      rw [show (f9_) 10 = _ from hu7]
      exact hs60
     intro f61 w62 qp qo hs63
     obtain ⟨hu6,hu7,-⟩:=qo
     obtain ⟨b49,hu6⟩:=(show ∃ b49 : Nat,f61 9 = .pointer (some ⟨b49,0,none⟩) from hu6)
     obtain ⟨b53,hu7⟩:=(show ∃ b53 : Nat,f61 10 = .pointer (some ⟨b53,0,none⟩) from hu7)
     have hs63 : St _ _ _ [blk (vblk (f61 10)) [.bool true,vI ((qv m (m.links[i]'(by omega)).to.toNat).1),vI ((qv m (m.links[i]'(by omega)).to.toNat).2),vI ((qv m (m.links[i]'(by omega)).to.toNat).1),vI 27,vI 0] 39,blk (vblk (f61 9)) [.bool true,vI ((qr m (m.links[i]'(by omega)).to.toNat).1),vI ((qr m (m.links[i]'(by omega)).to.toNat).2),vI ((qr m (m.links[i]'(by omega)).to.toNat).1),vI 5,vI 0] 39,blk b25 [vI ((m.links[i]'(by omega)).fr),vI ((m.links[i]'(by omega)).to),vI ((m.links[i]'(by omega)).ad)] 68,ownI 40 12 a5 c5 ((prTo m k i).length) ((prTo m k i).flatMap jt),blk b1 (qn m) 26] _:=hs63
     simp only [hu6,hu7,vblk,zf,vcap,z3] at hs63
     have hs63 : St _ _ _ [blk b53 [.bool true,vI ((qv m (m.links[i]'(by omega)).to.toNat).1),vI ((qv m (m.links[i]'(by omega)).to.toNat).2),vI ((qv m (m.links[i]'(by omega)).to.toNat).1),vI 27,vI 0] 39,blk b49 [.bool true,vI ((qr m (m.links[i]'(by omega)).to.toNat).1),vI ((qr m (m.links[i]'(by omega)).to.toNat).2),vI ((qr m (m.links[i]'(by omega)).to.toNat).1),vI 5,vI 0] 39,blk b25 [vI ((m.links[i]'(by omega)).fr),vI ((m.links[i]'(by omega)).to),vI ((m.links[i]'(by omega)).ad)] 68,ownI 40 12 a5 c5 ((prTo m k i).length) ((prTo m k i).flatMap jt),blk b1 (qn m) 26] _:=hs63
     have e64 : f61 1 = vI k:=(qp 1 rfl)
     rewrite [qm e64]
     have e65 : f61 2 = .pointer (some ⟨b1,0,none⟩):=(qp 2 rfl)
     rewrite [qm e65]
     have e66 : f61 5 = .slice a5 ((prTo m k i).length) c5:=(qp 5 rfl)
     rewrite [qm e66]
     have e67 : f61 7 = .pointer (some ⟨b25,0,none⟩):=(qp 7 rfl)
     rewrite [qm e67]
     rewrite [qm hu6]
     rewrite [qm hu7]
     have e68 : f61 15 = .slice m.la m.links.length m.lcap:=(qp 15 rfl)
     rewrite [qm e68]
     have e69 : f61 16 = vI ((m.links.length : Nat) : Int):=(qp 16 rfl)
     rewrite [qm e69]
     have e70 : f61 17 = vI ((i : Nat) : Int):=(qp 17 rfl)
     rewrite [qm e70]
     refine qb (qi (qc ?_))
     refine qa rfl (qg rfl fd39_3 rfl (o':=3) rfl rfl ?_)
     refine qa rfl (qq (v:=vI ((qr m (m.links[i]'(by omega)).to.toNat).1)) rfl ag3 (qh (hs63.get 1 rfl) rfl) rfl ?_)
     refine qa rfl (qg rfl fd68_2 rfl (o':=2) rfl rfl ?_)
     refine qa rfl (qq (v:=vI ((m.links[i]'(by omega)).ad)) rfl ag3 (qh (hs63.get 2 rfl) rfl) rfl ?_)
     refine qa rfl (qt (v:=vI (4 * ((m.links[i]'(by omega)).ad))) rfl rfl rfl (b_mul (qz (by omega) (by omega))) ?_)
     refine qa rfl (qt (v:=vI (((qr m (m.links[i]'(by omega)).to.toNat).1) + (4 * ((m.links[i]'(by omega)).ad)))) rfl rfl rfl (ki (qz (by omega) (by omega))) ?_)
     refine qa rfl (qg rfl fd39_3 rfl (o':=3) rfl rfl ?_)
     refine qa rfl (zx (v:=vI (((qr m (m.links[i]'(by omega)).to.toNat).1) + (4 * ((m.links[i]'(by omega)).ad)))) (vs:=[vI (((qr m (m.links[i]'(by omega)).to.toNat).1) + (4 * ((m.links[i]'(by omega)).ad)))]) (cs':=[.bool true,vI ((qr m (m.links[i]'(by omega)).to.toNat).1),vI ((qr m (m.links[i]'(by omega)).to.toNat).2),vI (((qr m (m.links[i]'(by omega)).to.toNat).1) + (4 * ((m.links[i]'(by omega)).ad))),vI 5,vI 0]) hs63 1 rfl rfl rfl sz3 rfl rfl rfl rfl rfl ?_)
     intro w71 hs72
     refine ql (qb (qi ?_))
     refine jc js (show St _ _ _ [blk b53 [.bool true,vI ((qv m (m.links[i]'(by omega)).to.toNat).1),vI ((qv m (m.links[i]'(by omega)).to.toNat).2),vI ((qv m (m.links[i]'(by omega)).to.toNat).1),vI 27,vI 0] 39,blk b49 [.bool true,vI ((qr m (m.links[i]'(by omega)).to.toNat).1),vI ((qr m (m.links[i]'(by omega)).to.toNat).2),vI (((qr m (m.links[i]'(by omega)).to.toNat).1) + (4 * ((m.links[i]'(by omega)).ad))),vI 5,vI 0] 39,blk b25 [vI ((m.links[i]'(by omega)).fr),vI ((m.links[i]'(by omega)).to),vI ((m.links[i]'(by omega)).ad)] 68,ownI 40 12 a5 c5 ((prTo m k i).length) ((prTo m k i).flatMap jt),blk b1 (qn m) 26] _ from hs72) (fun i_=>match i_ with|7=>some ([],fun _=>blk b49 [.bool true,vI ((qr m (m.links[i]'(by omega)).to.toNat).1),vI ((qr m (m.links[i]'(by omega)).to.toNat).2),vI (((qr m (m.links[i]'(by omega)).to.toNat).1) + (4 * ((m.links[i]'(by omega)).ad))),vI 5,vI (2 + ((m.links[i]'(by omega)).to))] 39)|9=>some ([],fun _=>blk b53 [.bool true,vI ((qv m (m.links[i]'(by omega)).to.toNat).1),vI ((qv m (m.links[i]'(by omega)).to.toNat).2),vI ((qv m (m.links[i]'(by omega)).to.toNat).1),vI 27,vI (2 + ((m.links[i]'(by omega)).to))] 39)|_=>none) (fun i_=>match i_ with|7=>[11]|9=>[10]|_=>[]) (fun i_=>match i_ with|1=>[12]|4=>[12]|_=>[]) (fun i_=>match i_ with|1=>[0]|2=>[1]|4=>[3]|5=>[4]|7=>[6,2]|9=>[8,5]|_=>[]) [9,7,12,13,14,0,1,2,3,4,5,6,8,15,16,17,18,19,20,21,22,23,24] [] (fun i_ v_=>match i_ with|0=>v_ = .pointer (some ⟨b25,1,none⟩)|1=>v_ = vI ((m.links[i]'(by omega)).to)|2=>v_ = vI (2 + ((m.links[i]'(by omega)).to))|3=>v_ = .pointer (some ⟨b25,1,none⟩)|4=>v_ = vI ((m.links[i]'(by omega)).to)|5=>v_ = vI (2 + ((m.links[i]'(by omega)).to))|6=>v_ = .pointer (some ⟨b49,5,none⟩)|8=>v_ = .pointer (some ⟨b53,5,none⟩)|_=>True) (by kernel_rfl) (by kernel_rfl) ⟨?_,?_,?_,?_,?_,?_,?_,?_,?_,?_,trivial⟩ ?_
     ·intro f0_ w0_ X0_ qp qo qu qk
      have hb7 : f0_ 7 = .pointer (some ⟨b25,0,none⟩):=(qp 7 rfl)
      refine qe rfl (qg hb7 fd68_1 rfl (o':=1) rfl rfl ?_)
      exact ⟨.pointer (some ⟨b25,1,none⟩),rfl,rfl,qk⟩
     ·intro f1_ w1_ X1_ qp qo qu qk
      obtain ⟨hu0,-⟩:=qo
      have hu0 : f1_ 42 = .pointer (some ⟨b25,1,none⟩):=hu0
      obtain ⟨hr12,-⟩:=qu
      have hr12 : Item.φ (blk b25 [vI ((m.links[i]'(by omega)).fr),vI ((m.links[i]'(by omega)).to),vI ((m.links[i]'(by omega)).ad)] 68) w1_:=hr12
      refine qe rfl (qq (v:=vI ((m.links[i]'(by omega)).to)) hu0 ag3 (qh (hr12) rfl) rfl ?_)
      exact ⟨vI ((m.links[i]'(by omega)).to),rfl,rfl,qk⟩
     ·intro f2_ w2_ X2_ qp qo qu qk
      obtain ⟨hu1,-⟩:=qo
      have hu1 : f2_ 43 = vI ((m.links[i]'(by omega)).to):=hu1
      refine qe rfl (qt (v:=vI (2 + ((m.links[i]'(by omega)).to))) rfl hu1 rfl (ki (qz (by omega) (by omega))) ?_)
      exact ⟨vI (2 + ((m.links[i]'(by omega)).to)),rfl,rfl,qk⟩
     ·intro f3_ w3_ X3_ qp qo qu qk
      have hb7 : f3_ 7 = .pointer (some ⟨b25,0,none⟩):=(qp 7 rfl)
      refine qe rfl (qg hb7 fd68_1 rfl (o':=1) rfl rfl ?_)
      exact ⟨.pointer (some ⟨b25,1,none⟩),rfl,rfl,qk⟩
     ·intro f4_ w4_ X4_ qp qo qu qk
      obtain ⟨hu3,-⟩:=qo
      have hu3 : f4_ 45 = .pointer (some ⟨b25,1,none⟩):=hu3
      obtain ⟨hr12,-⟩:=qu
      have hr12 : Item.φ (blk b25 [vI ((m.links[i]'(by omega)).fr),vI ((m.links[i]'(by omega)).to),vI ((m.links[i]'(by omega)).ad)] 68) w4_:=hr12
      refine qe rfl (qq (v:=vI ((m.links[i]'(by omega)).to)) hu3 ag3 (qh (hr12) rfl) rfl ?_)
      exact ⟨vI ((m.links[i]'(by omega)).to),rfl,rfl,qk⟩
     ·intro f5_ w5_ X5_ qp qo qu qk
      obtain ⟨hu4,-⟩:=qo
      have hu4 : f5_ 46 = vI ((m.links[i]'(by omega)).to):=hu4
      refine qe rfl (qt (v:=vI (2 + ((m.links[i]'(by omega)).to))) rfl hu4 rfl (ki (qz (by omega) (by omega))) ?_)
      exact ⟨vI (2 + ((m.links[i]'(by omega)).to)),rfl,rfl,qk⟩
     ·intro f6_ w6_ X6_ qp qo qu qk
      have hb9 : f6_ 9 = .pointer (some ⟨b49,0,none⟩):=(qp 9 rfl)
      refine qe rfl (qg hb9 fd39_5 rfl (o':=5) rfl rfl ?_)
      exact ⟨.pointer (some ⟨b49,5,none⟩),rfl,rfl,qk⟩
     ·intro f7_ w7_ X7_ qp qo qu qk
      obtain ⟨hu6,hu2,-⟩:=qo
      have hu6 : f7_ 48 = .pointer (some ⟨b49,5,none⟩):=hu6
      have hu2 : f7_ 44 = vI (2 + ((m.links[i]'(by omega)).to)):=hu2
      have qk : St _ _ _ ((blk b49 [.bool true,vI ((qr m (m.links[i]'(by omega)).to.toNat).1),vI ((qr m (m.links[i]'(by omega)).to.toNat).2),vI (((qr m (m.links[i]'(by omega)).to.toNat).1) + (4 * ((m.links[i]'(by omega)).ad))),vI 5,vI 0] 39) :: X7_) _:=qk
      refine qe rfl (zx (v:=vI (2 + ((m.links[i]'(by omega)).to))) (vs:=[vI (2 + ((m.links[i]'(by omega)).to))]) (cs':=[.bool true,vI ((qr m (m.links[i]'(by omega)).to.toNat).1),vI ((qr m (m.links[i]'(by omega)).to.toNat).2),vI (((qr m (m.links[i]'(by omega)).to.toNat).1) + (4 * ((m.links[i]'(by omega)).ad))),vI 5,vI (2 + ((m.links[i]'(by omega)).to))]) qk 0 rfl hu6 hu2 sz3 rfl rfl rfl rfl rfl ?_)
      intro w73 hs74
      refine ⟨undef,rfl,trivial,?_⟩
      show St _ _ _ ((blk b49 [.bool true,vI ((qr m (m.links[i]'(by omega)).to.toNat).1),vI ((qr m (m.links[i]'(by omega)).to.toNat).2),vI (((qr m (m.links[i]'(by omega)).to.toNat).1) + (4 * ((m.links[i]'(by omega)).ad))),vI 5,vI (2 + ((m.links[i]'(by omega)).to))] 39) :: X7_) _
      exact hs74
     ·intro f8_ w8_ X8_ qp qo qu qk
      have hb10 : f8_ 10 = .pointer (some ⟨b53,0,none⟩):=(qp 10 rfl)
      refine qe rfl (qg hb10 fd39_5 rfl (o':=5) rfl rfl ?_)
      exact ⟨.pointer (some ⟨b53,5,none⟩),rfl,rfl,qk⟩
     ·intro f9_ w9_ X9_ qp qo qu qk
      obtain ⟨hu8,hu5,-⟩:=qo
      have hu8 : f9_ 49 = .pointer (some ⟨b53,5,none⟩):=hu8
      have hu5 : f9_ 47 = vI (2 + ((m.links[i]'(by omega)).to)):=hu5
      have qk : St _ _ _ ((blk b53 [.bool true,vI ((qv m (m.links[i]'(by omega)).to.toNat).1),vI ((qv m (m.links[i]'(by omega)).to.toNat).2),vI ((qv m (m.links[i]'(by omega)).to.toNat).1),vI 27,vI 0] 39) :: X9_) _:=qk
      refine qe rfl (zx (v:=vI (2 + ((m.links[i]'(by omega)).to))) (vs:=[vI (2 + ((m.links[i]'(by omega)).to))]) (cs':=[.bool true,vI ((qv m (m.links[i]'(by omega)).to.toNat).1),vI ((qv m (m.links[i]'(by omega)).to.toNat).2),vI ((qv m (m.links[i]'(by omega)).to.toNat).1),vI 27,vI (2 + ((m.links[i]'(by omega)).to))]) qk 0 rfl hu8 hu5 sz3 rfl rfl rfl rfl rfl ?_)
      intro w75 hs76
      refine ⟨undef,rfl,trivial,?_⟩
      show St _ _ _ ((blk b53 [.bool true,vI ((qv m (m.links[i]'(by omega)).to.toNat).1),vI ((qv m (m.links[i]'(by omega)).to.toNat).2),vI ((qv m (m.links[i]'(by omega)).to.toNat).1),vI 27,vI (2 + ((m.links[i]'(by omega)).to))] 39) :: X9_) _
      exact hs76
     intro f77 w78 qp qo hs79
     have hs79 : St _ _ _ [blk b53 [.bool true,vI ((qv m (m.links[i]'(by omega)).to.toNat).1),vI ((qv m (m.links[i]'(by omega)).to.toNat).2),vI ((qv m (m.links[i]'(by omega)).to.toNat).1),vI 27,vI (2 + ((m.links[i]'(by omega)).to))] 39,blk b49 [.bool true,vI ((qr m (m.links[i]'(by omega)).to.toNat).1),vI ((qr m (m.links[i]'(by omega)).to.toNat).2),vI (((qr m (m.links[i]'(by omega)).to.toNat).1) + (4 * ((m.links[i]'(by omega)).ad))),vI 5,vI (2 + ((m.links[i]'(by omega)).to))] 39,blk b25 [vI ((m.links[i]'(by omega)).fr),vI ((m.links[i]'(by omega)).to),vI ((m.links[i]'(by omega)).ad)] 68,ownI 40 12 a5 c5 ((prTo m k i).length) ((prTo m k i).flatMap jt),blk b1 (qn m) 26] _:=hs79
     have e80 : f77 1 = vI k:=(qp 1 rfl)
     rewrite [qm e80]
     have e81 : f77 2 = .pointer (some ⟨b1,0,none⟩):=(qp 2 rfl)
     rewrite [qm e81]
     have e82 : f77 5 = .slice a5 ((prTo m k i).length) c5:=(qp 5 rfl)
     rewrite [qm e82]
     have e83 : f77 9 = .pointer (some ⟨b49,0,none⟩):=(qp 9 rfl)
     rewrite [qm e83]
     have e84 : f77 10 = .pointer (some ⟨b53,0,none⟩):=(qp 10 rfl)
     rewrite [qm e84]
     have e85 : f77 15 = .slice m.la m.links.length m.lcap:=(qp 15 rfl)
     rewrite [qm e85]
     have e86 : f77 16 = vI ((m.links.length : Nat) : Int):=(qp 16 rfl)
     rewrite [qm e86]
     have e87 : f77 17 = vI ((i : Nat) : Int):=(qp 17 rfl)
     rewrite [qm e87]
     refine qb (qc ?_)
     refine qa rfl (qj (v:=.slice a5 ((prTo m k i).length) c5) rfl rfl ?_)
     refine qa rfl (qw (vs:=[.bool true,vI ((qr m (m.links[i]'(by omega)).to.toNat).1),vI ((qr m (m.links[i]'(by omega)).to.toNat).2),vI (((qr m (m.links[i]'(by omega)).to.toNat).1) + (4 * ((m.links[i]'(by omega)).ad))),vI 5,vI (2 + ((m.links[i]'(by omega)).to))]) rfl ag39 sz39 (Rd.of_blk (hs79.get 1 rfl) 0 6) rfl rfl ?_)
     refine qa rfl (qw (vs:=[.bool true,vI ((qv m (m.links[i]'(by omega)).to.toNat).1),vI ((qv m (m.links[i]'(by omega)).to.toNat).2),vI ((qv m (m.links[i]'(by omega)).to.toNat).1),vI 27,vI (2 + ((m.links[i]'(by omega)).to))]) rfl ag39 sz39 (Rd.of_blk (hs79.get 0 rfl) 0 6) rfl rfl ?_)
     refine qa rfl (xe (ps:=[(0,[.bool true,vI ((qr m (m.links[i]'(by omega)).to.toNat).1),vI ((qr m (m.links[i]'(by omega)).to.toNat).2),vI (((qr m (m.links[i]'(by omega)).to.toNat).1) + (4 * ((m.links[i]'(by omega)).ad))),vI 5,vI (2 + ((m.links[i]'(by omega)).to))]),(1,[.bool true,vI ((qv m (m.links[i]'(by omega)).to.toNat).1),vI ((qv m (m.links[i]'(by omega)).to.toNat).2),vI ((qv m (m.links[i]'(by omega)).to.toNat).1),vI 27,vI (2 + ((m.links[i]'(by omega)).to))])]) (zero:=[.bool false,vI 0,vI 0,vI 0,vI 0,vI 0,.bool false,vI 0,vI 0,vI 0,vI 0,vI 0]) (cells:=[.bool true,vI ((qr m (m.links[i]'(by omega)).to.toNat).1),vI ((qr m (m.links[i]'(by omega)).to.toNat).2),vI (((qr m (m.links[i]'(by omega)).to.toNat).1) + (4 * ((m.links[i]'(by omega)).ad))),vI 5,vI (2 + ((m.links[i]'(by omega)).to)),.bool true,vI ((qv m (m.links[i]'(by omega)).to.toNat).1),vI ((qv m (m.links[i]'(by omega)).to.toNat).2),vI ((qv m (m.links[i]'(by omega)).to.toNat).1),vI 27,vI (2 + ((m.links[i]'(by omega)).to))]) un40 sz39 zv40 rfl rfl rfl rfl ?_)
     refine qa rfl (O_buildSliceR (zl:=[.bool false,vI 0,vI 0,vI 0,vI 0,vI 0,.bool false,vI 0,vI 0,vI 0,vI 0,vI 0]) (zs:=[.bool false,vI 0,vI 0,vI 0,vI 0,vI 0,.bool false,vI 0,vI 0,vI 0,vI 0,vI 0]) (ps:=[(0,[.bool true,vI ((qr m (m.links[i]'(by omega)).to.toNat).1),vI ((qr m (m.links[i]'(by omega)).to.toNat).2),vI (((qr m (m.links[i]'(by omega)).to.toNat).1) + (4 * ((m.links[i]'(by omega)).ad))),vI 5,vI (2 + ((m.links[i]'(by omega)).to)),.bool true,vI ((qv m (m.links[i]'(by omega)).to.toNat).1),vI ((qv m (m.links[i]'(by omega)).to.toNat).2),vI ((qv m (m.links[i]'(by omega)).to.toNat).1),vI 27,vI (2 + ((m.links[i]'(by omega)).to))])]) (cs:=[.bool true,vI ((qr m (m.links[i]'(by omega)).to.toNat).1),vI ((qr m (m.links[i]'(by omega)).to.toNat).2),vI (((qr m (m.links[i]'(by omega)).to.toNat).1) + (4 * ((m.links[i]'(by omega)).ad))),vI 5,vI (2 + ((m.links[i]'(by omega)).to)),.bool true,vI ((qv m (m.links[i]'(by omega)).to.toNat).1),vI ((qv m (m.links[i]'(by omega)).to.toNat).2),vI ((qv m (m.links[i]'(by omega)).to.toNat).1),vI 27,vI (2 + ((m.links[i]'(by omega)).to))]) hs79 un36 sz40 zv40 rfl rfl rfl rfl rfl rfl rfl ?_)
     intro b88 w89 hb91 hs90
     refine qa rfl (k7 (n2:=(prTo m k (i + 1)).length) (xs2:=(prTo m k (i + 1)).flatMap jt) hs90 4 rfl rfl rfl un36 ni36 inf40 rfl (Src.rd (news:=[.bool true,vI ((qr m (m.links[i]'(by omega)).to.toNat).1),vI ((qr m (m.links[i]'(by omega)).to.toNat).2),vI (((qr m (m.links[i]'(by omega)).to.toNat).1) + (4 * ((m.links[i]'(by omega)).ad))),vI 5,vI (2 + ((m.links[i]'(by omega)).to)),.bool true,vI ((qv m (m.links[i]'(by omega)).to.toNat).1),vI ((qv m (m.links[i]'(by omega)).to.toNat).2),vI ((qv m (m.links[i]'(by omega)).to.toNat).1),vI 27,vI (2 + ((m.links[i]'(by omega)).to))]) (Rd.of_blk (hs90.get 0 rfl) 0 12) rfl rfl) (by rw [prTo_yes (by omega) (by simpa using hc31),List.length_append,List.length_singleton]) (by rw [prTo_yes (by omega) (by simpa using hc31),List.flatMap_append]; rfl) (by have:=prTo_len m k i; omega) (by have:=prTo_len m k i; omega) rfl ?_)
     intro a92 c93 w94 hs95
     refine qa rfl (qf (v:=.slice a92 ((prTo m k (i + 1)).length) c93) rfl rfl ?_)
     refine ql (z7 (qb (qc ?_)))
     refine qa rfl (qt (v:=vI ((i + 1 : Nat) : Int)) rfl rfl rfl (ki (qz (by omega) (by omega))) ?_)
     refine qa rfl (qj (v:=vI ((i + 1 : Nat) : Int)) rfl rfl ?_)
     refine ql (qb ?_)
     refine ⟨_,?_,i + 1,a92,c93,rfl,by omega,rfl,rfl,rfl,rfl,rfl,rfl,hs95.popR.popR.popR.popR.popM.popM.popM.popM⟩
     omega
   ·refine ja (z0 (z0 (ke (qb (qi (qc ?_))))))
    refine qa rfl (qj (v:=.slice a5 ((prTo m k i).length) c5) rfl rfl ?_)
    refine qa rfl (qf (v:=.slice a5 ((prTo m k i).length) c5) rfl rfl ?_)
    refine ql (qb (zo ?_))
    refine ⟨.slice a5 ((prTo m k i).length) c5,res1 rfl,?_⟩
    obtain rfl : i = m.links.length:=by omega
    have he : zc m k = prTo m k m.links.length:=by unfold zc; rw [if_pos hright]
    exact ⟨⟨a5,c5,by rw [he],by rw [he]; exact hs12.get 0 rfl,fun x ⟨o,e⟩=>hs12.newB 0 rfl x ⟨o,e⟩⟩,hs12.base⟩


end Go.Proofs.Ytgddigkdldnmdaa
