import Derived.Test.YtgddigkdldnmdaaCWhere4
namespace Go.Proofs.Ytgddigkdldnmdaa
open Go Go.Vg Go.Img
set_option linter.unusedSimpArgs false
set_option maxHeartbeats 4000000


theorem form_at (m : ImageV) {nc nl ns : Nat} (hc : m.comps.length = nc) (hl : m.links.length = nl) (hs : m.shares.length = ns) (w : World) (hm : ∀ i ∈ kh m,i.φ w) (hb : ImgB m) :
  C Try.prog 34 [.agg #[.bool m.strict,vI m.heap,vI m.full,.slice m.ca nc m.ccap,.slice m.la nl m.lcap,.slice m.sa ns m.scap]] w fun v w'=>v = .bool (jo m) ∧ Grow w w':=by
 subst hc; subst hl; subst hs; exact form_c m w hm hb

theorem iright_at (m : ImageV) {nc nl ns : Nat} (hc : m.comps.length = nc) (hl : m.links.length = nl) (hs : m.shares.length = ns) (w : World) (hm : ∀ i ∈ kh m,i.φ w) (hb : ImgB m) :
  C Try.prog 14 [.agg #[.bool m.strict,vI m.heap,vI m.full,.slice m.ca nc m.ccap,.slice m.la nl m.lcap,.slice m.sa ns m.scap]] w fun v w'=>v = .bool (z2 m) ∧ Grow w w':=by
 subst hc; subst hl; subst hs; exact iright_c m w hm hb

theorem clone_at (a : Option Addr) (cap n : Nat) (l : List UInt8) (hn : l.length = n) (w : World) (h : (arrI encB 1 a l).φ w) (hl : l.length ≤ 100000) (hlc : l.length ≤ cap) (hnil : a = none → cap = 0) :
  C Try.prog 33 [.slice a n cap] w fun v w'=>(∃ a2 c2,v = .slice a2 n c2 ∧ (ownI 5 1 a2 c2 n (l.flatMap encB)).φ w' ∧ ∀ x,(ownI 5 1 a2 c2 n (l.flatMap encB)).fp x → w.heap.size ≤ x) ∧ Grow w w':=by
 subst hn; exact clone_c a cap l w h hl hlc hnil

/-- seizin/image.Get -/
theorem getI_c (a : Option Addr) (cap : Nat) (l : List UInt8) (w : World) (h : (arrI encB 1 a l).φ w) (hl : l.length ≤ 20000) (hcap : l.length ≤ cap) (hnil : a = none → cap = 0) :
  C Try.prog 12 [.slice a l.length cap] w fun v w'=>(∃ (m : ImageV) (e : Int),v = .tuple #[.agg (qn m).toArray,vI e] ∧ (∀ i ∈ kh m,i.φ w') ∧ (∀ i ∈ kh m,∀ b,i.fp b → w.heap.size ≤ b) ∧ ImgB m ∧ m.canon = (getI l).1 ∧ e = (getI l).2) ∧ Grow w w':=by
 have hs0 : St w (fun _=>False) w [] [arrI encB 1 a l]:=St.start w _ (by simpa using h)
 refine z8 [.cell 2 26,.tmp 3] 133 Try.func12 rfl Try.ntmps12 rfl rfl ?_
 refine qi (qc ?_)
 refine qa rfl (kk (cs:=[.bool false,vI 0,vI 0,.slice none 0 0,.slice none 0 0,.slice none 0 0]) hs0 zv26 rfl rfl ?_)
 intro b1 w2 hb4 hs3
 refine qa rfl (qf (v:=vI 0) rfl rfl ?_)
 refine ql (qb (qi (qc ?_)))
 refine qa rfl (qj (v:=.slice a l.length cap) rfl rfl ?_)
 refine qa rfl (jl (ps:=[(0,[.slice a l.length cap])]) (cells:=[.slice a l.length cap,.bool false]) bt62 rfl rfl rfl ?_)
 refine qa rfl (jw (v:=.agg #[.slice a l.length cap,.bool false]) (cs:=[.slice a l.length cap,.bool false]) hs3 rfl rfl rfl ?_)
 intro b5 w6 hb8 hs7
 refine qa rfl (jl (ps:=[(0,[.pointer (some ⟨b5,0,none⟩)])]) (cells:=[.pointer (some ⟨b5,0,none⟩)]) bt64 rfl rfl rfl ?_)
 refine qa rfl (kk (cs:=[.pointer none]) hs7 zv64 rfl rfl ?_)
 intro b9 w10 hb12 hs11
 refine qa rfl (zx (v:=.agg #[.pointer (some ⟨b5,0,none⟩)]) (vs:=[.pointer (some ⟨b5,0,none⟩)]) (cs':=[.pointer (some ⟨b5,0,none⟩)]) hs11 0 rfl rfl rfl sz64 rfl rfl rfl rfl rfl ?_)
 intro w13 hs14
 refine ql (qb (qi ?_))
 have hs15:=hs14.mut 1 rfl (Keeps.refl _ _) (rdrI a l b5 62 (gs0 l)) (rdr_init (hs14.get 1 rfl) (hs14.getR 0 rfl) hcap hnil) (fun _ h=>.inl h)
 have hgC:=gC_le l
 have hgL:=gL_le l
 have hgS:=gS_le l
 refine jc js (show St _ _ _ [blk b9 [.pointer (some ⟨b5,0,none⟩)] 64,rdrI a l b5 62 (gs0 l),blk b1 [.bool false,vI 0,vI 0,.slice none 0 0,.slice none 0 0,.slice none 0 0] 26] _ from hs15) (fun i_=>match i_ with|2=>some ([21],fun vs_=>match vs_ with|[x21]=>resI 5 a l (gs0 l).off 2 (zf x21) (vcap x21)|_=>emp)|5=>some ([],fun _=>rdrI a l b5 62 (gs2 l))|13=>some ([],fun _=>rdrI a l b5 62 (gs1 l))|_=>none) (fun i_=>match i_ with|2=>[9]|5=>[13]|_=>[]) (fun i_=>match i_ with|1=>[8]|3=>[2]|4=>[8]|_=>[]) (fun i_=>match i_ with|1=>[0]|2=>[1]|3=>[2]|5=>[4]|6=>[3]|7=>[5]|_=>[]) [2,8,5,10,0,1,3,4,6,7,11,12,14,15,16,17,18] [2,6,7] (fun i_ v_=>match i_ with|0=>v_ = .pointer (some ⟨b9,0,none⟩)|1=>v_ = .pointer (some ⟨b5,0,none⟩)|2=>∃ a16 : Option Addr,∃ c17 : Nat,v_ = .slice a16 2 c17|3=>v_ = .string ⟨(xj l).toArray⟩|4=>v_ = .agg #[.pointer (some ⟨b5,0,none⟩)]|5=>v_ = vI (zm l)|6=>v_ = .string ⟨(xj l).toArray⟩|7=>v_ = vI (zm l)|_=>True) (by kernel_rfl) (by kernel_rfl) ⟨?_,?_,?_,?_,?_,?_,?_,?_,trivial⟩ ?_
 ·intro f0_ w0_ X0_ qp qo qu qk
  have hb4 : f0_ 4 = .pointer (some ⟨b9,0,none⟩):=(qp 4 rfl)
  refine qe rfl (qg hb4 fd64_0 rfl (o':=0) rfl rfl ?_)
  exact ⟨.pointer (some ⟨b9,0,none⟩),rfl,rfl,qk⟩
 ·intro f1_ w1_ X1_ qp qo qu qk
  obtain ⟨hu0,-⟩:=qo
  have hu0 : f1_ 19 = .pointer (some ⟨b9,0,none⟩):=hu0
  obtain ⟨hr8,-⟩:=qu
  have hr8 : Item.φ (blk b9 [.pointer (some ⟨b5,0,none⟩)] 64) w1_:=hr8
  refine qe rfl (qq (v:=.pointer (some ⟨b5,0,none⟩)) hu0 ag60 (qh (hr8) rfl) rfl ?_)
  exact ⟨.pointer (some ⟨b5,0,none⟩),rfl,rfl,qk⟩
 ·intro f2_ w2_ X2_ qp qo qu qk
  obtain ⟨hu1,-⟩:=qo
  have hu1 : f2_ 20 = .pointer (some ⟨b5,0,none⟩):=hu1
  have qk : St _ _ _ ((rdrI a l b5 62 (gs0 l)) :: X2_) _:=qk
  have hr9:=qk.get 0 rfl
  refine qe rfl (zi (args:=[.pointer (some ⟨b5,0,none⟩),vI 2]) rfl (by simp only [List.map_cons,List.map_nil,List.nil_append,List.cons_append,List.append_nil,ev,Value.cells,hu1]) rfl en30 (some_r b5 2 a l (gs0 l) _ (hr9) (by omega) (by omega)) ?_)
  rintro _ w18 ⟨a16,c17,rfl,hr20,hz21,hn22,hk23⟩
  have hs19:=qk.mutN 0 rfl hk23 (rdrI a l b5 62 (gs1 l)) hr20 (fun _ h=>h) (resI 5 a l (gs0 l).off 2 a16 c17) hz21 hn22
  refine ⟨.slice a16 2 c17,rfl,⟨_,_,rfl⟩,?_⟩
  show St _ _ _ ((resI 5 a l (gs0 l).off 2 (zf ((upd f2_ 21 (.slice a16 2 c17)) 21)) (vcap ((upd f2_ 21 (.slice a16 2 c17)) 21))) :: (rdrI a l b5 62 (gs1 l)) :: X2_) _
  exact hs19
 ·intro f3_ w3_ X3_ qp qo qu qk
  obtain ⟨hu2,-⟩:=qo
  obtain ⟨a16,c17,hu2⟩:=(show ∃ a16 : Option Addr,∃ c17 : Nat,f3_ 21 = .slice a16 2 c17 from hu2)
  obtain ⟨hr2,-⟩:=qu
  have hr2 : Item.φ (resI 5 a l (gs0 l).off 2 (zf (f3_ 21)) (vcap (f3_ 21))) w3_:=hr2
  rw [hu2] at hr2; simp only [vblk,zf,vcap,z3] at hr2
  refine qe rfl (O_bytes_str (enc:=encB) (l:=xj l) (fun _=>rfl) hu2 (res_arr (hr2) (qk.getR 0 rfl)) (xg _ _ _).symm un27 un5 un9 rfl ?_)
  exact ⟨.string ⟨(xj l).toArray⟩,rfl,rfl,qk⟩
 ·intro f4_ w4_ X4_ qp qo qu qk
  have hb4 : f4_ 4 = .pointer (some ⟨b9,0,none⟩):=(qp 4 rfl)
  obtain ⟨hr8,-⟩:=qu
  have hr8 : Item.φ (blk b9 [.pointer (some ⟨b5,0,none⟩)] 64) w4_:=hr8
  refine qe rfl (qw (vs:=[.pointer (some ⟨b5,0,none⟩)]) hb4 ag64 sz64 (Rd.of_blk (hr8) 0 1) rfl rfl ?_)
  exact ⟨.agg #[.pointer (some ⟨b5,0,none⟩)],rfl,rfl,qk⟩
 ·intro f5_ w5_ X5_ qp qo qu qk
  obtain ⟨hu4,-⟩:=qo
  have hu4 : f5_ 23 = .agg #[.pointer (some ⟨b5,0,none⟩)]:=hu4
  have qk : St _ _ _ ((rdrI a l b5 62 (gs1 l)) :: X5_) _:=qk
  have hr13:=qk.get 0 rfl
  refine qe rfl (zi (args:=[.agg #[.pointer (some ⟨b5,0,none⟩)]]) rfl (by simp only [List.map_cons,List.map_nil,List.nil_append,List.cons_append,List.append_nil,ev,Value.cells,hu4]) rfl en31 (one_c b5 a l (gs1 l) _ (hr13) (qk.getR 0 rfl) (fun b hb e=>qk.rsep _ (List.mem_of_getElem? (i:=0) rfl) _ (List.mem_of_getElem? (i:=0) rfl) b hb e) (by omega)) ?_)
  rintro _ w25 ⟨⟨rfl,hr27⟩,hk28⟩
  have hs26:=qk.mut 0 rfl hk28 (rdrI a l b5 62 (gs2 l)) hr27 (fun _ h=>.inl h)
  refine ⟨vI (zm l),rfl,rfl,?_⟩
  show St _ _ _ ((rdrI a l b5 62 (gs2 l)) :: X5_) _
  exact hs26
 ·intro f6_ w6_ X6_ qp qo qu qk
  obtain ⟨hu3,-⟩:=qo
  have hu3 : f6_ 22 = .string ⟨(xj l).toArray⟩:=hu3
  refine qe rfl (qf (v:=.string ⟨(xj l).toArray⟩) hu3 rfl ?_)
  exact ⟨.string ⟨(xj l).toArray⟩,rfl,rfl,qk⟩
 ·intro f7_ w7_ X7_ qp qo qu qk
  obtain ⟨hu5,-⟩:=qo
  have hu5 : f7_ 24 = vI (zm l):=hu5
  refine qe rfl (qf (v:=vI (zm l)) hu5 rfl ?_)
  exact ⟨vI (zm l),rfl,rfl,qk⟩
 intro f29 w30 qp qo hs31
 obtain ⟨hu2,hu6,hu7,-⟩:=qo
 obtain ⟨a16,c17,hu2⟩:=(show ∃ a16 : Option Addr,∃ c17 : Nat,f29 21 = .slice a16 2 c17 from hu2)
 have hu6 : f29 5 = .string ⟨(xj l).toArray⟩:=hu6
 have hu7 : f29 6 = vI (zm l):=hu7
 have hs31 : St _ _ _ [resI 5 a l (gs0 l).off 2 (zf (f29 21)) (vcap (f29 21)),blk b9 [.pointer (some ⟨b5,0,none⟩)] 64,rdrI a l b5 62 (gs2 l),blk b1 [.bool false,vI 0,vI 0,.slice none 0 0,.slice none 0 0,.slice none 0 0] 26] _:=hs31
 simp only [hu2,vblk,zf,vcap,z3] at hs31
 have hs31 : St _ _ _ [resI 5 a l (gs0 l).off 2 a16 c17,blk b9 [.pointer (some ⟨b5,0,none⟩)] 64,rdrI a l b5 62 (gs2 l),blk b1 [.bool false,vI 0,vI 0,.slice none 0 0,.slice none 0 0,.slice none 0 0] 26] _:=hs31
 have e32 : f29 2 = .pointer (some ⟨b1,0,none⟩):=(qp 2 rfl)
 rewrite [qm e32]
 have e33 : f29 4 = .pointer (some ⟨b9,0,none⟩):=(qp 4 rfl)
 rewrite [qm e33]
 rewrite [qm hu6]
 rewrite [qm hu7]
 refine qb (qi ?_)
 refine jc js (show St _ _ _ [resI 5 a l (gs0 l).off 2 a16 c17,blk b9 [.pointer (some ⟨b5,0,none⟩)] 64,rdrI a l b5 62 (gs2 l),blk b1 [.bool false,vI 0,vI 0,.slice none 0 0,.slice none 0 0,.slice none 0 0] 26] _ from hs31) (fun i_=>match i_ with|3=>some ([],fun _=>rdrI a l b5 62 (gs3 l))|5=>some ([],fun _=>rdrI a l b5 62 (gs4 l))|7=>some ([7],fun vs_=>match vs_ with|[x7]=>blk (vblk x7) [.bool false,vI 0,vI 0,.slice none 0 0,.slice none 0 0,.slice none 0 0] 26|_=>emp)|8=>some ([7],fun vs_=>match vs_ with|[x7]=>blk (vblk x7) [.bool (decide ((zm l) = 1)),vI (kp l),vI (kq l),.slice none 0 0,.slice none 0 0,.slice none 0 0] 26|_=>emp)|_=>none) (fun i_=>match i_ with|3=>[11]|5=>[3]|8=>[7]|_=>[]) (fun i_=>match i_ with|2=>[10]|4=>[10]|_=>[]) (fun i_=>match i_ with|1=>[0]|3=>[2]|5=>[4]|6=>[1,3,5]|8=>[7,6]|_=>[]) [8,9,10,5,12,0,1,2,4,6,13,14,15,16,17,18,19,20,21] [7] (fun i_ v_=>match i_ with|0=>v_ = vI (zm l)|1=>v_ = .bool (decide ((zm l) = 1))|2=>v_ = .agg #[.pointer (some ⟨b5,0,none⟩)]|3=>v_ = vI (kp l)|4=>v_ = .agg #[.pointer (some ⟨b5,0,none⟩)]|5=>v_ = vI (kq l)|6=>v_ = .agg #[.bool (decide ((zm l) = 1)),vI (kp l),vI (kq l),.slice none 0 0,.slice none 0 0,.slice none 0 0]|7=>∃ b42 : Nat,v_ = .pointer (some ⟨b42,0,none⟩)|_=>True) (by kernel_rfl) (by kernel_rfl) ⟨?_,?_,?_,?_,?_,?_,?_,?_,?_,trivial⟩ ?_
 ·intro f0_ w0_ X0_ qp qo qu qk
  have hb6 : f0_ 6 = vI (zm l):=(qp 6 rfl)
  refine qe rfl (qj (v:=vI (zm l)) hb6 rfl ?_)
  exact ⟨vI (zm l),rfl,rfl,qk⟩
 ·intro f1_ w1_ X1_ qp qo qu qk
  obtain ⟨hu0,-⟩:=qo
  have hu0 : f1_ 25 = vI (zm l):=hu0
  refine qe rfl (qt (k:=.i64) (k':=.i64) (a:=(zm l)) (b:=1) hu0 rfl rfl k8 ?_)
  exact ⟨.bool (decide ((zm l) = 1)),rfl,rfl,qk⟩
 ·intro f2_ w2_ X2_ qp qo qu qk
  have hb4 : f2_ 4 = .pointer (some ⟨b9,0,none⟩):=(qp 4 rfl)
  obtain ⟨hr10,-⟩:=qu
  have hr10 : Item.φ (blk b9 [.pointer (some ⟨b5,0,none⟩)] 64) w2_:=hr10
  refine qe rfl (qw (vs:=[.pointer (some ⟨b5,0,none⟩)]) hb4 ag64 sz64 (Rd.of_blk (hr10) 0 1) rfl rfl ?_)
  exact ⟨.agg #[.pointer (some ⟨b5,0,none⟩)],rfl,rfl,qk⟩
 ·intro f3_ w3_ X3_ qp qo qu qk
  obtain ⟨hu2,-⟩:=qo
  have hu2 : f3_ 27 = .agg #[.pointer (some ⟨b5,0,none⟩)]:=hu2
  have qk : St _ _ _ ((rdrI a l b5 62 (gs2 l)) :: X3_) _:=qk
  have hr11:=qk.get 0 rfl
  refine qe rfl (zi (args:=[.agg #[.pointer (some ⟨b5,0,none⟩)]]) rfl (by simp only [List.map_cons,List.map_nil,List.nil_append,List.cons_append,List.append_nil,ev,Value.cells,hu2]) rfl en31 (one_c b5 a l (gs2 l) _ (hr11) (qk.getR 0 rfl) (fun b hb e=>qk.rsep _ (List.mem_of_getElem? (i:=0) rfl) _ (List.mem_of_getElem? (i:=0) rfl) b hb e) (by omega)) ?_)
  rintro _ w34 ⟨⟨rfl,hr36⟩,hk37⟩
  have hs35:=qk.mut 0 rfl hk37 (rdrI a l b5 62 (gs3 l)) hr36 (fun _ h=>.inl h)
  refine ⟨vI (kp l),rfl,rfl,?_⟩
  show St _ _ _ ((rdrI a l b5 62 (gs3 l)) :: X3_) _
  exact hs35
 ·intro f4_ w4_ X4_ qp qo qu qk
  have hb4 : f4_ 4 = .pointer (some ⟨b9,0,none⟩):=(qp 4 rfl)
  obtain ⟨hr10,-⟩:=qu
  have hr10 : Item.φ (blk b9 [.pointer (some ⟨b5,0,none⟩)] 64) w4_:=hr10
  refine qe rfl (qw (vs:=[.pointer (some ⟨b5,0,none⟩)]) hb4 ag64 sz64 (Rd.of_blk (hr10) 0 1) rfl rfl ?_)
  exact ⟨.agg #[.pointer (some ⟨b5,0,none⟩)],rfl,rfl,qk⟩
 ·intro f5_ w5_ X5_ qp qo qu qk
  obtain ⟨hu4,-⟩:=qo
  have hu4 : f5_ 29 = .agg #[.pointer (some ⟨b5,0,none⟩)]:=hu4
  have qk : St _ _ _ ((rdrI a l b5 62 (gs3 l)) :: X5_) _:=qk
  have hr3:=qk.get 0 rfl
  refine qe rfl (zi (args:=[.agg #[.pointer (some ⟨b5,0,none⟩)]]) rfl (by simp only [List.map_cons,List.map_nil,List.nil_append,List.cons_append,List.append_nil,ev,Value.cells,hu4]) rfl en32 (rtwo_c b5 a l (gs3 l) _ (hr3) (qk.getR 0 rfl) (fun b hb e=>qk.rsep _ (List.mem_of_getElem? (i:=0) rfl) _ (List.mem_of_getElem? (i:=0) rfl) b hb e) (by omega)) ?_)
  rintro _ w38 ⟨⟨rfl,hr40⟩,hk41⟩
  have hs39:=qk.mut 0 rfl hk41 (rdrI a l b5 62 (gs4 l)) hr40 (fun _ h=>.inl h)
  refine ⟨vI (kq l),rfl,rfl,?_⟩
  show St _ _ _ ((rdrI a l b5 62 (gs4 l)) :: X5_) _
  exact hs39
 ·intro f6_ w6_ X6_ qp qo qu qk
  obtain ⟨hu1,hu3,hu5,-⟩:=qo
  have hu1 : f6_ 26 = .bool (decide ((zm l) = 1)):=hu1
  have hu3 : f6_ 28 = vI (kp l):=hu3
  have hu5 : f6_ 30 = vI (kq l):=hu5
  refine qe rfl (jl (ps:=[(0,[.bool (decide ((zm l) = 1))]),(1,[vI (kp l)]),(2,[vI (kq l)])]) (cells:=[.bool (decide ((zm l) = 1)),vI (kp l),vI (kq l),.slice none 0 0,.slice none 0 0,.slice none 0 0]) bt26 (by simp only [List.map_cons,List.map_nil,List.nil_append,List.cons_append,List.append_nil,ev,Value.cells,hu1,hu3,hu5]) rfl rfl ?_)
  exact ⟨.agg #[.bool (decide ((zm l) = 1)),vI (kp l),vI (kq l),.slice none 0 0,.slice none 0 0,.slice none 0 0],rfl,rfl,qk⟩
 ·intro f7_ w7_ X7_ qp qo qu qk
  refine qe rfl (kk (cs:=[.bool false,vI 0,vI 0,.slice none 0 0,.slice none 0 0,.slice none 0 0]) qk zv26 rfl rfl ?_)
  intro b42 w43 hb45 hs44
  refine ⟨.pointer (some ⟨b42,0,none⟩),rfl,⟨_,rfl⟩,?_⟩
  show St _ _ _ ((blk (vblk ((upd f7_ 7 (.pointer (some ⟨b42,0,none⟩))) 7)) [.bool false,vI 0,vI 0,.slice none 0 0,.slice none 0 0,.slice none 0 0] 26) :: X7_) _
  exact hs44
 ·intro f8_ w8_ X8_ qp qo qu qk
  obtain ⟨hu7,hu6,-⟩:=qo
  obtain ⟨b42,hu7⟩:=(show ∃ b42 : Nat,f8_ 7 = .pointer (some ⟨b42,0,none⟩) from hu7)
  have hu6 : f8_ 31 = .agg #[.bool (decide ((zm l) = 1)),vI (kp l),vI (kq l),.slice none 0 0,.slice none 0 0,.slice none 0 0]:=hu6
  have qk : St _ _ _ ((blk (vblk (f8_ 7)) [.bool false,vI 0,vI 0,.slice none 0 0,.slice none 0 0,.slice none 0 0] 26) :: X8_) _:=qk
  rw [hu7] at qk; simp only [vblk,zf,vcap,z3] at qk
  refine qe rfl (zx (v:=.agg #[.bool (decide ((zm l) = 1)),vI (kp l),vI (kq l),.slice none 0 0,.slice none 0 0,.slice none 0 0]) (vs:=[.bool (decide ((zm l) = 1)),vI (kp l),vI (kq l),.slice none 0 0,.slice none 0 0,.slice none 0 0]) (cs':=[.bool (decide ((zm l) = 1)),vI (kp l),vI (kq l),.slice none 0 0,.slice none 0 0,.slice none 0 0]) qk 0 rfl hu7 hu6 sz26 rfl rfl rfl rfl rfl ?_)
  intro w46 hs47
  refine ⟨undef,rfl,trivial,?_⟩
  show St _ _ _ ((blk (vblk (f8_ 7)) [.bool (decide ((zm l) = 1)),vI (kp l),vI (kq l),.slice none 0 0,.slice none 0 0,.slice none 0 0] 26) :: X8_) _
  rw [show (f8_) 7 = _ from hu7]
  exact hs47
 intro f48 w49 qp qo hs50
 obtain ⟨hu7,-⟩:=qo
 obtain ⟨b42,hu7⟩:=(show ∃ b42 : Nat,f48 7 = .pointer (some ⟨b42,0,none⟩) from hu7)
 have hs50 : St _ _ _ [blk (vblk (f48 7)) [.bool (decide ((zm l) = 1)),vI (kp l),vI (kq l),.slice none 0 0,.slice none 0 0,.slice none 0 0] 26,resI 5 a l (gs0 l).off 2 a16 c17,blk b9 [.pointer (some ⟨b5,0,none⟩)] 64,rdrI a l b5 62 (gs4 l),blk b1 [.bool false,vI 0,vI 0,.slice none 0 0,.slice none 0 0,.slice none 0 0] 26] _:=hs50
 simp only [hu7,vblk,zf,vcap,z3] at hs50
 have hs50 : St _ _ _ [blk b42 [.bool (decide ((zm l) = 1)),vI (kp l),vI (kq l),.slice none 0 0,.slice none 0 0,.slice none 0 0] 26,resI 5 a l (gs0 l).off 2 a16 c17,blk b9 [.pointer (some ⟨b5,0,none⟩)] 64,rdrI a l b5 62 (gs4 l),blk b1 [.bool false,vI 0,vI 0,.slice none 0 0,.slice none 0 0,.slice none 0 0] 26] _:=hs50
 have e51 : f48 2 = .pointer (some ⟨b1,0,none⟩):=(qp 2 rfl)
 rewrite [qm e51]
 have e52 : f48 4 = .pointer (some ⟨b9,0,none⟩):=(qp 4 rfl)
 rewrite [qm e52]
 have e53 : f48 5 = .string ⟨(xj l).toArray⟩:=(qp 5 rfl)
 rewrite [qm e53]
 have e54 : f48 6 = vI (zm l):=(qp 6 rfl)
 rewrite [qm e54]
 rewrite [qm hu7]
 refine qb (qi ?_)
 refine jc js (show St _ _ _ [blk b42 [.bool (decide ((zm l) = 1)),vI (kp l),vI (kq l),.slice none 0 0,.slice none 0 0,.slice none 0 0] 26,resI 5 a l (gs0 l).off 2 a16 c17,blk b9 [.pointer (some ⟨b5,0,none⟩)] 64,rdrI a l b5 62 (gs4 l),blk b1 [.bool false,vI 0,vI 0,.slice none 0 0,.slice none 0 0,.slice none 0 0] 26] _ from hs50) (fun i_=>match i_ with|1=>some ([],fun _=>rdrI a l b5 62 (gs5 l))|3=>some ([],fun _=>rdrI a l b5 62 (gs6 l))|5=>some ([],fun _=>rdrI a l b5 62 (gs7 l))|_=>none) (fun i_=>match i_ with|1=>[12]|3=>[1]|5=>[3]|_=>[]) (fun i_=>match i_ with|0=>[11]|2=>[11]|4=>[11]|_=>[]) (fun i_=>match i_ with|1=>[0]|3=>[2]|5=>[4]|6=>[1]|7=>[3]|8=>[5]|_=>[]) [9,10,11,5,13,0,2,4,6,7,8,14,15,16,17,18,19,20,21,22] [6,7,8] (fun i_ v_=>match i_ with|0=>v_ = .agg #[.pointer (some ⟨b5,0,none⟩)]|1=>v_ = vI ((gC l : Nat) : Int)|2=>v_ = .agg #[.pointer (some ⟨b5,0,none⟩)]|3=>v_ = vI ((gL l : Nat) : Int)|4=>v_ = .agg #[.pointer (some ⟨b5,0,none⟩)]|5=>v_ = vI ((gS l : Nat) : Int)|6=>v_ = vI ((gC l : Nat) : Int)|7=>v_ = vI ((gL l : Nat) : Int)|8=>v_ = vI ((gS l : Nat) : Int)|_=>True) (by kernel_rfl) (by kernel_rfl) ⟨?_,?_,?_,?_,?_,?_,?_,?_,?_,trivial⟩ ?_
 ·intro f0_ w0_ X0_ qp qo qu qk
  have hb4 : f0_ 4 = .pointer (some ⟨b9,0,none⟩):=(qp 4 rfl)
  obtain ⟨hr11,-⟩:=qu
  have hr11 : Item.φ (blk b9 [.pointer (some ⟨b5,0,none⟩)] 64) w0_:=hr11
  refine qe rfl (qw (vs:=[.pointer (some ⟨b5,0,none⟩)]) hb4 ag64 sz64 (Rd.of_blk (hr11) 0 1) rfl rfl ?_)
  exact ⟨.agg #[.pointer (some ⟨b5,0,none⟩)],rfl,rfl,qk⟩
 ·intro f1_ w1_ X1_ qp qo qu qk
  obtain ⟨hu0,-⟩:=qo
  have hu0 : f1_ 32 = .agg #[.pointer (some ⟨b5,0,none⟩)]:=hu0
  have qk : St _ _ _ ((rdrI a l b5 62 (gs4 l)) :: X1_) _:=qk
  have hr12:=qk.get 0 rfl
  refine qe rfl (zi (args:=[.agg #[.pointer (some ⟨b5,0,none⟩)]]) rfl (by simp only [List.map_cons,List.map_nil,List.nil_append,List.cons_append,List.append_nil,ev,Value.cells,hu0]) rfl en31 (C.ie (one_c b5 a l (gs4 l) _ (hr12) (qk.getR 0 rfl) (fun b hb e=>qk.rsep _ (List.mem_of_getElem? (i:=0) rfl) _ (List.mem_of_getElem? (i:=0) rfl) b hb e) (by omega)) (gC_int l)) ?_)
  rintro _ w55 ⟨⟨rfl,hr57⟩,hk58⟩
  have hs56:=qk.mut 0 rfl hk58 (rdrI a l b5 62 (gs5 l)) hr57 (fun _ h=>.inl h)
  refine ⟨vI ((gC l : Nat) : Int),rfl,rfl,?_⟩
  show St _ _ _ ((rdrI a l b5 62 (gs5 l)) :: X1_) _
  exact hs56
 ·intro f2_ w2_ X2_ qp qo qu qk
  have hb4 : f2_ 4 = .pointer (some ⟨b9,0,none⟩):=(qp 4 rfl)
  obtain ⟨hr11,-⟩:=qu
  have hr11 : Item.φ (blk b9 [.pointer (some ⟨b5,0,none⟩)] 64) w2_:=hr11
  refine qe rfl (qw (vs:=[.pointer (some ⟨b5,0,none⟩)]) hb4 ag64 sz64 (Rd.of_blk (hr11) 0 1) rfl rfl ?_)
  exact ⟨.agg #[.pointer (some ⟨b5,0,none⟩)],rfl,rfl,qk⟩
 ·intro f3_ w3_ X3_ qp qo qu qk
  obtain ⟨hu2,-⟩:=qo
  have hu2 : f3_ 34 = .agg #[.pointer (some ⟨b5,0,none⟩)]:=hu2
  have qk : St _ _ _ ((rdrI a l b5 62 (gs5 l)) :: X3_) _:=qk
  have hr1:=qk.get 0 rfl
  refine qe rfl (zi (args:=[.agg #[.pointer (some ⟨b5,0,none⟩)]]) rfl (by simp only [List.map_cons,List.map_nil,List.nil_append,List.cons_append,List.append_nil,ev,Value.cells,hu2]) rfl en31 (C.ie (one_c b5 a l (gs5 l) _ (hr1) (qk.getR 0 rfl) (fun b hb e=>qk.rsep _ (List.mem_of_getElem? (i:=0) rfl) _ (List.mem_of_getElem? (i:=0) rfl) b hb e) (by omega)) (gL_int l)) ?_)
  rintro _ w59 ⟨⟨rfl,hr61⟩,hk62⟩
  have hs60:=qk.mut 0 rfl hk62 (rdrI a l b5 62 (gs6 l)) hr61 (fun _ h=>.inl h)
  refine ⟨vI ((gL l : Nat) : Int),rfl,rfl,?_⟩
  show St _ _ _ ((rdrI a l b5 62 (gs6 l)) :: X3_) _
  exact hs60
 ·intro f4_ w4_ X4_ qp qo qu qk
  have hb4 : f4_ 4 = .pointer (some ⟨b9,0,none⟩):=(qp 4 rfl)
  obtain ⟨hr11,-⟩:=qu
  have hr11 : Item.φ (blk b9 [.pointer (some ⟨b5,0,none⟩)] 64) w4_:=hr11
  refine qe rfl (qw (vs:=[.pointer (some ⟨b5,0,none⟩)]) hb4 ag64 sz64 (Rd.of_blk (hr11) 0 1) rfl rfl ?_)
  exact ⟨.agg #[.pointer (some ⟨b5,0,none⟩)],rfl,rfl,qk⟩
 ·intro f5_ w5_ X5_ qp qo qu qk
  obtain ⟨hu4,-⟩:=qo
  have hu4 : f5_ 36 = .agg #[.pointer (some ⟨b5,0,none⟩)]:=hu4
  have qk : St _ _ _ ((rdrI a l b5 62 (gs6 l)) :: X5_) _:=qk
  have hr3:=qk.get 0 rfl
  refine qe rfl (zi (args:=[.agg #[.pointer (some ⟨b5,0,none⟩)]]) rfl (by simp only [List.map_cons,List.map_nil,List.nil_append,List.cons_append,List.append_nil,ev,Value.cells,hu4]) rfl en31 (C.ie (one_c b5 a l (gs6 l) _ (hr3) (qk.getR 0 rfl) (fun b hb e=>qk.rsep _ (List.mem_of_getElem? (i:=0) rfl) _ (List.mem_of_getElem? (i:=0) rfl) b hb e) (by omega)) (gS_int l)) ?_)
  rintro _ w63 ⟨⟨rfl,hr65⟩,hk66⟩
  have hs64:=qk.mut 0 rfl hk66 (rdrI a l b5 62 (gs7 l)) hr65 (fun _ h=>.inl h)
  refine ⟨vI ((gS l : Nat) : Int),rfl,rfl,?_⟩
  show St _ _ _ ((rdrI a l b5 62 (gs7 l)) :: X5_) _
  exact hs64
 ·intro f6_ w6_ X6_ qp qo qu qk
  obtain ⟨hu1,-⟩:=qo
  have hu1 : f6_ 33 = vI ((gC l : Nat) : Int):=hu1
  refine qe rfl (qf (v:=vI ((gC l : Nat) : Int)) hu1 rfl ?_)
  exact ⟨vI ((gC l : Nat) : Int),rfl,rfl,qk⟩
 ·intro f7_ w7_ X7_ qp qo qu qk
  obtain ⟨hu3,-⟩:=qo
  have hu3 : f7_ 35 = vI ((gL l : Nat) : Int):=hu3
  refine qe rfl (qf (v:=vI ((gL l : Nat) : Int)) hu3 rfl ?_)
  exact ⟨vI ((gL l : Nat) : Int),rfl,rfl,qk⟩
 ·intro f8_ w8_ X8_ qp qo qu qk
  obtain ⟨hu5,-⟩:=qo
  have hu5 : f8_ 37 = vI ((gS l : Nat) : Int):=hu5
  refine qe rfl (qf (v:=vI ((gS l : Nat) : Int)) hu5 rfl ?_)
  exact ⟨vI ((gS l : Nat) : Int),rfl,rfl,qk⟩
 intro f67 w68 qp qo hs69
 obtain ⟨hu6,hu7,hu8,-⟩:=qo
 have hu6 : f67 8 = vI ((gC l : Nat) : Int):=hu6
 have hu7 : f67 9 = vI ((gL l : Nat) : Int):=hu7
 have hu8 : f67 10 = vI ((gS l : Nat) : Int):=hu8
 have hs69 : St _ _ _ [blk b42 [.bool (decide ((zm l) = 1)),vI (kp l),vI (kq l),.slice none 0 0,.slice none 0 0,.slice none 0 0] 26,resI 5 a l (gs0 l).off 2 a16 c17,blk b9 [.pointer (some ⟨b5,0,none⟩)] 64,rdrI a l b5 62 (gs7 l),blk b1 [.bool false,vI 0,vI 0,.slice none 0 0,.slice none 0 0,.slice none 0 0] 26] _:=hs69
 have e70 : f67 2 = .pointer (some ⟨b1,0,none⟩):=(qp 2 rfl)
 rewrite [qm e70]
 have e71 : f67 4 = .pointer (some ⟨b9,0,none⟩):=(qp 4 rfl)
 rewrite [qm e71]
 have e72 : f67 5 = .string ⟨(xj l).toArray⟩:=(qp 5 rfl)
 rewrite [qm e72]
 have e73 : f67 6 = vI (zm l):=(qp 6 rfl)
 rewrite [qm e73]
 have e74 : f67 7 = .pointer (some ⟨b42,0,none⟩):=(qp 7 rfl)
 rewrite [qm e74]
 rewrite [qm hu6]
 rewrite [qm hu7]
 rewrite [qm hu8]
 refine qb (qi (qc ?_))
 refine qa rfl (qj (v:=vI ((gC l : Nat) : Int)) rfl rfl ?_)
 refine qa rfl (O_makeSlice hs69 rfl (rfl) rfl (rfl) un43 inf3 rfl (by omega) (by omega) (by simp only [maxLen]; omega) rfl ?_)
 intro b75 w76 hb78 hs77
 refine qa rfl (qf (v:=.slice (some ⟨b75,0,none⟩) (gC l) (gC l)) rfl rfl ?_)
 refine ql (qb (qi (qi ?_)))
 have hs79 : St w (fun _=>False) w76 [ownI 3 1 (some ⟨b75,0,none⟩) (gC l) (gC l) (List.replicate (gC l) (vI 0)),blk b42 [.bool (decide ((zm l) = 1)),vI (kp l),vI (kq l),.slice none 0 0,.slice none 0 0,.slice none 0 0] 26,blk b9 [.pointer (some ⟨b5,0,none⟩)] 64,rdrI a l b5 62 (gs7 l),blk b1 [.bool false,vI 0,vI 0,.slice none 0 0,.slice none 0 0,.slice none 0 0] 26] [arrI encB 1 a l]:=(hs77.sel [0,1,3,4,5] _ rfl (by decide))
 have hs80 : St w (fun _=>False) w76 [ownI 3 1 (some ⟨b75,0,none⟩) (gC l) (gC l) ((szs l 0).flatMap encI),blk b42 [.bool (decide ((zm l) = 1)),vI (kp l),vI (kq l),.slice none 0 0,.slice none 0 0,.slice none 0 0] 26,blk b9 [.pointer (some ⟨b5,0,none⟩)] 64,rdrI a l b5 62 (gs7 l),blk b1 [.bool false,vI 0,vI 0,.slice none 0 0,.slice none 0 0,.slice none 0 0] 26] [arrI encB 1 a l]:=by rw [← szs_0]; exact hs79
 refine qc ?_
 refine qa rfl (qj (v:=vI ((gC l : Nat) : Int)) rfl rfl ?_)
 refine qa rfl (qj (v:=vI 0) rfl rfl ?_)
 refine ql (qb (zy ?_))
 have hs81:=hs80.ownNil 53 2
 refine kw (fun m_ f_ w_=>∃ k : Nat,∃ a5 : Option Addr,∃ c5 : Nat,m_ = gC l - k ∧ (k ≤ gC l) ∧ f_ 2 = .pointer (some ⟨b1,0,none⟩) ∧ f_ 4 = .pointer (some ⟨b9,0,none⟩) ∧ f_ 5 = .string ⟨(xj l).toArray⟩ ∧ f_ 6 = vI (zm l) ∧ f_ 7 = .pointer (some ⟨b42,0,none⟩) ∧ f_ 9 = vI ((gL l : Nat) : Int) ∧ f_ 10 = vI ((gS l : Nat) : Int) ∧ f_ 11 = .slice (some ⟨b75,0,none⟩) (gC l) (gC l) ∧ f_ 40 = vI ((gC l : Nat) : Int) ∧ f_ 41 = vI ((k : Nat) : Int) ∧ St w (fun _=>False) w_ [ownI 53 2 a5 c5 k ((cmp l k).flatMap zu),ownI 3 1 (some ⟨b75,0,none⟩) (gC l) (gC l) ((szs l k).flatMap encI),blk b42 [.bool (decide ((zm l) = 1)),vI (kp l),vI (kq l),.slice a5 k c5,.slice none 0 0,.slice none 0 0] 26,blk b9 [.pointer (some ⟨b5,0,none⟩)] 64,rdrI a l b5 62 ((itC l (gs7 l) k).2),blk b1 [.bool false,vI 0,vI 0,.slice none 0 0,.slice none 0 0,.slice none 0 0] 26] [arrI encB 1 a l]) ?_ ?_
 ·exact ⟨_,0,none,0,rfl,by omega,rfl,rfl,rfl,rfl,rfl,rfl,rfl,rfl,rfl,rfl,hs81⟩
 ·intro m85 f82 w83; rintro ⟨k,a5,c5,rfl,hk1,e86,e87,e88,e89,e90,e91,e92,e93,e94,e95,hs84⟩
  rewrite [qm e86]
  rewrite [qm e87]
  rewrite [qm e88]
  rewrite [qm e89]
  rewrite [qm e90]
  rewrite [qm e91]
  rewrite [qm e92]
  rewrite [qm e93]
  rewrite [qm e94]
  rewrite [qm e95]
  refine qi (qc ?_)
  refine qa rfl (qt (k:=.i64) (k':=.i64) (a:=((k : Nat) : Int)) (b:=((gC l : Nat) : Int)) rfl rfl rfl jg ?_)
  refine ql (qb (qi ?_))
  refine zd rfl (fun hc96=>?_) (fun hc96=>?_)
  ·refine zn (qb (qi (zy (qi (qc ?_)))))
   refine qa rfl (qj (v:=vI ((k : Nat) : Int)) rfl rfl ?_)
   refine qa rfl (qf (v:=vI ((k : Nat) : Int)) rfl rfl ?_)
   refine ql (qb (qi (qc ?_)))
   refine qa rfl (qj (v:=.slice (some ⟨b75,0,none⟩) (gC l) (gC l)) rfl rfl ?_)
   refine qa rfl (qj (v:=vI ((k : Nat) : Int)) rfl rfl ?_)
   refine qa rfl (qw (vs:=[.pointer (some ⟨b5,0,none⟩)]) rfl ag64 sz64 (Rd.of_blk (hs84.get 3 rfl) 0 1) rfl rfl ?_)
   refine qa rfl (zi (args:=[.agg #[.pointer (some ⟨b5,0,none⟩)]]) rfl rfl rfl en32 (rtwo_c b5 a l ((itC l (gs7 l) k).2) _ (hs84.get 4 rfl) (hs84.getR 0 rfl) (fun b hb e=>hs84.rsep _ (List.mem_of_getElem? (i:=0) rfl) _ (List.mem_of_getElem? (i:=4) rfl) b hb e) (by omega)) ?_)
   rintro _ w97 ⟨⟨rfl,hr99⟩,hk100⟩
   have hs98:=hs84.mut 4 rfl hk100 (rdrI a l b5 62 (zv l (itC l (gs7 l) k).2 2)) hr99 (fun _ h=>.inl h)
   refine qa rfl (O_indexAddr rfl rfl un43 sz3 (by omega) (by omega) (o':=0 + k * 1) (by first|rfl|omega) rfl ?_)
   refine qa rfl (O_storeOwn (v:=vI (twoV l (itC l (gs7 l) k).2)) (vs:=[vI (twoV l (itC l (gs7 l) k).2)]) (xs':=(szs l (k + 1)).flatMap encI) hs98 1 rfl rfl rfl sz3 rfl rfl rfl (by decide) (by omega) ((by rw [Nat.zero_add]; exact (splice_flatMap (m:=1) (fun _=>rfl) (szs l k) k 0 _ (twoV l (itC l (gs7 l) k).2) (by rw [szs_len (by omega)]; omega) rfl (by simp)).trans (by rw [szs_succ (by omega)]))) ?_)
   intro w101 hs102
   refine ql (qb ?_)
   refine jc js (show St _ _ _ [ownI 53 2 a5 c5 k ((cmp l k).flatMap zu),ownI 3 1 (some ⟨b75,0,none⟩) (gC l) (gC l) ((szs l (k + 1)).flatMap encI),blk b42 [.bool (decide ((zm l) = 1)),vI (kp l),vI (kq l),.slice a5 k c5,.slice none 0 0,.slice none 0 0] 26,blk b9 [.pointer (some ⟨b5,0,none⟩)] 64,rdrI a l b5 62 (zv l (itC l (gs7 l) k).2 2),blk b1 [.bool false,vI 0,vI 0,.slice none 0 0,.slice none 0 0,.slice none 0 0] 26] _ from hs102) (fun i_=>match i_ with|3=>some ([],fun _=>rdrI a l b5 62 ((itC l (gs7 l) (k + 1)).2))|5=>some ([54],fun vs_=>match vs_ with|[x54]=>blk (vblk x54) [.slice none 0 0,vI (oneV l (zv l (itC l (gs7 l) k).2 2))] 53|_=>emp)|6=>some ([55],fun vs_=>match vs_ with|[x55]=>ownI 53 2 (zf x55) (vcap x55) (k + 1) ((cmp l (k + 1)).flatMap zu)|_=>emp)|8=>some ([55],fun vs_=>match vs_ with|[x55]=>blk b42 [.bool (decide ((zm l) = 1)),vI (kp l),vI (kq l),.slice (zf x55) (k + 1) (vcap x55),.slice none 0 0,.slice none 0 0] 26|_=>emp)|_=>none) (fun i_=>match i_ with|3=>[13]|6=>[9]|8=>[11]|_=>[]) (fun i_=>match i_ with|1=>[11]|2=>[12]|6=>[5]|_=>[]) (fun i_=>match i_ with|1=>[0]|3=>[2]|4=>[3]|5=>[4]|6=>[1,5]|8=>[7,6]|_=>[]) [5,6,10,8,12,3,14,0,1,2,4,7,15,16,17,18,19,20,21,22,23] [5,6] (fun i_ v_=>match i_ with|0=>v_ = .pointer (some ⟨b42,3,none⟩)|1=>v_ = .slice a5 k c5|2=>v_ = .agg #[.pointer (some ⟨b5,0,none⟩)]|3=>v_ = vI (oneV l (zv l (itC l (gs7 l) k).2 2))|4=>v_ = .agg #[.slice none 0 0,vI (oneV l (zv l (itC l (gs7 l) k).2 2))]|5=>∃ b107 : Nat,v_ = .slice (some ⟨b107,0,none⟩) 1 1|6=>∃ a111 : Option Addr,∃ c112 : Nat,v_ = .slice a111 (k + 1) c112|7=>v_ = .pointer (some ⟨b42,3,none⟩)|_=>True) (by kernel_rfl) (by kernel_rfl) ⟨?_,?_,?_,?_,?_,?_,?_,?_,?_,trivial⟩ ?_
   ·intro f0_ w0_ X0_ qp qo qu qk
    have hb7 : f0_ 7 = .pointer (some ⟨b42,0,none⟩):=(qp 7 rfl)
    refine qe rfl (qg hb7 jq rfl (o':=3) rfl rfl ?_)
    exact ⟨.pointer (some ⟨b42,3,none⟩),rfl,rfl,qk⟩
   ·intro f1_ w1_ X1_ qp qo qu qk
    obtain ⟨hu0,-⟩:=qo
    have hu0 : f1_ 49 = .pointer (some ⟨b42,3,none⟩):=hu0
    obtain ⟨hr11,-⟩:=qu
    have hr11 : Item.φ (blk b42 [.bool (decide ((zm l) = 1)),vI (kp l),vI (kq l),.slice a5 k c5,.slice none 0 0,.slice none 0 0] 26) w1_:=hr11
    refine qe rfl (qq (v:=.slice a5 k c5) hu0 ag22 (qh (hr11) rfl) rfl ?_)
    exact ⟨.slice a5 k c5,rfl,rfl,qk⟩
   ·intro f2_ w2_ X2_ qp qo qu qk
    have hb4 : f2_ 4 = .pointer (some ⟨b9,0,none⟩):=(qp 4 rfl)
    obtain ⟨hr12,-⟩:=qu
    have hr12 : Item.φ (blk b9 [.pointer (some ⟨b5,0,none⟩)] 64) w2_:=hr12
    refine qe rfl (qw (vs:=[.pointer (some ⟨b5,0,none⟩)]) hb4 ag64 sz64 (Rd.of_blk (hr12) 0 1) rfl rfl ?_)
    exact ⟨.agg #[.pointer (some ⟨b5,0,none⟩)],rfl,rfl,qk⟩
   ·intro f3_ w3_ X3_ qp qo qu qk
    obtain ⟨hu2,-⟩:=qo
    have hu2 : f3_ 51 = .agg #[.pointer (some ⟨b5,0,none⟩)]:=hu2
    have qk : St _ _ _ ((rdrI a l b5 62 (zv l (itC l (gs7 l) k).2 2)) :: X3_) _:=qk
    have hr13:=qk.get 0 rfl
    refine qe rfl (zi (args:=[.agg #[.pointer (some ⟨b5,0,none⟩)]]) rfl (by simp only [List.map_cons,List.map_nil,List.nil_append,List.cons_append,List.append_nil,ev,Value.cells,hu2]) rfl en31 (one_c b5 a l (zv l (itC l (gs7 l) k).2 2) _ (hr13) (qk.getR 0 rfl) (fun b hb e=>qk.rsep _ (List.mem_of_getElem? (i:=0) rfl) _ (List.mem_of_getElem? (i:=0) rfl) b hb e) (by omega)) ?_)
    rintro _ w103 ⟨⟨rfl,hr105⟩,hk106⟩
    have hs104:=qk.mut 0 rfl hk106 (rdrI a l b5 62 ((itC l (gs7 l) (k + 1)).2)) hr105 (fun _ h=>.inl h)
    refine ⟨vI (oneV l (zv l (itC l (gs7 l) k).2 2)),rfl,rfl,?_⟩
    show St _ _ _ ((rdrI a l b5 62 ((itC l (gs7 l) (k + 1)).2)) :: X3_) _
    exact hs104
   ·intro f4_ w4_ X4_ qp qo qu qk
    obtain ⟨hu3,-⟩:=qo
    have hu3 : f4_ 52 = vI (oneV l (zv l (itC l (gs7 l) k).2 2)):=hu3
    refine qe rfl (jl (ps:=[(1,[vI (oneV l (zv l (itC l (gs7 l) k).2 2))])]) (cells:=[.slice none 0 0,vI (oneV l (zv l (itC l (gs7 l) k).2 2))]) bt53 (by simp only [List.map_cons,List.map_nil,List.nil_append,List.cons_append,List.append_nil,ev,Value.cells,hu3]) rfl rfl ?_)
    exact ⟨.agg #[.slice none 0 0,vI (oneV l (zv l (itC l (gs7 l) k).2 2))],rfl,rfl,qk⟩
   ·intro f5_ w5_ X5_ qp qo qu qk
    obtain ⟨hu4,-⟩:=qo
    have hu4 : f5_ 53 = .agg #[.slice none 0 0,vI (oneV l (zv l (itC l (gs7 l) k).2 2))]:=hu4
    refine qe rfl (zz (zs:=[.slice none 0 0,vI 0]) (ps:=[(0,[.slice none 0 0,vI (oneV l (zv l (itC l (gs7 l) k).2 2))])]) (cs:=[.slice none 0 0,vI (oneV l (zv l (itC l (gs7 l) k).2 2))]) qk un22 sz53 zv53 rfl rfl (by simp only [List.map_cons,List.map_nil,List.nil_append,List.cons_append,List.append_nil,ev,Value.cells,hu4]) rfl rfl ?_)
    intro b107 w108 hb110 hs109
    refine ⟨.slice (some ⟨b107,0,none⟩) 1 1,rfl,⟨_,rfl⟩,?_⟩
    show St _ _ _ ((blk (vblk ((upd f5_ 54 (.slice (some ⟨b107,0,none⟩) 1 1)) 54)) [.slice none 0 0,vI (oneV l (zv l (itC l (gs7 l) k).2 2))] 53) :: X5_) _
    exact hs109
   ·intro f6_ w6_ X6_ qp qo qu qk
    obtain ⟨hu1,hu5,-⟩:=qo
    have hu1 : f6_ 50 = .slice a5 k c5:=hu1
    obtain ⟨b107,hu5⟩:=(show ∃ b107 : Nat,f6_ 54 = .slice (some ⟨b107,0,none⟩) 1 1 from hu5)
    have qk : St _ _ _ ((ownI 53 2 a5 c5 k ((cmp l k).flatMap zu)) :: X6_) _:=qk
    obtain ⟨hr5,-⟩:=qu
    have hr5 : Item.φ (blk (vblk (f6_ 54)) [.slice none 0 0,vI (oneV l (zv l (itC l (gs7 l) k).2 2))] 53) w6_:=hr5
    rw [hu5] at hr5; simp only [vblk,zf,vcap,z3] at hr5
    refine qe rfl (k7 (n2:=k + 1) (xs2:=(cmp l (k + 1)).flatMap zu) qk 0 rfl hu1 hu5 un22 ni22 inf53 rfl (Src.rd (news:=[.slice none 0 0,vI (oneV l (zv l (itC l (gs7 l) k).2 2))]) (Rd.of_blk (hr5) 0 2) rfl rfl) (rfl) (by rw [cmp_succ,List.flatMap_append]; rfl) (by have:=gC_le l; omega) (by have:=gC_le l; omega) rfl ?_)
    intro a111 c112 w113 hs114
    refine ⟨.slice a111 (k + 1) c112,rfl,⟨_,_,rfl⟩,?_⟩
    show St _ _ _ ((ownI 53 2 (zf ((upd f6_ 55 (.slice a111 (k + 1) c112)) 55)) (vcap ((upd f6_ 55 (.slice a111 (k + 1) c112)) 55)) (k + 1) ((cmp l (k + 1)).flatMap zu)) :: X6_) _
    exact hs114
   ·intro f7_ w7_ X7_ qp qo qu qk
    have hb7 : f7_ 7 = .pointer (some ⟨b42,0,none⟩):=(qp 7 rfl)
    refine qe rfl (qg hb7 jq rfl (o':=3) rfl rfl ?_)
    exact ⟨.pointer (some ⟨b42,3,none⟩),rfl,rfl,qk⟩
   ·intro f8_ w8_ X8_ qp qo qu qk
    obtain ⟨hu7,hu6,-⟩:=qo
    have hu7 : f8_ 56 = .pointer (some ⟨b42,3,none⟩):=hu7
    obtain ⟨a111,c112,hu6⟩:=(show ∃ a111 : Option Addr,∃ c112 : Nat,f8_ 55 = .slice a111 (k + 1) c112 from hu6)
    have qk : St _ _ _ ((blk b42 [.bool (decide ((zm l) = 1)),vI (kp l),vI (kq l),.slice a5 k c5,.slice none 0 0,.slice none 0 0] 26) :: X8_) _:=qk
    refine qe rfl (zx (v:=.slice a111 (k + 1) c112) (vs:=[.slice a111 (k + 1) c112]) (cs':=[.bool (decide ((zm l) = 1)),vI (kp l),vI (kq l),.slice a111 (k + 1) c112,.slice none 0 0,.slice none 0 0]) qk 0 rfl hu7 hu6 sz22 rfl rfl rfl rfl rfl ?_)
    intro w115 hs116
    refine ⟨undef,rfl,trivial,?_⟩
    show St _ _ _ ((blk b42 [.bool (decide ((zm l) = 1)),vI (kp l),vI (kq l),.slice (zf (f8_ 55)) (k + 1) (vcap (f8_ 55)),.slice none 0 0,.slice none 0 0] 26) :: X8_) _
    rw [show (f8_) 55 = _ from hu6]
    exact hs116
   intro f117 w118 qp qo hs119
   obtain ⟨hu5,hu6,-⟩:=qo
   obtain ⟨b107,hu5⟩:=(show ∃ b107 : Nat,f117 54 = .slice (some ⟨b107,0,none⟩) 1 1 from hu5)
   obtain ⟨a111,c112,hu6⟩:=(show ∃ a111 : Option Addr,∃ c112 : Nat,f117 55 = .slice a111 (k + 1) c112 from hu6)
   have hs119 : St _ _ _ [blk (vblk (f117 54)) [.slice none 0 0,vI (oneV l (zv l (itC l (gs7 l) k).2 2))] 53,ownI 53 2 (zf (f117 55)) (vcap (f117 55)) (k + 1) ((cmp l (k + 1)).flatMap zu),ownI 3 1 (some ⟨b75,0,none⟩) (gC l) (gC l) ((szs l (k + 1)).flatMap encI),blk b42 [.bool (decide ((zm l) = 1)),vI (kp l),vI (kq l),.slice (zf (f117 55)) (k + 1) (vcap (f117 55)),.slice none 0 0,.slice none 0 0] 26,blk b9 [.pointer (some ⟨b5,0,none⟩)] 64,rdrI a l b5 62 ((itC l (gs7 l) (k + 1)).2),blk b1 [.bool false,vI 0,vI 0,.slice none 0 0,.slice none 0 0,.slice none 0 0] 26] _:=hs119
   simp only [hu5,hu6,vblk,zf,vcap,z3] at hs119
   have hs119 : St _ _ _ [blk b107 [.slice none 0 0,vI (oneV l (zv l (itC l (gs7 l) k).2 2))] 53,ownI 53 2 a111 c112 (k + 1) ((cmp l (k + 1)).flatMap zu),ownI 3 1 (some ⟨b75,0,none⟩) (gC l) (gC l) ((szs l (k + 1)).flatMap encI),blk b42 [.bool (decide ((zm l) = 1)),vI (kp l),vI (kq l),.slice a111 (k + 1) c112,.slice none 0 0,.slice none 0 0] 26,blk b9 [.pointer (some ⟨b5,0,none⟩)] 64,rdrI a l b5 62 ((itC l (gs7 l) (k + 1)).2),blk b1 [.bool false,vI 0,vI 0,.slice none 0 0,.slice none 0 0,.slice none 0 0] 26] _:=hs119
   have e120 : f117 2 = .pointer (some ⟨b1,0,none⟩):=(qp 2 rfl)
   rewrite [qm e120]
   have e121 : f117 4 = .pointer (some ⟨b9,0,none⟩):=(qp 4 rfl)
   rewrite [qm e121]
   have e122 : f117 5 = .string ⟨(xj l).toArray⟩:=(qp 5 rfl)
   rewrite [qm e122]
   have e123 : f117 6 = vI (zm l):=(qp 6 rfl)
   rewrite [qm e123]
   have e124 : f117 7 = .pointer (some ⟨b42,0,none⟩):=(qp 7 rfl)
   rewrite [qm e124]
   have e125 : f117 9 = vI ((gL l : Nat) : Int):=(qp 9 rfl)
   rewrite [qm e125]
   have e126 : f117 10 = vI ((gS l : Nat) : Int):=(qp 10 rfl)
   rewrite [qm e126]
   have e127 : f117 11 = .slice (some ⟨b75,0,none⟩) (gC l) (gC l):=(qp 11 rfl)
   rewrite [qm e127]
   have e128 : f117 40 = vI ((gC l : Nat) : Int):=(qp 40 rfl)
   rewrite [qm e128]
   have e129 : f117 41 = vI ((k : Nat) : Int):=(qp 41 rfl)
   rewrite [qm e129]
   refine z7 (qb (qc ?_))
   refine qa rfl (qt (v:=vI ((k + 1 : Nat) : Int)) rfl rfl rfl (ki (qz (by omega) (by omega))) ?_)
   refine qa rfl (qj (v:=vI ((k + 1 : Nat) : Int)) rfl rfl ?_)
   refine ql (qb ?_)
   refine ⟨_,?_,k + 1,a111,c112,rfl,by omega,rfl,rfl,rfl,rfl,rfl,rfl,rfl,rfl,rfl,rfl,hs119.popM⟩
   omega
  ·refine ja (z0 (z0 (ke (qb (qi (qi ?_))))))
   obtain rfl : k = gC l:=by omega
   have hs130 : St w (fun _=>False) w83 [ownI 53 2 a5 c5 (gC l) ((cmp l (gC l)).flatMap zu),ownI 3 1 (some ⟨b75,0,none⟩) (gC l) (gC l) ((gSz l).flatMap encI),blk b42 [.bool (decide ((zm l) = 1)),vI (kp l),vI (kq l),.slice a5 (gC l) c5,.slice none 0 0,.slice none 0 0] 26,blk b9 [.pointer (some ⟨b5,0,none⟩)] 64,rdrI a l b5 62 (gs8 l),blk b1 [.bool false,vI 0,vI 0,.slice none 0 0,.slice none 0 0,.slice none 0 0] 26] [arrI encB 1 a l]:=by rw [← szs_all]; exact hs84
   refine qc ?_
   refine qa rfl (qj (v:=vI ((gL l : Nat) : Int)) rfl rfl ?_)
   refine qa rfl (qj (v:=vI 0) rfl rfl ?_)
   refine ql (qb (zy ?_))
   have hs131:=hs130.ownNil 68 3
   refine kw (fun m_ f_ w_=>∃ k2 : Nat,∃ a6 : Option Addr,∃ c6 : Nat,m_ = gL l - k2 ∧ (k2 ≤ gL l) ∧ f_ 2 = .pointer (some ⟨b1,0,none⟩) ∧ f_ 4 = .pointer (some ⟨b9,0,none⟩) ∧ f_ 5 = .string ⟨(xj l).toArray⟩ ∧ f_ 6 = vI (zm l) ∧ f_ 7 = .pointer (some ⟨b42,0,none⟩) ∧ f_ 10 = vI ((gS l : Nat) : Int) ∧ f_ 11 = .slice (some ⟨b75,0,none⟩) (gC l) (gC l) ∧ f_ 58 = vI ((gL l : Nat) : Int) ∧ f_ 59 = vI ((k2 : Nat) : Int) ∧ St w (fun _=>False) w_ [ownI 68 3 a6 c6 k2 (((itL l (gs8 l) k2).1).flatMap z1),ownI 53 2 a5 c5 (gC l) ((cmp l (gC l)).flatMap zu),ownI 3 1 (some ⟨b75,0,none⟩) (gC l) (gC l) ((gSz l).flatMap encI),blk b42 [.bool (decide ((zm l) = 1)),vI (kp l),vI (kq l),.slice a5 (gC l) c5,.slice a6 k2 c6,.slice none 0 0] 26,blk b9 [.pointer (some ⟨b5,0,none⟩)] 64,rdrI a l b5 62 ((itL l (gs8 l) k2).2),blk b1 [.bool false,vI 0,vI 0,.slice none 0 0,.slice none 0 0,.slice none 0 0] 26] [arrI encB 1 a l]) ?_ ?_
   ·exact ⟨_,0,none,0,rfl,by omega,rfl,rfl,rfl,rfl,rfl,rfl,rfl,rfl,rfl,hs131⟩
   ·intro m135 f132 w133; rintro ⟨k2,a6,c6,rfl,hk2,e136,e137,e138,e139,e140,e141,e142,e143,e144,hs134⟩
    rewrite [qm e136]
    rewrite [qm e137]
    rewrite [qm e138]
    rewrite [qm e139]
    rewrite [qm e140]
    rewrite [qm e141]
    rewrite [qm e142]
    rewrite [qm e143]
    rewrite [qm e144]
    refine qi (qc ?_)
    refine qa rfl (qt (k:=.i64) (k':=.i64) (a:=((k2 : Nat) : Int)) (b:=((gL l : Nat) : Int)) rfl rfl rfl jg ?_)
    refine ql (qb (qi ?_))
    refine zd rfl (fun hc145=>?_) (fun hc145=>?_)
    ·refine zn (qb (qi (zy ?_)))
     refine jc js (show St _ _ _ [ownI 68 3 a6 c6 k2 (((itL l (gs8 l) k2).1).flatMap z1),ownI 53 2 a5 c5 (gC l) ((cmp l (gC l)).flatMap zu),ownI 3 1 (some ⟨b75,0,none⟩) (gC l) (gC l) ((gSz l).flatMap encI),blk b42 [.bool (decide ((zm l) = 1)),vI (kp l),vI (kq l),.slice a5 (gC l) c5,.slice a6 k2 c6,.slice none 0 0] 26,blk b9 [.pointer (some ⟨b5,0,none⟩)] 64,rdrI a l b5 62 ((itL l (gs8 l) k2).2),blk b1 [.bool false,vI 0,vI 0,.slice none 0 0,.slice none 0 0,.slice none 0 0] 26] _ from hs134) (fun i_=>match i_ with|3=>some ([],fun _=>rdrI a l b5 62 (zv l (itL l (gs8 l) k2).2 1))|5=>some ([],fun _=>rdrI a l b5 62 (zv l (zv l (itL l (gs8 l) k2).2 1) 1))|7=>some ([],fun _=>rdrI a l b5 62 ((itL l (gs8 l) (k2 + 1)).2))|9=>some ([70],fun vs_=>match vs_ with|[x70]=>blk (vblk x70) [vI (oneV l (itL l (gs8 l) k2).2),vI (oneV l (zv l (itL l (gs8 l) k2).2 1)),vI (twoV l (zv l (zv l (itL l (gs8 l) k2).2 1) 1))] 68|_=>emp)|10=>some ([71],fun vs_=>match vs_ with|[x71]=>ownI 68 3 (zf x71) (vcap x71) (k2 + 1) ((itL l (gs8 l) (k2 + 1)).1.flatMap z1)|_=>emp)|12=>some ([71],fun vs_=>match vs_ with|[x71]=>blk b42 [.bool (decide ((zm l) = 1)),vI (kp l),vI (kq l),.slice a5 (gC l) c5,.slice (zf x71) (k2 + 1) (vcap x71),.slice none 0 0] 26|_=>emp)|_=>none) (fun i_=>match i_ with|3=>[18]|5=>[3]|7=>[5]|10=>[13]|12=>[16]|_=>[]) (fun i_=>match i_ with|1=>[16]|2=>[17]|4=>[17]|6=>[17]|10=>[9]|_=>[]) (fun i_=>match i_ with|1=>[0]|3=>[2]|5=>[4]|7=>[6]|8=>[3,5,7]|9=>[8]|10=>[1,9]|12=>[11,10]|_=>[]) [9,10,14,15,12,17,7,19,0,1,2,4,6,8,11,20,21,22,23,24,25,26,27,28,29,30,31,32] [9,10] (fun i_ v_=>match i_ with|0=>v_ = .pointer (some ⟨b42,4,none⟩)|1=>v_ = .slice a6 k2 c6|2=>v_ = .agg #[.pointer (some ⟨b5,0,none⟩)]|3=>v_ = vI (oneV l (itL l (gs8 l) k2).2)|4=>v_ = .agg #[.pointer (some ⟨b5,0,none⟩)]|5=>v_ = vI (oneV l (zv l (itL l (gs8 l) k2).2 1))|6=>v_ = .agg #[.pointer (some ⟨b5,0,none⟩)]|7=>v_ = vI (twoV l (zv l (zv l (itL l (gs8 l) k2).2 1) 1))|8=>v_ = .agg #[vI (oneV l (itL l (gs8 l) k2).2),vI (oneV l (zv l (itL l (gs8 l) k2).2 1)),vI (twoV l (zv l (zv l (itL l (gs8 l) k2).2 1) 1))]|9=>∃ b158 : Nat,v_ = .slice (some ⟨b158,0,none⟩) 1 1|10=>∃ a162 : Option Addr,∃ c163 : Nat,v_ = .slice a162 (k2 + 1) c163|11=>v_ = .pointer (some ⟨b42,4,none⟩)|_=>True) (by kernel_rfl) (by kernel_rfl) ⟨?_,?_,?_,?_,?_,?_,?_,?_,?_,?_,?_,?_,?_,trivial⟩ ?_
     ·intro f0_ w0_ X0_ qp qo qu qk
      have hb7 : f0_ 7 = .pointer (some ⟨b42,0,none⟩):=(qp 7 rfl)
      refine qe rfl (qg hb7 xx rfl (o':=4) rfl rfl ?_)
      exact ⟨.pointer (some ⟨b42,4,none⟩),rfl,rfl,qk⟩
     ·intro f1_ w1_ X1_ qp qo qu qk
      obtain ⟨hu0,-⟩:=qo
      have hu0 : f1_ 61 = .pointer (some ⟨b42,4,none⟩):=hu0
      obtain ⟨hr16,-⟩:=qu
      have hr16 : Item.φ (blk b42 [.bool (decide ((zm l) = 1)),vI (kp l),vI (kq l),.slice a5 (gC l) c5,.slice a6 k2 c6,.slice none 0 0] 26) w1_:=hr16
      refine qe rfl (qq (v:=.slice a6 k2 c6) hu0 ag23 (qh (hr16) rfl) rfl ?_)
      exact ⟨.slice a6 k2 c6,rfl,rfl,qk⟩
     ·intro f2_ w2_ X2_ qp qo qu qk
      have hb4 : f2_ 4 = .pointer (some ⟨b9,0,none⟩):=(qp 4 rfl)
      obtain ⟨hr17,-⟩:=qu
      have hr17 : Item.φ (blk b9 [.pointer (some ⟨b5,0,none⟩)] 64) w2_:=hr17
      refine qe rfl (qw (vs:=[.pointer (some ⟨b5,0,none⟩)]) hb4 ag64 sz64 (Rd.of_blk (hr17) 0 1) rfl rfl ?_)
      exact ⟨.agg #[.pointer (some ⟨b5,0,none⟩)],rfl,rfl,qk⟩
     ·intro f3_ w3_ X3_ qp qo qu qk
      obtain ⟨hu2,-⟩:=qo
      have hu2 : f3_ 63 = .agg #[.pointer (some ⟨b5,0,none⟩)]:=hu2
      have qk : St _ _ _ ((rdrI a l b5 62 ((itL l (gs8 l) k2).2)) :: X3_) _:=qk
      have hr18:=qk.get 0 rfl
      refine qe rfl (zi (args:=[.agg #[.pointer (some ⟨b5,0,none⟩)]]) rfl (by simp only [List.map_cons,List.map_nil,List.nil_append,List.cons_append,List.append_nil,ev,Value.cells,hu2]) rfl en31 (one_c b5 a l ((itL l (gs8 l) k2).2) _ (hr18) (qk.getR 0 rfl) (fun b hb e=>qk.rsep _ (List.mem_of_getElem? (i:=0) rfl) _ (List.mem_of_getElem? (i:=0) rfl) b hb e) (by omega)) ?_)
      rintro _ w146 ⟨⟨rfl,hr148⟩,hk149⟩
      have hs147:=qk.mut 0 rfl hk149 (rdrI a l b5 62 (zv l (itL l (gs8 l) k2).2 1)) hr148 (fun _ h=>.inl h)
      refine ⟨vI (oneV l (itL l (gs8 l) k2).2),rfl,rfl,?_⟩
      show St _ _ _ ((rdrI a l b5 62 (zv l (itL l (gs8 l) k2).2 1)) :: X3_) _
      exact hs147
     ·intro f4_ w4_ X4_ qp qo qu qk
      have hb4 : f4_ 4 = .pointer (some ⟨b9,0,none⟩):=(qp 4 rfl)
      obtain ⟨hr17,-⟩:=qu
      have hr17 : Item.φ (blk b9 [.pointer (some ⟨b5,0,none⟩)] 64) w4_:=hr17
      refine qe rfl (qw (vs:=[.pointer (some ⟨b5,0,none⟩)]) hb4 ag64 sz64 (Rd.of_blk (hr17) 0 1) rfl rfl ?_)
      exact ⟨.agg #[.pointer (some ⟨b5,0,none⟩)],rfl,rfl,qk⟩
     ·intro f5_ w5_ X5_ qp qo qu qk
      obtain ⟨hu4,-⟩:=qo
      have hu4 : f5_ 65 = .agg #[.pointer (some ⟨b5,0,none⟩)]:=hu4
      have qk : St _ _ _ ((rdrI a l b5 62 (zv l (itL l (gs8 l) k2).2 1)) :: X5_) _:=qk
      have hr3:=qk.get 0 rfl
      refine qe rfl (zi (args:=[.agg #[.pointer (some ⟨b5,0,none⟩)]]) rfl (by simp only [List.map_cons,List.map_nil,List.nil_append,List.cons_append,List.append_nil,ev,Value.cells,hu4]) rfl en31 (one_c b5 a l (zv l (itL l (gs8 l) k2).2 1) _ (hr3) (qk.getR 0 rfl) (fun b hb e=>qk.rsep _ (List.mem_of_getElem? (i:=0) rfl) _ (List.mem_of_getElem? (i:=0) rfl) b hb e) (by omega)) ?_)
      rintro _ w150 ⟨⟨rfl,hr152⟩,hk153⟩
      have hs151:=qk.mut 0 rfl hk153 (rdrI a l b5 62 (zv l (zv l (itL l (gs8 l) k2).2 1) 1)) hr152 (fun _ h=>.inl h)
      refine ⟨vI (oneV l (zv l (itL l (gs8 l) k2).2 1)),rfl,rfl,?_⟩
      show St _ _ _ ((rdrI a l b5 62 (zv l (zv l (itL l (gs8 l) k2).2 1) 1)) :: X5_) _
      exact hs151
     ·intro f6_ w6_ X6_ qp qo qu qk
      have hb4 : f6_ 4 = .pointer (some ⟨b9,0,none⟩):=(qp 4 rfl)
      obtain ⟨hr17,-⟩:=qu
      have hr17 : Item.φ (blk b9 [.pointer (some ⟨b5,0,none⟩)] 64) w6_:=hr17
      refine qe rfl (qw (vs:=[.pointer (some ⟨b5,0,none⟩)]) hb4 ag64 sz64 (Rd.of_blk (hr17) 0 1) rfl rfl ?_)
      exact ⟨.agg #[.pointer (some ⟨b5,0,none⟩)],rfl,rfl,qk⟩
     ·intro f7_ w7_ X7_ qp qo qu qk
      obtain ⟨hu6,-⟩:=qo
      have hu6 : f7_ 67 = .agg #[.pointer (some ⟨b5,0,none⟩)]:=hu6
      have qk : St _ _ _ ((rdrI a l b5 62 (zv l (zv l (itL l (gs8 l) k2).2 1) 1)) :: X7_) _:=qk
      have hr5:=qk.get 0 rfl
      refine qe rfl (zi (args:=[.agg #[.pointer (some ⟨b5,0,none⟩)]]) rfl (by simp only [List.map_cons,List.map_nil,List.nil_append,List.cons_append,List.append_nil,ev,Value.cells,hu6]) rfl en32 (rtwo_c b5 a l (zv l (zv l (itL l (gs8 l) k2).2 1) 1) _ (hr5) (qk.getR 0 rfl) (fun b hb e=>qk.rsep _ (List.mem_of_getElem? (i:=0) rfl) _ (List.mem_of_getElem? (i:=0) rfl) b hb e) (by omega)) ?_)
      rintro _ w154 ⟨⟨rfl,hr156⟩,hk157⟩
      have hs155:=qk.mut 0 rfl hk157 (rdrI a l b5 62 ((itL l (gs8 l) (k2 + 1)).2)) hr156 (fun _ h=>.inl h)
      refine ⟨vI (twoV l (zv l (zv l (itL l (gs8 l) k2).2 1) 1)),rfl,rfl,?_⟩
      show St _ _ _ ((rdrI a l b5 62 ((itL l (gs8 l) (k2 + 1)).2)) :: X7_) _
      exact hs155
     ·intro f8_ w8_ X8_ qp qo qu qk
      obtain ⟨hu3,hu5,hu7,-⟩:=qo
      have hu3 : f8_ 64 = vI (oneV l (itL l (gs8 l) k2).2):=hu3
      have hu5 : f8_ 66 = vI (oneV l (zv l (itL l (gs8 l) k2).2 1)):=hu5
      have hu7 : f8_ 68 = vI (twoV l (zv l (zv l (itL l (gs8 l) k2).2 1) 1)):=hu7
      refine qe rfl (jl (ps:=[(0,[vI (oneV l (itL l (gs8 l) k2).2)]),(1,[vI (oneV l (zv l (itL l (gs8 l) k2).2 1))]),(2,[vI (twoV l (zv l (zv l (itL l (gs8 l) k2).2 1) 1))])]) (cells:=[vI (oneV l (itL l (gs8 l) k2).2),vI (oneV l (zv l (itL l (gs8 l) k2).2 1)),vI (twoV l (zv l (zv l (itL l (gs8 l) k2).2 1) 1))]) bt68 (by simp only [List.map_cons,List.map_nil,List.nil_append,List.cons_append,List.append_nil,ev,Value.cells,hu3,hu5,hu7]) rfl rfl ?_)
      exact ⟨.agg #[vI (oneV l (itL l (gs8 l) k2).2),vI (oneV l (zv l (itL l (gs8 l) k2).2 1)),vI (twoV l (zv l (zv l (itL l (gs8 l) k2).2 1) 1))],rfl,rfl,qk⟩
     ·intro f9_ w9_ X9_ qp qo qu qk
      obtain ⟨hu8,-⟩:=qo
      have hu8 : f9_ 69 = .agg #[vI (oneV l (itL l (gs8 l) k2).2),vI (oneV l (zv l (itL l (gs8 l) k2).2 1)),vI (twoV l (zv l (zv l (itL l (gs8 l) k2).2 1) 1))]:=hu8
      refine qe rfl (zz (zs:=[vI 0,vI 0,vI 0]) (ps:=[(0,[vI (oneV l (itL l (gs8 l) k2).2),vI (oneV l (zv l (itL l (gs8 l) k2).2 1)),vI (twoV l (zv l (zv l (itL l (gs8 l) k2).2 1) 1))])]) (cs:=[vI (oneV l (itL l (gs8 l) k2).2),vI (oneV l (zv l (itL l (gs8 l) k2).2 1)),vI (twoV l (zv l (zv l (itL l (gs8 l) k2).2 1) 1))]) qk un23 sz68 zv68 rfl rfl (by simp only [List.map_cons,List.map_nil,List.nil_append,List.cons_append,List.append_nil,ev,Value.cells,hu8]) rfl rfl ?_)
      intro b158 w159 hb161 hs160
      refine ⟨.slice (some ⟨b158,0,none⟩) 1 1,rfl,⟨_,rfl⟩,?_⟩
      show St _ _ _ ((blk (vblk ((upd f9_ 70 (.slice (some ⟨b158,0,none⟩) 1 1)) 70)) [vI (oneV l (itL l (gs8 l) k2).2),vI (oneV l (zv l (itL l (gs8 l) k2).2 1)),vI (twoV l (zv l (zv l (itL l (gs8 l) k2).2 1) 1))] 68) :: X9_) _
      exact hs160
     ·intro f10_ w10_ X10_ qp qo qu qk
      obtain ⟨hu1,hu9,-⟩:=qo
      have hu1 : f10_ 62 = .slice a6 k2 c6:=hu1
      obtain ⟨b158,hu9⟩:=(show ∃ b158 : Nat,f10_ 70 = .slice (some ⟨b158,0,none⟩) 1 1 from hu9)
      have qk : St _ _ _ ((ownI 68 3 a6 c6 k2 (((itL l (gs8 l) k2).1).flatMap z1)) :: X10_) _:=qk
      obtain ⟨hr9,-⟩:=qu
      have hr9 : Item.φ (blk (vblk (f10_ 70)) [vI (oneV l (itL l (gs8 l) k2).2),vI (oneV l (zv l (itL l (gs8 l) k2).2 1)),vI (twoV l (zv l (zv l (itL l (gs8 l) k2).2 1) 1))] 68) w10_:=hr9
      rw [hu9] at hr9; simp only [vblk,zf,vcap,z3] at hr9
      refine qe rfl (k7 (n2:=k2 + 1) (xs2:=(itL l (gs8 l) (k2 + 1)).1.flatMap z1) qk 0 rfl hu1 hu9 un23 ni23 inf68 rfl (Src.rd (news:=[vI (oneV l (itL l (gs8 l) k2).2),vI (oneV l (zv l (itL l (gs8 l) k2).2 1)),vI (twoV l (zv l (zv l (itL l (gs8 l) k2).2 1) 1))]) (Rd.of_blk (hr9) 0 3) rfl rfl) (rfl) (by simp only [itL,List.flatMap_append]; rfl) (by have:=gL_le l; omega) (by have:=gL_le l; omega) rfl ?_)
      intro a162 c163 w164 hs165
      refine ⟨.slice a162 (k2 + 1) c163,rfl,⟨_,_,rfl⟩,?_⟩
      show St _ _ _ ((ownI 68 3 (zf ((upd f10_ 71 (.slice a162 (k2 + 1) c163)) 71)) (vcap ((upd f10_ 71 (.slice a162 (k2 + 1) c163)) 71)) (k2 + 1) ((itL l (gs8 l) (k2 + 1)).1.flatMap z1)) :: X10_) _
      exact hs165
     ·intro f11_ w11_ X11_ qp qo qu qk
      have hb7 : f11_ 7 = .pointer (some ⟨b42,0,none⟩):=(qp 7 rfl)
      refine qe rfl (qg hb7 xx rfl (o':=4) rfl rfl ?_)
      exact ⟨.pointer (some ⟨b42,4,none⟩),rfl,rfl,qk⟩
     ·intro f12_ w12_ X12_ qp qo qu qk
      obtain ⟨hu11,hu10,-⟩:=qo
      have hu11 : f12_ 72 = .pointer (some ⟨b42,4,none⟩):=hu11
      obtain ⟨a162,c163,hu10⟩:=(show ∃ a162 : Option Addr,∃ c163 : Nat,f12_ 71 = .slice a162 (k2 + 1) c163 from hu10)
      have qk : St _ _ _ ((blk b42 [.bool (decide ((zm l) = 1)),vI (kp l),vI (kq l),.slice a5 (gC l) c5,.slice a6 k2 c6,.slice none 0 0] 26) :: X12_) _:=qk
      refine qe rfl (zx (v:=.slice a162 (k2 + 1) c163) (vs:=[.slice a162 (k2 + 1) c163]) (cs':=[.bool (decide ((zm l) = 1)),vI (kp l),vI (kq l),.slice a5 (gC l) c5,.slice a162 (k2 + 1) c163,.slice none 0 0]) qk 0 rfl hu11 hu10 sz23 rfl rfl rfl rfl rfl ?_)
      intro w166 hs167
      refine ⟨undef,rfl,trivial,?_⟩
      show St _ _ _ ((blk b42 [.bool (decide ((zm l) = 1)),vI (kp l),vI (kq l),.slice a5 (gC l) c5,.slice (zf (f12_ 71)) (k2 + 1) (vcap (f12_ 71)),.slice none 0 0] 26) :: X12_) _
      rw [show (f12_) 71 = _ from hu10]
      exact hs167
     intro f168 w169 qp qo hs170
     obtain ⟨hu9,hu10,-⟩:=qo
     obtain ⟨b158,hu9⟩:=(show ∃ b158 : Nat,f168 70 = .slice (some ⟨b158,0,none⟩) 1 1 from hu9)
     obtain ⟨a162,c163,hu10⟩:=(show ∃ a162 : Option Addr,∃ c163 : Nat,f168 71 = .slice a162 (k2 + 1) c163 from hu10)
     have hs170 : St _ _ _ [blk (vblk (f168 70)) [vI (oneV l (itL l (gs8 l) k2).2),vI (oneV l (zv l (itL l (gs8 l) k2).2 1)),vI (twoV l (zv l (zv l (itL l (gs8 l) k2).2 1) 1))] 68,ownI 68 3 (zf (f168 71)) (vcap (f168 71)) (k2 + 1) ((itL l (gs8 l) (k2 + 1)).1.flatMap z1),ownI 53 2 a5 c5 (gC l) ((cmp l (gC l)).flatMap zu),ownI 3 1 (some ⟨b75,0,none⟩) (gC l) (gC l) ((gSz l).flatMap encI),blk b42 [.bool (decide ((zm l) = 1)),vI (kp l),vI (kq l),.slice a5 (gC l) c5,.slice (zf (f168 71)) (k2 + 1) (vcap (f168 71)),.slice none 0 0] 26,blk b9 [.pointer (some ⟨b5,0,none⟩)] 64,rdrI a l b5 62 ((itL l (gs8 l) (k2 + 1)).2),blk b1 [.bool false,vI 0,vI 0,.slice none 0 0,.slice none 0 0,.slice none 0 0] 26] _:=hs170
     simp only [hu9,hu10,vblk,zf,vcap,z3] at hs170
     have hs170 : St _ _ _ [blk b158 [vI (oneV l (itL l (gs8 l) k2).2),vI (oneV l (zv l (itL l (gs8 l) k2).2 1)),vI (twoV l (zv l (zv l (itL l (gs8 l) k2).2 1) 1))] 68,ownI 68 3 a162 c163 (k2 + 1) ((itL l (gs8 l) (k2 + 1)).1.flatMap z1),ownI 53 2 a5 c5 (gC l) ((cmp l (gC l)).flatMap zu),ownI 3 1 (some ⟨b75,0,none⟩) (gC l) (gC l) ((gSz l).flatMap encI),blk b42 [.bool (decide ((zm l) = 1)),vI (kp l),vI (kq l),.slice a5 (gC l) c5,.slice a162 (k2 + 1) c163,.slice none 0 0] 26,blk b9 [.pointer (some ⟨b5,0,none⟩)] 64,rdrI a l b5 62 ((itL l (gs8 l) (k2 + 1)).2),blk b1 [.bool false,vI 0,vI 0,.slice none 0 0,.slice none 0 0,.slice none 0 0] 26] _:=hs170
     have e171 : f168 2 = .pointer (some ⟨b1,0,none⟩):=(qp 2 rfl)
     rewrite [qm e171]
     have e172 : f168 4 = .pointer (some ⟨b9,0,none⟩):=(qp 4 rfl)
     rewrite [qm e172]
     have e173 : f168 5 = .string ⟨(xj l).toArray⟩:=(qp 5 rfl)
     rewrite [qm e173]
     have e174 : f168 6 = vI (zm l):=(qp 6 rfl)
     rewrite [qm e174]
     have e175 : f168 7 = .pointer (some ⟨b42,0,none⟩):=(qp 7 rfl)
     rewrite [qm e175]
     have e176 : f168 10 = vI ((gS l : Nat) : Int):=(qp 10 rfl)
     rewrite [qm e176]
     have e177 : f168 11 = .slice (some ⟨b75,0,none⟩) (gC l) (gC l):=(qp 11 rfl)
     rewrite [qm e177]
     have e178 : f168 58 = vI ((gL l : Nat) : Int):=(qp 58 rfl)
     rewrite [qm e178]
     have e179 : f168 59 = vI ((k2 : Nat) : Int):=(qp 59 rfl)
     rewrite [qm e179]
     refine z7 (qb (qc ?_))
     refine qa rfl (qt (v:=vI ((k2 + 1 : Nat) : Int)) rfl rfl rfl (ki (qz (by omega) (by omega))) ?_)
     refine qa rfl (qj (v:=vI ((k2 + 1 : Nat) : Int)) rfl rfl ?_)
     refine ql (qb ?_)
     refine ⟨_,?_,k2 + 1,a162,c163,rfl,by omega,rfl,rfl,rfl,rfl,rfl,rfl,rfl,rfl,rfl,hs170.popM⟩
     omega
    ·refine ja (z0 (z0 (ke (qb (qi (qi ?_))))))
     obtain rfl : k2 = gL l:=by omega
     have hs180 : St w (fun _=>False) w133 [ownI 68 3 a6 c6 (gL l) ((itL l (gs8 l) (gL l)).1.flatMap z1),ownI 53 2 a5 c5 (gC l) ((cmp l (gC l)).flatMap zu),ownI 3 1 (some ⟨b75,0,none⟩) (gC l) (gC l) ((gSz l).flatMap encI),blk b42 [.bool (decide ((zm l) = 1)),vI (kp l),vI (kq l),.slice a5 (gC l) c5,.slice a6 (gL l) c6,.slice none 0 0] 26,blk b9 [.pointer (some ⟨b5,0,none⟩)] 64,rdrI a l b5 62 (gs9 l),blk b1 [.bool false,vI 0,vI 0,.slice none 0 0,.slice none 0 0,.slice none 0 0] 26] [arrI encB 1 a l]:=by exact hs134
     refine qc ?_
     refine qa rfl (qj (v:=vI ((gS l : Nat) : Int)) rfl rfl ?_)
     refine qa rfl (qj (v:=vI 0) rfl rfl ?_)
     refine ql (qb (zy ?_))
     have hs181:=hs180.ownNil 70 2
     refine kw (fun m_ f_ w_=>∃ k3 : Nat,∃ a7 : Option Addr,∃ c7 : Nat,m_ = gS l - k3 ∧ (k3 ≤ gS l) ∧ f_ 2 = .pointer (some ⟨b1,0,none⟩) ∧ f_ 4 = .pointer (some ⟨b9,0,none⟩) ∧ f_ 5 = .string ⟨(xj l).toArray⟩ ∧ f_ 6 = vI (zm l) ∧ f_ 7 = .pointer (some ⟨b42,0,none⟩) ∧ f_ 11 = .slice (some ⟨b75,0,none⟩) (gC l) (gC l) ∧ f_ 74 = vI ((gS l : Nat) : Int) ∧ f_ 75 = vI ((k3 : Nat) : Int) ∧ St w (fun _=>False) w_ [ownI 70 2 a7 c7 k3 (((itS l (gs9 l) k3).1).flatMap zw),ownI 68 3 a6 c6 (gL l) ((itL l (gs8 l) (gL l)).1.flatMap z1),ownI 53 2 a5 c5 (gC l) ((cmp l (gC l)).flatMap zu),ownI 3 1 (some ⟨b75,0,none⟩) (gC l) (gC l) ((gSz l).flatMap encI),blk b42 [.bool (decide ((zm l) = 1)),vI (kp l),vI (kq l),.slice a5 (gC l) c5,.slice a6 (gL l) c6,.slice a7 k3 c7] 26,blk b9 [.pointer (some ⟨b5,0,none⟩)] 64,rdrI a l b5 62 ((itS l (gs9 l) k3).2),blk b1 [.bool false,vI 0,vI 0,.slice none 0 0,.slice none 0 0,.slice none 0 0] 26] [arrI encB 1 a l]) ?_ ?_
     ·exact ⟨_,0,none,0,rfl,by omega,rfl,rfl,rfl,rfl,rfl,rfl,rfl,rfl,hs181⟩
     ·intro m185 f182 w183; rintro ⟨k3,a7,c7,rfl,hk3,e186,e187,e188,e189,e190,e191,e192,e193,hs184⟩
      rewrite [qm e186]
      rewrite [qm e187]
      rewrite [qm e188]
      rewrite [qm e189]
      rewrite [qm e190]
      rewrite [qm e191]
      rewrite [qm e192]
      rewrite [qm e193]
      refine qi (qc ?_)
      refine qa rfl (qt (k:=.i64) (k':=.i64) (a:=((k3 : Nat) : Int)) (b:=((gS l : Nat) : Int)) rfl rfl rfl jg ?_)
      refine ql (qb (qi ?_))
      refine zd rfl (fun hc194=>?_) (fun hc194=>?_)
      ·refine zn (qb (qi (zy ?_)))
       refine jc js (show St _ _ _ [ownI 70 2 a7 c7 k3 (((itS l (gs9 l) k3).1).flatMap zw),ownI 68 3 a6 c6 (gL l) ((itL l (gs8 l) (gL l)).1.flatMap z1),ownI 53 2 a5 c5 (gC l) ((cmp l (gC l)).flatMap zu),ownI 3 1 (some ⟨b75,0,none⟩) (gC l) (gC l) ((gSz l).flatMap encI),blk b42 [.bool (decide ((zm l) = 1)),vI (kp l),vI (kq l),.slice a5 (gC l) c5,.slice a6 (gL l) c6,.slice a7 k3 c7] 26,blk b9 [.pointer (some ⟨b5,0,none⟩)] 64,rdrI a l b5 62 ((itS l (gs9 l) k3).2),blk b1 [.bool false,vI 0,vI 0,.slice none 0 0,.slice none 0 0,.slice none 0 0] 26] _ from hs184) (fun i_=>match i_ with|3=>some ([],fun _=>rdrI a l b5 62 (zv l (itS l (gs9 l) k3).2 1))|5=>some ([],fun _=>rdrI a l b5 62 ((itS l (gs9 l) (k3 + 1)).2))|7=>some ([84],fun vs_=>match vs_ with|[x84]=>blk (vblk x84) [vI (oneV l (itS l (gs9 l) k3).2),vI (oneV l (zv l (itS l (gs9 l) k3).2 1))] 70|_=>emp)|8=>some ([85],fun vs_=>match vs_ with|[x85]=>ownI 70 2 (zf x85) (vcap x85) (k3 + 1) ((itS l (gs9 l) (k3 + 1)).1.flatMap zw)|_=>emp)|10=>some ([85],fun vs_=>match vs_ with|[x85]=>blk b42 [.bool (decide ((zm l) = 1)),vI (kp l),vI (kq l),.slice a5 (gC l) c5,.slice a6 (gL l) c6,.slice (zf x85) (k3 + 1) (vcap x85)] 26|_=>emp)|_=>none) (fun i_=>match i_ with|3=>[17]|5=>[3]|8=>[11]|10=>[15]|_=>[]) (fun i_=>match i_ with|1=>[15]|2=>[16]|4=>[16]|8=>[7]|_=>[]) (fun i_=>match i_ with|1=>[0]|3=>[2]|5=>[4]|6=>[3,5]|7=>[6]|8=>[1,7]|10=>[9,8]|_=>[]) [7,8,12,13,14,10,16,5,18,0,1,2,4,6,9,19,20,21,22,23,24,25,26,27,28,29] [7,8] (fun i_ v_=>match i_ with|0=>v_ = .pointer (some ⟨b42,5,none⟩)|1=>v_ = .slice a7 k3 c7|2=>v_ = .agg #[.pointer (some ⟨b5,0,none⟩)]|3=>v_ = vI (oneV l (itS l (gs9 l) k3).2)|4=>v_ = .agg #[.pointer (some ⟨b5,0,none⟩)]|5=>v_ = vI (oneV l (zv l (itS l (gs9 l) k3).2 1))|6=>v_ = .agg #[vI (oneV l (itS l (gs9 l) k3).2),vI (oneV l (zv l (itS l (gs9 l) k3).2 1))]|7=>∃ b203 : Nat,v_ = .slice (some ⟨b203,0,none⟩) 1 1|8=>∃ a207 : Option Addr,∃ c208 : Nat,v_ = .slice a207 (k3 + 1) c208|9=>v_ = .pointer (some ⟨b42,5,none⟩)|_=>True) (by kernel_rfl) (by kernel_rfl) ⟨?_,?_,?_,?_,?_,?_,?_,?_,?_,?_,?_,trivial⟩ ?_
       ·intro f0_ w0_ X0_ qp qo qu qk
        have hb7 : f0_ 7 = .pointer (some ⟨b42,0,none⟩):=(qp 7 rfl)
        refine qe rfl (qg hb7 xo rfl (o':=5) rfl rfl ?_)
        exact ⟨.pointer (some ⟨b42,5,none⟩),rfl,rfl,qk⟩
       ·intro f1_ w1_ X1_ qp qo qu qk
        obtain ⟨hu0,-⟩:=qo
        have hu0 : f1_ 77 = .pointer (some ⟨b42,5,none⟩):=hu0
        obtain ⟨hr15,-⟩:=qu
        have hr15 : Item.φ (blk b42 [.bool (decide ((zm l) = 1)),vI (kp l),vI (kq l),.slice a5 (gC l) c5,.slice a6 (gL l) c6,.slice a7 k3 c7] 26) w1_:=hr15
        refine qe rfl (qq (v:=.slice a7 k3 c7) hu0 ag24 (qh (hr15) rfl) rfl ?_)
        exact ⟨.slice a7 k3 c7,rfl,rfl,qk⟩
       ·intro f2_ w2_ X2_ qp qo qu qk
        have hb4 : f2_ 4 = .pointer (some ⟨b9,0,none⟩):=(qp 4 rfl)
        obtain ⟨hr16,-⟩:=qu
        have hr16 : Item.φ (blk b9 [.pointer (some ⟨b5,0,none⟩)] 64) w2_:=hr16
        refine qe rfl (qw (vs:=[.pointer (some ⟨b5,0,none⟩)]) hb4 ag64 sz64 (Rd.of_blk (hr16) 0 1) rfl rfl ?_)
        exact ⟨.agg #[.pointer (some ⟨b5,0,none⟩)],rfl,rfl,qk⟩
       ·intro f3_ w3_ X3_ qp qo qu qk
        obtain ⟨hu2,-⟩:=qo
        have hu2 : f3_ 79 = .agg #[.pointer (some ⟨b5,0,none⟩)]:=hu2
        have qk : St _ _ _ ((rdrI a l b5 62 ((itS l (gs9 l) k3).2)) :: X3_) _:=qk
        have hr17:=qk.get 0 rfl
        refine qe rfl (zi (args:=[.agg #[.pointer (some ⟨b5,0,none⟩)]]) rfl (by simp only [List.map_cons,List.map_nil,List.nil_append,List.cons_append,List.append_nil,ev,Value.cells,hu2]) rfl en31 (one_c b5 a l ((itS l (gs9 l) k3).2) _ (hr17) (qk.getR 0 rfl) (fun b hb e=>qk.rsep _ (List.mem_of_getElem? (i:=0) rfl) _ (List.mem_of_getElem? (i:=0) rfl) b hb e) (by omega)) ?_)
        rintro _ w195 ⟨⟨rfl,hr197⟩,hk198⟩
        have hs196:=qk.mut 0 rfl hk198 (rdrI a l b5 62 (zv l (itS l (gs9 l) k3).2 1)) hr197 (fun _ h=>.inl h)
        refine ⟨vI (oneV l (itS l (gs9 l) k3).2),rfl,rfl,?_⟩
        show St _ _ _ ((rdrI a l b5 62 (zv l (itS l (gs9 l) k3).2 1)) :: X3_) _
        exact hs196
       ·intro f4_ w4_ X4_ qp qo qu qk
        have hb4 : f4_ 4 = .pointer (some ⟨b9,0,none⟩):=(qp 4 rfl)
        obtain ⟨hr16,-⟩:=qu
        have hr16 : Item.φ (blk b9 [.pointer (some ⟨b5,0,none⟩)] 64) w4_:=hr16
        refine qe rfl (qw (vs:=[.pointer (some ⟨b5,0,none⟩)]) hb4 ag64 sz64 (Rd.of_blk (hr16) 0 1) rfl rfl ?_)
        exact ⟨.agg #[.pointer (some ⟨b5,0,none⟩)],rfl,rfl,qk⟩
       ·intro f5_ w5_ X5_ qp qo qu qk
        obtain ⟨hu4,-⟩:=qo
        have hu4 : f5_ 81 = .agg #[.pointer (some ⟨b5,0,none⟩)]:=hu4
        have qk : St _ _ _ ((rdrI a l b5 62 (zv l (itS l (gs9 l) k3).2 1)) :: X5_) _:=qk
        have hr3:=qk.get 0 rfl
        refine qe rfl (zi (args:=[.agg #[.pointer (some ⟨b5,0,none⟩)]]) rfl (by simp only [List.map_cons,List.map_nil,List.nil_append,List.cons_append,List.append_nil,ev,Value.cells,hu4]) rfl en31 (one_c b5 a l (zv l (itS l (gs9 l) k3).2 1) _ (hr3) (qk.getR 0 rfl) (fun b hb e=>qk.rsep _ (List.mem_of_getElem? (i:=0) rfl) _ (List.mem_of_getElem? (i:=0) rfl) b hb e) (by omega)) ?_)
        rintro _ w199 ⟨⟨rfl,hr201⟩,hk202⟩
        have hs200:=qk.mut 0 rfl hk202 (rdrI a l b5 62 ((itS l (gs9 l) (k3 + 1)).2)) hr201 (fun _ h=>.inl h)
        refine ⟨vI (oneV l (zv l (itS l (gs9 l) k3).2 1)),rfl,rfl,?_⟩
        show St _ _ _ ((rdrI a l b5 62 ((itS l (gs9 l) (k3 + 1)).2)) :: X5_) _
        exact hs200
       ·intro f6_ w6_ X6_ qp qo qu qk
        obtain ⟨hu3,hu5,-⟩:=qo
        have hu3 : f6_ 80 = vI (oneV l (itS l (gs9 l) k3).2):=hu3
        have hu5 : f6_ 82 = vI (oneV l (zv l (itS l (gs9 l) k3).2 1)):=hu5
        refine qe rfl (jl (ps:=[(0,[vI (oneV l (itS l (gs9 l) k3).2)]),(1,[vI (oneV l (zv l (itS l (gs9 l) k3).2 1))])]) (cells:=[vI (oneV l (itS l (gs9 l) k3).2),vI (oneV l (zv l (itS l (gs9 l) k3).2 1))]) bt70 (by simp only [List.map_cons,List.map_nil,List.nil_append,List.cons_append,List.append_nil,ev,Value.cells,hu3,hu5]) rfl rfl ?_)
        exact ⟨.agg #[vI (oneV l (itS l (gs9 l) k3).2),vI (oneV l (zv l (itS l (gs9 l) k3).2 1))],rfl,rfl,qk⟩
       ·intro f7_ w7_ X7_ qp qo qu qk
        obtain ⟨hu6,-⟩:=qo
        have hu6 : f7_ 83 = .agg #[vI (oneV l (itS l (gs9 l) k3).2),vI (oneV l (zv l (itS l (gs9 l) k3).2 1))]:=hu6
        refine qe rfl (zz (zs:=[vI 0,vI 0]) (ps:=[(0,[vI (oneV l (itS l (gs9 l) k3).2),vI (oneV l (zv l (itS l (gs9 l) k3).2 1))])]) (cs:=[vI (oneV l (itS l (gs9 l) k3).2),vI (oneV l (zv l (itS l (gs9 l) k3).2 1))]) qk un24 sz70 zv70 rfl rfl (by simp only [List.map_cons,List.map_nil,List.nil_append,List.cons_append,List.append_nil,ev,Value.cells,hu6]) rfl rfl ?_)
        intro b203 w204 hb206 hs205
        refine ⟨.slice (some ⟨b203,0,none⟩) 1 1,rfl,⟨_,rfl⟩,?_⟩
        show St _ _ _ ((blk (vblk ((upd f7_ 84 (.slice (some ⟨b203,0,none⟩) 1 1)) 84)) [vI (oneV l (itS l (gs9 l) k3).2),vI (oneV l (zv l (itS l (gs9 l) k3).2 1))] 70) :: X7_) _
        exact hs205
       ·intro f8_ w8_ X8_ qp qo qu qk
        obtain ⟨hu1,hu7,-⟩:=qo
        have hu1 : f8_ 78 = .slice a7 k3 c7:=hu1
        obtain ⟨b203,hu7⟩:=(show ∃ b203 : Nat,f8_ 84 = .slice (some ⟨b203,0,none⟩) 1 1 from hu7)
        have qk : St _ _ _ ((ownI 70 2 a7 c7 k3 (((itS l (gs9 l) k3).1).flatMap zw)) :: X8_) _:=qk
        obtain ⟨hr7,-⟩:=qu
        have hr7 : Item.φ (blk (vblk (f8_ 84)) [vI (oneV l (itS l (gs9 l) k3).2),vI (oneV l (zv l (itS l (gs9 l) k3).2 1))] 70) w8_:=hr7
        rw [hu7] at hr7; simp only [vblk,zf,vcap,z3] at hr7
        refine qe rfl (k7 (n2:=k3 + 1) (xs2:=(itS l (gs9 l) (k3 + 1)).1.flatMap zw) qk 0 rfl hu1 hu7 un24 ni24 inf70 rfl (Src.rd (news:=[vI (oneV l (itS l (gs9 l) k3).2),vI (oneV l (zv l (itS l (gs9 l) k3).2 1))]) (Rd.of_blk (hr7) 0 2) rfl rfl) (rfl) (by simp only [itS,List.flatMap_append]; rfl) (by have:=gS_le l; omega) (by have:=gS_le l; omega) rfl ?_)
        intro a207 c208 w209 hs210
        refine ⟨.slice a207 (k3 + 1) c208,rfl,⟨_,_,rfl⟩,?_⟩
        show St _ _ _ ((ownI 70 2 (zf ((upd f8_ 85 (.slice a207 (k3 + 1) c208)) 85)) (vcap ((upd f8_ 85 (.slice a207 (k3 + 1) c208)) 85)) (k3 + 1) ((itS l (gs9 l) (k3 + 1)).1.flatMap zw)) :: X8_) _
        exact hs210
       ·intro f9_ w9_ X9_ qp qo qu qk
        have hb7 : f9_ 7 = .pointer (some ⟨b42,0,none⟩):=(qp 7 rfl)
        refine qe rfl (qg hb7 xo rfl (o':=5) rfl rfl ?_)
        exact ⟨.pointer (some ⟨b42,5,none⟩),rfl,rfl,qk⟩
       ·intro f10_ w10_ X10_ qp qo qu qk
        obtain ⟨hu9,hu8,-⟩:=qo
        have hu9 : f10_ 86 = .pointer (some ⟨b42,5,none⟩):=hu9
        obtain ⟨a207,c208,hu8⟩:=(show ∃ a207 : Option Addr,∃ c208 : Nat,f10_ 85 = .slice a207 (k3 + 1) c208 from hu8)
        have qk : St _ _ _ ((blk b42 [.bool (decide ((zm l) = 1)),vI (kp l),vI (kq l),.slice a5 (gC l) c5,.slice a6 (gL l) c6,.slice a7 k3 c7] 26) :: X10_) _:=qk
        refine qe rfl (zx (v:=.slice a207 (k3 + 1) c208) (vs:=[.slice a207 (k3 + 1) c208]) (cs':=[.bool (decide ((zm l) = 1)),vI (kp l),vI (kq l),.slice a5 (gC l) c5,.slice a6 (gL l) c6,.slice a207 (k3 + 1) c208]) qk 0 rfl hu9 hu8 sz24 rfl rfl rfl rfl rfl ?_)
        intro w211 hs212
        refine ⟨undef,rfl,trivial,?_⟩
        show St _ _ _ ((blk b42 [.bool (decide ((zm l) = 1)),vI (kp l),vI (kq l),.slice a5 (gC l) c5,.slice a6 (gL l) c6,.slice (zf (f10_ 85)) (k3 + 1) (vcap (f10_ 85))] 26) :: X10_) _
        rw [show (f10_) 85 = _ from hu8]
        exact hs212
       intro f213 w214 qp qo hs215
       obtain ⟨hu7,hu8,-⟩:=qo
       obtain ⟨b203,hu7⟩:=(show ∃ b203 : Nat,f213 84 = .slice (some ⟨b203,0,none⟩) 1 1 from hu7)
       obtain ⟨a207,c208,hu8⟩:=(show ∃ a207 : Option Addr,∃ c208 : Nat,f213 85 = .slice a207 (k3 + 1) c208 from hu8)
       have hs215 : St _ _ _ [blk (vblk (f213 84)) [vI (oneV l (itS l (gs9 l) k3).2),vI (oneV l (zv l (itS l (gs9 l) k3).2 1))] 70,ownI 70 2 (zf (f213 85)) (vcap (f213 85)) (k3 + 1) ((itS l (gs9 l) (k3 + 1)).1.flatMap zw),ownI 68 3 a6 c6 (gL l) ((itL l (gs8 l) (gL l)).1.flatMap z1),ownI 53 2 a5 c5 (gC l) ((cmp l (gC l)).flatMap zu),ownI 3 1 (some ⟨b75,0,none⟩) (gC l) (gC l) ((gSz l).flatMap encI),blk b42 [.bool (decide ((zm l) = 1)),vI (kp l),vI (kq l),.slice a5 (gC l) c5,.slice a6 (gL l) c6,.slice (zf (f213 85)) (k3 + 1) (vcap (f213 85))] 26,blk b9 [.pointer (some ⟨b5,0,none⟩)] 64,rdrI a l b5 62 ((itS l (gs9 l) (k3 + 1)).2),blk b1 [.bool false,vI 0,vI 0,.slice none 0 0,.slice none 0 0,.slice none 0 0] 26] _:=hs215
       simp only [hu7,hu8,vblk,zf,vcap,z3] at hs215
       have hs215 : St _ _ _ [blk b203 [vI (oneV l (itS l (gs9 l) k3).2),vI (oneV l (zv l (itS l (gs9 l) k3).2 1))] 70,ownI 70 2 a207 c208 (k3 + 1) ((itS l (gs9 l) (k3 + 1)).1.flatMap zw),ownI 68 3 a6 c6 (gL l) ((itL l (gs8 l) (gL l)).1.flatMap z1),ownI 53 2 a5 c5 (gC l) ((cmp l (gC l)).flatMap zu),ownI 3 1 (some ⟨b75,0,none⟩) (gC l) (gC l) ((gSz l).flatMap encI),blk b42 [.bool (decide ((zm l) = 1)),vI (kp l),vI (kq l),.slice a5 (gC l) c5,.slice a6 (gL l) c6,.slice a207 (k3 + 1) c208] 26,blk b9 [.pointer (some ⟨b5,0,none⟩)] 64,rdrI a l b5 62 ((itS l (gs9 l) (k3 + 1)).2),blk b1 [.bool false,vI 0,vI 0,.slice none 0 0,.slice none 0 0,.slice none 0 0] 26] _:=hs215
       have e216 : f213 2 = .pointer (some ⟨b1,0,none⟩):=(qp 2 rfl)
       rewrite [qm e216]
       have e217 : f213 4 = .pointer (some ⟨b9,0,none⟩):=(qp 4 rfl)
       rewrite [qm e217]
       have e218 : f213 5 = .string ⟨(xj l).toArray⟩:=(qp 5 rfl)
       rewrite [qm e218]
       have e219 : f213 6 = vI (zm l):=(qp 6 rfl)
       rewrite [qm e219]
       have e220 : f213 7 = .pointer (some ⟨b42,0,none⟩):=(qp 7 rfl)
       rewrite [qm e220]
       have e221 : f213 11 = .slice (some ⟨b75,0,none⟩) (gC l) (gC l):=(qp 11 rfl)
       rewrite [qm e221]
       have e222 : f213 74 = vI ((gS l : Nat) : Int):=(qp 74 rfl)
       rewrite [qm e222]
       have e223 : f213 75 = vI ((k3 : Nat) : Int):=(qp 75 rfl)
       rewrite [qm e223]
       refine z7 (qb (qc ?_))
       refine qa rfl (qt (v:=vI ((k3 + 1 : Nat) : Int)) rfl rfl rfl (ki (qz (by omega) (by omega))) ?_)
       refine qa rfl (qj (v:=vI ((k3 + 1 : Nat) : Int)) rfl rfl ?_)
       refine ql (qb ?_)
       refine ⟨_,?_,k3 + 1,a207,c208,rfl,by omega,rfl,rfl,rfl,rfl,rfl,rfl,rfl,rfl,hs215.popM⟩
       omega
      ·refine ja (z0 (z0 (ke (qb (qi (qi ?_))))))
       obtain rfl : k3 = gS l:=by omega
       have hs224 : St w (fun _=>False) w183 [ownI 70 2 a7 c7 (gS l) ((itS l (gs9 l) (gS l)).1.flatMap zw),ownI 68 3 a6 c6 (gL l) ((itL l (gs8 l) (gL l)).1.flatMap z1),ownI 53 2 a5 c5 (gC l) ((cmp l (gC l)).flatMap zu),ownI 3 1 (some ⟨b75,0,none⟩) (gC l) (gC l) ((gSz l).flatMap encI),blk b42 [.bool (decide ((zm l) = 1)),vI (kp l),vI (kq l),.slice a5 (gC l) c5,.slice a6 (gL l) c6,.slice a7 (gS l) c7] 26,blk b9 [.pointer (some ⟨b5,0,none⟩)] 64,rdrI a l b5 62 (gs10 l),blk b1 [.bool false,vI 0,vI 0,.slice none 0 0,.slice none 0 0,.slice none 0 0] 26] [arrI encB 1 a l]:=by exact hs184
       have hszl:=gSz_len l
       refine qc ?_
       refine qa rfl (qj (v:=.slice (some ⟨b75,0,none⟩) (gC l) (gC l)) rfl rfl ?_)
       refine qa rfl (qx (len:=(gC l)) rfl un43 rfl ?_)
       refine qa rfl (qj (v:=vI 0) rfl rfl ?_)
       refine ql (qb (zy ?_))
       have hs225:=hs224.addR (ko []) (fun _ h=>by cases h) (fun _ _ _ h=>by obtain ⟨_,h,_⟩:=h; cases h)
       refine kw (fun m_ f_ w_=>∃ k4 : Nat,∃ cs : List CompV,m_ = gC l - k4 ∧ (k4 ≤ gC l) ∧ (cs.length = k4) ∧ (cs.map CompV.canon = List.zipWith mkC (itK l (gSz l) (gs10 l) k4).1 (gDa l)) ∧ (∀ c ∈ cs,(c.code.length ≤ 20000 ∨ (itK l (gSz l) (gs10 l) k4).2.bad = true) ∧ c.code.length ≤ c.cap ∧ (c.a = none → c.cap = 0)) ∧ (∀ c ∈ cs,∀ b,(arrI encB 1 c.a c.code).fp b → w.heap.size ≤ b) ∧ f_ 2 = .pointer (some ⟨b1,0,none⟩) ∧ f_ 4 = .pointer (some ⟨b9,0,none⟩) ∧ f_ 5 = .string ⟨(xj l).toArray⟩ ∧ f_ 6 = vI (zm l) ∧ f_ 7 = .pointer (some ⟨b42,0,none⟩) ∧ f_ 88 = .slice (some ⟨b75,0,none⟩) (gC l) (gC l) ∧ f_ 89 = vI ((gC l : Nat) : Int) ∧ f_ 90 = vI ((k4 : Nat) : Int) ∧ St w (fun _=>False) w_ [ownI 70 2 a7 c7 (gS l) ((itS l (gs9 l) (gS l)).1.flatMap zw),ownI 68 3 a6 c6 (gL l) ((itL l (gs8 l) (gL l)).1.flatMap z1),ownI 53 2 a5 c5 (gC l) ((cs ++ (cmp l (gC l)).drop k4).flatMap zu),ownI 3 1 (some ⟨b75,0,none⟩) (gC l) (gC l) ((gSz l).flatMap encI),blk b42 [.bool (decide ((zm l) = 1)),vI (kp l),vI (kq l),.slice a5 (gC l) c5,.slice a6 (gL l) c6,.slice a7 (gS l) c7] 26,blk b9 [.pointer (some ⟨b5,0,none⟩)] 64,rdrI a l b5 62 ((itK l (gSz l) (gs10 l) k4).2),blk b1 [.bool false,vI 0,vI 0,.slice none 0 0,.slice none 0 0,.slice none 0 0] 26] [ko cs,arrI encB 1 a l]) ?_ ?_
       ·exact ⟨_,0,[],rfl,Nat.zero_le _,rfl,rfl,(fun _ h=>by cases h),(fun _ h=>by cases h),rfl,rfl,rfl,rfl,rfl,rfl,rfl,rfl,hs225⟩
       ·intro m229 f226 w227; rintro ⟨k4,cs,rfl,hi1,hi2,hi3,hi4,hi5,e230,e231,e232,e233,e234,e235,e236,e237,hs228⟩
        rewrite [qm e230]
        rewrite [qm e231]
        rewrite [qm e232]
        rewrite [qm e233]
        rewrite [qm e234]
        rewrite [qm e235]
        rewrite [qm e236]
        rewrite [qm e237]
        refine qi (qc ?_)
        refine qa rfl (qt (k:=.i64) (k':=.i64) (a:=((k4 : Nat) : Int)) (b:=((gC l : Nat) : Int)) rfl rfl rfl jg ?_)
        refine ql (qb (qi ?_))
        refine zd rfl (fun hc238=>?_) (fun hc238=>?_)
        ·refine zn (qb (qi (zy (qi (qc ?_)))))
         refine qa rfl (qj (v:=vI ((k4 : Nat) : Int)) rfl rfl ?_)
         refine qa rfl (O_indexAddr rfl rfl un43 sz3 (by omega) (by omega) (o':=0 + k4 * 1) (by first|rfl|omega) rfl ?_)
         refine qa rfl (qq (v:=vI ((szN l k4 : Nat) : Int)) rfl ag3 (get_sz (hs228.get 3 rfl) (by omega)) rfl ?_)
         refine qa rfl (qf (v:=vI ((k4 : Nat) : Int)) rfl rfl ?_)
         refine qa rfl (qf (v:=vI ((szN l k4 : Nat) : Int)) rfl rfl ?_)
         refine ql (qb ?_)
         have hszn:=szN_int (l:=l) (k:=k4) (by omega)
         refine jc js (show St _ _ _ [ownI 70 2 a7 c7 (gS l) ((itS l (gs9 l) (gS l)).1.flatMap zw),ownI 68 3 a6 c6 (gL l) ((itL l (gs8 l) (gL l)).1.flatMap z1),ownI 53 2 a5 c5 (gC l) ((cs ++ (cmp l (gC l)).drop k4).flatMap zu),ownI 3 1 (some ⟨b75,0,none⟩) (gC l) (gC l) ((gSz l).flatMap encI),blk b42 [.bool (decide ((zm l) = 1)),vI (kp l),vI (kq l),.slice a5 (gC l) c5,.slice a6 (gL l) c6,.slice a7 (gS l) c7] 26,blk b9 [.pointer (some ⟨b5,0,none⟩)] 64,rdrI a l b5 62 ((itK l (gSz l) (gs10 l) k4).2),blk b1 [.bool false,vI 0,vI 0,.slice none 0 0,.slice none 0 0,.slice none 0 0] 26] _ from hs228) (fun i_=>match i_ with|6=>some ([101],fun vs_=>match vs_ with|[x101]=>resI 5 a l ((itK l (gSz l) (gs10 l) k4).2).off (szN l k4) (zf x101) (vcap x101)|_=>emp)|7=>some ([102],fun vs_=>match vs_ with|[x102]=>ownI 5 1 (zf x102) (vcap x102) (szN l k4) ((kb l ((itK l (gSz l) (gs10 l) k4).2).off (szN l k4)).flatMap encB)|_=>emp)|10=>some ([102],fun vs_=>match vs_ with|[x102]=>ownI 53 2 a5 c5 (gC l) (((cs ++ [(⟨(zf x102),(vcap x102),kb l ((itK l (gSz l) (gs10 l) k4).2).off (szN l k4),daAt l k4⟩ : CompV)]) ++ (cmp l (gC l)).drop (k4 + 1)).flatMap zu)|_=>emp)|25=>some ([],fun _=>rdrI a l b5 62 ((itK l (gSz l) (gs10 l) (k4 + 1)).2))|_=>none) (fun i_=>match i_ with|6=>[17]|10=>[13]|_=>[]) (fun i_=>match i_ with|1=>[15]|4=>[16]|7=>[6]|8=>[13]|_=>[]) (fun i_=>match i_ with|1=>[0]|4=>[3]|6=>[4,5]|7=>[6]|8=>[1,2]|9=>[8]|10=>[9,7]|_=>[]) [7,6,11,12,10,14,15,16,25,18,0,1,2,3,4,5,8,9,19,20,21,22,23,24,26,27,28,29] [6,7] (fun i_ v_=>match i_ with|0=>v_ = .pointer (some ⟨b42,3,none⟩)|1=>v_ = .slice a5 (gC l) c5|2=>v_ = vI ((k4 : Nat) : Int)|3=>v_ = .pointer (some ⟨b9,0,none⟩)|4=>v_ = .pointer (some ⟨b5,0,none⟩)|5=>v_ = vI ((szN l k4 : Nat) : Int)|6=>∃ a239 : Option Addr,∃ c240 : Nat,v_ = .slice a239 (szN l k4) c240|7=>∃ a248 : Option Addr,∃ c249 : Nat,v_ = .slice a248 (szN l k4) c249|8=>v_ = .pointer (some ⟨(vb a5),0 + k4 * 2,none⟩)|9=>v_ = .pointer (some ⟨(vb a5),0 + k4 * 2,none⟩)|_=>True) (by kernel_rfl) (by kernel_rfl) ⟨?_,?_,?_,?_,?_,?_,?_,?_,?_,?_,?_,trivial⟩ ?_
         ·intro f0_ w0_ X0_ qp qo qu qk
          have hb7 : f0_ 7 = .pointer (some ⟨b42,0,none⟩):=(qp 7 rfl)
          refine qe rfl (qg hb7 jq rfl (o':=3) rfl rfl ?_)
          exact ⟨.pointer (some ⟨b42,3,none⟩),rfl,rfl,qk⟩
         ·intro f1_ w1_ X1_ qp qo qu qk
          obtain ⟨hu0,-⟩:=qo
          have hu0 : f1_ 95 = .pointer (some ⟨b42,3,none⟩):=hu0
          obtain ⟨hr15,-⟩:=qu
          have hr15 : Item.φ (blk b42 [.bool (decide ((zm l) = 1)),vI (kp l),vI (kq l),.slice a5 (gC l) c5,.slice a6 (gL l) c6,.slice a7 (gS l) c7] 26) w1_:=hr15
          refine qe rfl (qq (v:=.slice a5 (gC l) c5) hu0 ag22 (qh (hr15) rfl) rfl ?_)
          exact ⟨.slice a5 (gC l) c5,rfl,rfl,qk⟩
         ·intro f2_ w2_ X2_ qp qo qu qk
          have hb13 : f2_ 13 = vI ((k4 : Nat) : Int):=(qp 13 rfl)
          refine qe rfl (qj (v:=vI ((k4 : Nat) : Int)) hb13 rfl ?_)
          exact ⟨vI ((k4 : Nat) : Int),rfl,rfl,qk⟩
         ·intro f3_ w3_ X3_ qp qo qu qk
          have hb4 : f3_ 4 = .pointer (some ⟨b9,0,none⟩):=(qp 4 rfl)
          refine qe rfl (qg hb4 fd64_0 rfl (o':=0) rfl rfl ?_)
          exact ⟨.pointer (some ⟨b9,0,none⟩),rfl,rfl,qk⟩
         ·intro f4_ w4_ X4_ qp qo qu qk
          obtain ⟨hu3,-⟩:=qo
          have hu3 : f4_ 98 = .pointer (some ⟨b9,0,none⟩):=hu3
          obtain ⟨hr16,-⟩:=qu
          have hr16 : Item.φ (blk b9 [.pointer (some ⟨b5,0,none⟩)] 64) w4_:=hr16
          refine qe rfl (qq (v:=.pointer (some ⟨b5,0,none⟩)) hu3 ag60 (qh (hr16) rfl) rfl ?_)
          exact ⟨.pointer (some ⟨b5,0,none⟩),rfl,rfl,qk⟩
         ·intro f5_ w5_ X5_ qp qo qu qk
          have hb14 : f5_ 14 = vI ((szN l k4 : Nat) : Int):=(qp 14 rfl)
          refine qe rfl (qj (v:=vI ((szN l k4 : Nat) : Int)) hb14 rfl ?_)
          exact ⟨vI ((szN l k4 : Nat) : Int),rfl,rfl,qk⟩
         ·intro f6_ w6_ X6_ qp qo qu qk
          obtain ⟨hu4,hu5,-⟩:=qo
          have hu4 : f6_ 99 = .pointer (some ⟨b5,0,none⟩):=hu4
          have hu5 : f6_ 100 = vI ((szN l k4 : Nat) : Int):=hu5
          have qk : St _ _ _ ((rdrI a l b5 62 ((itK l (gSz l) (gs10 l) k4).2)) :: X6_) _:=qk
          have hr17:=qk.get 0 rfl
          refine qe rfl (zi (args:=[.pointer (some ⟨b5,0,none⟩),vI ((szN l k4 : Nat) : Int)]) rfl (by simp only [List.map_cons,List.map_nil,List.nil_append,List.cons_append,List.append_nil,ev,Value.cells,hu4,hu5]) rfl en30 (some_r b5 (szN l k4) a l ((itK l (gSz l) (gs10 l) k4).2) _ (hr17) (by omega) (by omega)) ?_)
          rintro _ w241 ⟨a239,c240,rfl,hr243,hz244,hn245,hk246⟩
          have hs242:=qk.mutN 0 rfl hk246 (rdrI a l b5 62 ((itK l (gSz l) (gs10 l) (k4 + 1)).2)) hr243 (fun _ h=>h) (resI 5 a l ((itK l (gSz l) (gs10 l) k4).2).off (szN l k4) a239 c240) hz244 hn245
          refine ⟨.slice a239 (szN l k4) c240,rfl,⟨_,_,rfl⟩,?_⟩
          show St _ _ _ ((resI 5 a l ((itK l (gSz l) (gs10 l) k4).2).off (szN l k4) (zf ((upd f6_ 101 (.slice a239 (szN l k4) c240)) 101)) (vcap ((upd f6_ 101 (.slice a239 (szN l k4) c240)) 101))) :: (rdrI a l b5 62 ((itK l (gSz l) (gs10 l) (k4 + 1)).2)) :: X6_) _
          exact hs242
         ·intro f7_ w7_ X7_ qp qo qu qk
          obtain ⟨hu6,-⟩:=qo
          obtain ⟨a239,c240,hu6⟩:=(show ∃ a239 : Option Addr,∃ c240 : Nat,f7_ 101 = .slice a239 (szN l k4) c240 from hu6)
          obtain ⟨hr6,-⟩:=qu
          have hr6 : Item.φ (resI 5 a l ((itK l (gSz l) (gs10 l) k4).2).off (szN l k4) (zf (f7_ 101)) (vcap (f7_ 101))) w7_:=hr6
          rw [hu6] at hr6; simp only [vblk,zf,vcap,z3] at hr6
          refine qe rfl (zi (args:=[.slice a239 (szN l k4) c240]) rfl (by simp only [List.map_cons,List.map_nil,List.nil_append,List.cons_append,List.append_nil,ev,Value.cells,hu6]) rfl en33 (clone_at a239 c240 (szN l k4) (kb l ((itK l (gSz l) (gs10 l) k4).2).off (szN l k4)) (xg _ _ _) _ (res_arr (hr6) (qk.getR 1 rfl)) (by rw [xg]; omega) (by rw [xg]; exact (res_cap (hr6)).1) (res_cap (hr6)).2) ?_)
          rintro _ w250 ⟨⟨a248,c249,rfl,ha252,hn253⟩,hk254⟩
          have hs251:=qk.add hk254 (ownI 5 1 a248 c249 (szN l k4) ((kb l ((itK l (gSz l) (gs10 l) k4).2).off (szN l k4)).flatMap encB)) ha252 hn253
          refine ⟨.slice a248 (szN l k4) c249,rfl,⟨_,_,rfl⟩,?_⟩
          show St _ _ _ ((ownI 5 1 (zf ((upd f7_ 102 (.slice a248 (szN l k4) c249)) 102)) (vcap ((upd f7_ 102 (.slice a248 (szN l k4) c249)) 102)) (szN l k4) ((kb l ((itK l (gSz l) (gs10 l) k4).2).off (szN l k4)).flatMap encB)) :: X7_) _
          exact hs251
         ·intro f8_ w8_ X8_ qp qo qu qk
          obtain ⟨hu1,hu2,-⟩:=qo
          have hu1 : f8_ 96 = .slice a5 (gC l) c5:=hu1
          have hu2 : f8_ 97 = vI ((k4 : Nat) : Int):=hu2
          obtain ⟨hr13,-⟩:=qu
          have hr13 : Item.φ (ownI 53 2 a5 c5 (gC l) ((cs ++ (cmp l (gC l)).drop k4).flatMap zu)) w8_:=hr13
          refine qe rfl (qs hu1 (own_at (hr13) (by omega)) hu2 un22 sz53 (by omega) (by omega) (o':=0 + k4 * 2) (by omega) rfl ?_)
          exact ⟨.pointer (some ⟨(vb a5),0 + k4 * 2,none⟩),rfl,rfl,qk⟩
         ·intro f9_ w9_ X9_ qp qo qu qk
          obtain ⟨hu8,-⟩:=qo
          have hu8 : f9_ 103 = .pointer (some ⟨(vb a5),0 + k4 * 2,none⟩):=hu8
          refine qe rfl (qg hu8 ym rfl (o':=0 + k4 * 2) rfl rfl ?_)
          exact ⟨.pointer (some ⟨(vb a5),0 + k4 * 2,none⟩),rfl,rfl,qk⟩
         ·intro f10_ w10_ X10_ qp qo qu qk
          obtain ⟨hu9,hu7,-⟩:=qo
          have hu9 : f10_ 104 = .pointer (some ⟨(vb a5),0 + k4 * 2,none⟩):=hu9
          obtain ⟨a248,c249,hu7⟩:=(show ∃ a248 : Option Addr,∃ c249 : Nat,f10_ 102 = .slice a248 (szN l k4) c249 from hu7)
          have qk : St _ _ _ ((ownI 53 2 a5 c5 (gC l) ((cs ++ (cmp l (gC l)).drop k4).flatMap zu)) :: X10_) _:=qk
          refine qe rfl (O_storeOwn (v:=.slice a248 (szN l k4) c249) (vs:=[.slice a248 (szN l k4) c249]) (xs':=((cs ++ [(⟨a248,c249,kb l ((itK l (gSz l) (gs10 l) k4).2).off (szN l k4),daAt l k4⟩ : CompV)]) ++ (cmp l (gC l)).drop (k4 + 1)).flatMap zu) qk 0 rfl hu9 hu7 sz27 rfl rfl rfl (by decide) (by omega) (comp_store hi2 (by omega) (xg _ _ _)) ?_)
          intro w255 hs256
          refine ⟨undef,rfl,trivial,?_⟩
          show St _ _ _ ((ownI 53 2 a5 c5 (gC l) (((cs ++ [(⟨(zf (f10_ 102)),(vcap (f10_ 102)),kb l ((itK l (gSz l) (gs10 l) k4).2).off (szN l k4),daAt l k4⟩ : CompV)]) ++ (cmp l (gC l)).drop (k4 + 1)).flatMap zu)) :: X10_) _
          rw [show (f10_) 102 = _ from hu7]
          exact hs256
         intro f257 w258 qp qo hs259
         obtain ⟨hu6,hu7,-⟩:=qo
         obtain ⟨a239,c240,hu6⟩:=(show ∃ a239 : Option Addr,∃ c240 : Nat,f257 101 = .slice a239 (szN l k4) c240 from hu6)
         obtain ⟨a248,c249,hu7⟩:=(show ∃ a248 : Option Addr,∃ c249 : Nat,f257 102 = .slice a248 (szN l k4) c249 from hu7)
         have hs259 : St _ _ _ [ownI 5 1 (zf (f257 102)) (vcap (f257 102)) (szN l k4) ((kb l ((itK l (gSz l) (gs10 l) k4).2).off (szN l k4)).flatMap encB),resI 5 a l ((itK l (gSz l) (gs10 l) k4).2).off (szN l k4) (zf (f257 101)) (vcap (f257 101)),ownI 70 2 a7 c7 (gS l) ((itS l (gs9 l) (gS l)).1.flatMap zw),ownI 68 3 a6 c6 (gL l) ((itL l (gs8 l) (gL l)).1.flatMap z1),ownI 53 2 a5 c5 (gC l) (((cs ++ [(⟨(zf (f257 102)),(vcap (f257 102)),kb l ((itK l (gSz l) (gs10 l) k4).2).off (szN l k4),daAt l k4⟩ : CompV)]) ++ (cmp l (gC l)).drop (k4 + 1)).flatMap zu),ownI 3 1 (some ⟨b75,0,none⟩) (gC l) (gC l) ((gSz l).flatMap encI),blk b42 [.bool (decide ((zm l) = 1)),vI (kp l),vI (kq l),.slice a5 (gC l) c5,.slice a6 (gL l) c6,.slice a7 (gS l) c7] 26,blk b9 [.pointer (some ⟨b5,0,none⟩)] 64,rdrI a l b5 62 ((itK l (gSz l) (gs10 l) (k4 + 1)).2),blk b1 [.bool false,vI 0,vI 0,.slice none 0 0,.slice none 0 0,.slice none 0 0] 26] _:=hs259
         simp only [hu6,hu7,vblk,zf,vcap,z3] at hs259
         have hs259 : St _ _ _ [ownI 5 1 a248 c249 (szN l k4) ((kb l ((itK l (gSz l) (gs10 l) k4).2).off (szN l k4)).flatMap encB),resI 5 a l ((itK l (gSz l) (gs10 l) k4).2).off (szN l k4) a239 c240,ownI 70 2 a7 c7 (gS l) ((itS l (gs9 l) (gS l)).1.flatMap zw),ownI 68 3 a6 c6 (gL l) ((itL l (gs8 l) (gL l)).1.flatMap z1),ownI 53 2 a5 c5 (gC l) (((cs ++ [(⟨a248,c249,kb l ((itK l (gSz l) (gs10 l) k4).2).off (szN l k4),daAt l k4⟩ : CompV)]) ++ (cmp l (gC l)).drop (k4 + 1)).flatMap zu),ownI 3 1 (some ⟨b75,0,none⟩) (gC l) (gC l) ((gSz l).flatMap encI),blk b42 [.bool (decide ((zm l) = 1)),vI (kp l),vI (kq l),.slice a5 (gC l) c5,.slice a6 (gL l) c6,.slice a7 (gS l) c7] 26,blk b9 [.pointer (some ⟨b5,0,none⟩)] 64,rdrI a l b5 62 ((itK l (gSz l) (gs10 l) (k4 + 1)).2),blk b1 [.bool false,vI 0,vI 0,.slice none 0 0,.slice none 0 0,.slice none 0 0] 26] _:=hs259
         have e260 : f257 2 = .pointer (some ⟨b1,0,none⟩):=(qp 2 rfl)
         rewrite [qm e260]
         have e261 : f257 4 = .pointer (some ⟨b9,0,none⟩):=(qp 4 rfl)
         rewrite [qm e261]
         have e262 : f257 5 = .string ⟨(xj l).toArray⟩:=(qp 5 rfl)
         rewrite [qm e262]
         have e263 : f257 6 = vI (zm l):=(qp 6 rfl)
         rewrite [qm e263]
         have e264 : f257 7 = .pointer (some ⟨b42,0,none⟩):=(qp 7 rfl)
         rewrite [qm e264]
         have e265 : f257 88 = .slice (some ⟨b75,0,none⟩) (gC l) (gC l):=(qp 88 rfl)
         rewrite [qm e265]
         have e266 : f257 89 = vI ((gC l : Nat) : Int):=(qp 89 rfl)
         rewrite [qm e266]
         have e267 : f257 90 = vI ((k4 : Nat) : Int):=(qp 90 rfl)
         rewrite [qm e267]
         refine z7 (qb (qc ?_))
         refine qa rfl (qt (v:=vI ((k4 + 1 : Nat) : Int)) rfl rfl rfl (ki (qz (by omega) (by omega))) ?_)
         refine qa rfl (qj (v:=vI ((k4 + 1 : Nat) : Int)) rfl rfl ?_)
         refine ql (qb ?_)
         have qp:=hs259.newB 0 rfl
         have hcpc:=j5 (hs259.get 0 rfl)
         have hs268:=hs259.ownArr 0 (enc:=encB) (l:=kb l ((itK l (gSz l) (gs10 l) k4).2).off (szN l k4)) rfl (fun _=>rfl) (by decide)
         have hs269:=St.codesSnoc (c:=(⟨a248,c249,kb l ((itK l (gSz l) (gs10 l) k4).2).off (szN l k4),daAt l k4⟩ : CompV)) hs268
         have hs270 : St w (fun _=>False) w258 [ownI 70 2 a7 c7 (gS l) ((itS l (gs9 l) (gS l)).1.flatMap zw),ownI 68 3 a6 c6 (gL l) ((itL l (gs8 l) (gL l)).1.flatMap z1),ownI 53 2 a5 c5 (gC l) (((cs ++ [(⟨a248,c249,kb l ((itK l (gSz l) (gs10 l) k4).2).off (szN l k4),daAt l k4⟩ : CompV)]) ++ (cmp l (gC l)).drop (k4 + 1)).flatMap zu),ownI 3 1 (some ⟨b75,0,none⟩) (gC l) (gC l) ((gSz l).flatMap encI),blk b42 [.bool (decide ((zm l) = 1)),vI (kp l),vI (kq l),.slice a5 (gC l) c5,.slice a6 (gL l) c6,.slice a7 (gS l) c7] 26,blk b9 [.pointer (some ⟨b5,0,none⟩)] 64,rdrI a l b5 62 ((itK l (gSz l) (gs10 l) (k4 + 1)).2),blk b1 [.bool false,vI 0,vI 0,.slice none 0 0,.slice none 0 0,.slice none 0 0] 26] [ko (cs ++ [(⟨a248,c249,kb l ((itK l (gSz l) (gs10 l) k4).2).off (szN l k4),daAt l k4⟩ : CompV)]),arrI encB 1 a l]:=hs269.popM
         refine ⟨_,?_,k4 + 1,cs ++ [(⟨a248,c249,kb l ((itK l (gSz l) (gs10 l) k4).2).off (szN l k4),daAt l k4⟩ : CompV)],rfl,by omega,by rw [List.length_append,hi2]; rfl,get_canon (by omega) hi3,get_small hl hi4 (by rw [xg]; exact hcpc.1) hcpc.2,get_new hi5 (fun b hb=>qp b hb.2),rfl,rfl,rfl,rfl,rfl,rfl,rfl,rfl,hs270⟩
         omega
        ·refine ja (z0 (z0 (ke (qb (qi (zy ?_))))))
         obtain rfl : k4 = gC l:=by omega
         have hs271 : St w (fun _=>False) w227 [ownI 70 2 a7 c7 (gS l) ((itS l (gs9 l) (gS l)).1.flatMap zw),ownI 68 3 a6 c6 (gL l) ((itL l (gs8 l) (gL l)).1.flatMap z1),ownI 53 2 a5 c5 (gC l) (cs.flatMap zu),ownI 3 1 (some ⟨b75,0,none⟩) (gC l) (gC l) ((gSz l).flatMap encI),blk b42 [.bool (decide ((zm l) = 1)),vI (kp l),vI (kq l),.slice a5 (gC l) c5,.slice a6 (gL l) c6,.slice a7 (gS l) c7] 26,blk b9 [.pointer (some ⟨b5,0,none⟩)] 64,rdrI a l b5 62 (gs11 l),blk b1 [.bool false,vI 0,vI 0,.slice none 0 0,.slice none 0 0,.slice none 0 0] 26] [ko cs,arrI encB 1 a l]:=by (have h:=hs228; rw [List.drop_of_length_le (by rw [cmp_len]; exact Nat.le_refl _),List.append_nil] at h; exact h)
         have hnc:=hs271.newB 2 rfl; have hqc:=j5 (hs271.get 2 rfl)
         have hnl:=hs271.newB 1 rfl; have hql:=j5 (hs271.get 1 rfl)
         have hns:=hs271.newB 0 rfl; have hqs:=j5 (hs271.get 0 rfl)
         have hB:=fun st hp fu=>get_B (st:=st) (hp:=hp) (fu:=fu) hi2 hi4 hqc hql hqs
         have hNew:=fun st hp fu=>get_news (cs:=cs) (c5:=c5) (c6:=c6) (c7:=c7) (st:=st) (hp:=hp) (fu:=fu) (ls:=(itL l (gs8 l) (gL l)).1) (ss:=(itS l (gs9 l) (gS l)).1) hi5 hnc hnl hns
         have hs272:=hs271.ownArr 0 (enc:=zw) (l:=(itS l (gs9 l) (gS l)).1) rfl (fun _=>rfl) (by decide)
         have hs273:=hs272.ownArr 0 (enc:=z1) (l:=(itL l (gs8 l) (gL l)).1) rfl (fun _=>rfl) (by decide)
         have hs274:=hs273.ownArr 0 (enc:=zu) (l:=cs) rfl (fun _=>rfl) (by decide)
         have hs275:=hs274.subR (R':=kh (⟨decide (zm l = 1),kp l,kq l,a5,c5,cs,a6,c6,(itL l (gs8 l) (gL l)).1,a7,c7,(itS l (gs9 l) (gS l)).1⟩ : ImageV)) (get_mem _)
         have hcan : ImageV.canon (⟨decide (zm l = 1),kp l,kq l,a5,c5,cs,a6,c6,(itL l (gs8 l) (gL l)).1,a7,c7,(itS l (gs9 l) (gS l)).1⟩ : ImageV) = gImg l:=by simp only [ImageV.canon,gImg,hi3]
         obtain ⟨aq,cq,hq⟩:=rdr_cell (hs275.get 3 rfl)
         refine W_cut (fun f_ w_=>∃ q : Bool,(q = ((gs11 l).bad || (decide ((gs11 l).off < l.length) || (!decide (xj l = [83,90]) || (decide (1 < zm l) || !jo (gImg l)))))) ∧ f_ 2 = .pointer (some ⟨b1,0,none⟩) ∧ f_ 7 = .pointer (some ⟨b42,0,none⟩) ∧ f_ 106 = .bool q ∧ St w (fun _=>False) w_ [ownI 3 1 (some ⟨b75,0,none⟩) (gC l) (gC l) ((gSz l).flatMap encI),blk b42 [.bool (decide ((zm l) = 1)),vI (kp l),vI (kq l),.slice a5 (gC l) c5,.slice a6 (gL l) c6,.slice a7 (gS l) c7] 26,blk b9 [.pointer (some ⟨b5,0,none⟩)] 64,rdrI a l b5 62 (gs11 l),blk b1 [.bool false,vI 0,vI 0,.slice none 0 0,.slice none 0 0,.slice none 0 0] 26] [arrI zu 2 a5 cs,arrI z1 3 a6 ((itL l (gs8 l) (gL l)).1),arrI zw 2 a7 ((itS l (gs9 l) (gS l)).1),ko cs]) ?_ ?_
         ·refine qi (qc ?_)
          refine qa rfl (qg rfl fd64_0 rfl (o':=0) rfl rfl ?_)
          refine qa rfl (qq (v:=.pointer (some ⟨b5,0,none⟩)) rfl ag60 (qh (hs275.get 2 rfl) rfl) rfl ?_)
          refine qa rfl (O_nilCheck rfl rfl ?_)
          refine qa rfl (qg rfl fd62_1 rfl (o':=1) rfl rfl ?_)
          refine qa rfl (qq (v:=.bool ((gs11 l).bad)) rfl ag4 (qh hq rfl) rfl ?_)
          refine qa rfl (qf (v:=.bool ((gs11 l).bad)) rfl rfl ?_)
          refine ql (qb ?_)
          refine k5 (t:=((gs11 l).bad)) rfl (fun hc276=>?_) (fun hc276=>?_)
          ·try simp only [Bool.and_eq_true,Bool.or_eq_true,Bool.not_eq_true',Bool.and_eq_false_iff,Bool.or_eq_false_iff,Bool.not_eq_false',decide_eq_true_eq,decide_eq_false_iff_not,Bool.and_eq_false_imp] at hc276
           refine zn (qb ?_)
           exact ⟨((gs11 l).bad),get_q1 hc276,rfl,rfl,rfl,hs275⟩
          ·try simp only [Bool.and_eq_true,Bool.or_eq_true,Bool.not_eq_true',Bool.and_eq_false_iff,Bool.or_eq_false_iff,Bool.not_eq_false',decide_eq_true_eq,decide_eq_false_iff_not,Bool.and_eq_false_imp] at hc276
           refine qi (qc ?_)
           refine qa rfl (qg rfl fd64_0 rfl (o':=0) rfl rfl ?_)
           refine qa rfl (qq (v:=.pointer (some ⟨b5,0,none⟩)) rfl ag60 (qh (hs275.get 2 rfl) rfl) rfl ?_)
           refine qa rfl (O_nilCheck rfl rfl ?_)
           refine qa rfl (qg rfl fd62_0 rfl (o':=0) rfl rfl ?_)
           refine qa rfl (qq (v:=.slice aq (l.length - (gs11 l).off) cq) rfl ag27 (qh hq rfl) rfl ?_)
           refine qa rfl (qx (len:=(l.length - (gs11 l).off)) rfl un27 rfl ?_)
           refine qa rfl (qt (k:=.i64) (k':=.i64) (a:=(((l.length - (gs11 l).off) : Nat) : Int)) (b:=0) rfl rfl rfl b_gtr ?_)
           refine qa rfl (qf (v:=.bool (decide (0 < (((l.length - (gs11 l).off) : Nat) : Int)))) rfl rfl ?_)
           refine ql (qb ?_)
           refine zd rfl (fun hc277=>?_) (fun hc277=>?_)
           ·refine zn (qb ?_)
            exact ⟨(decide (0 < (((l.length - (gs11 l).off) : Nat) : Int))),get_q2 hc276 hc277,rfl,rfl,rfl,hs275⟩
           ·refine qi (qc ?_)
            refine qa rfl (qj (v:=.string ⟨(xj l).toArray⟩) rfl rfl ?_)
            refine qa rfl (O_binv (a:=.string ⟨(xj l).toArray⟩) (b:=.string (⟨#[83,90]⟩)) rfl rfl rfl eg_string b_neq_string ?_)
            refine qa rfl (qf (v:=.bool (!decide ((⟨(xj l).toArray⟩ : ByteArray).toList = (⟨#[83,90]⟩ : ByteArray).toList))) rfl rfl ?_)
            refine ql (qb ?_)
            refine k5 (t:=(!decide ((⟨(xj l).toArray⟩ : ByteArray).toList = (⟨#[83,90]⟩ : ByteArray).toList))) rfl (fun hc278=>?_) (fun hc278=>?_)
            ·try simp only [Bool.and_eq_true,Bool.or_eq_true,Bool.not_eq_true',Bool.and_eq_false_iff,Bool.or_eq_false_iff,Bool.not_eq_false',decide_eq_true_eq,decide_eq_false_iff_not,Bool.and_eq_false_imp] at hc278
             refine zn (qb ?_)
             exact ⟨(!decide ((⟨(xj l).toArray⟩ : ByteArray).toList = (⟨#[83,90]⟩ : ByteArray).toList)),get_q3 hc276 hc277 (by simpa using hc278) (get_nm l),rfl,rfl,rfl,hs275⟩
            ·try simp only [Bool.and_eq_true,Bool.or_eq_true,Bool.not_eq_true',Bool.and_eq_false_iff,Bool.or_eq_false_iff,Bool.not_eq_false',decide_eq_true_eq,decide_eq_false_iff_not,Bool.and_eq_false_imp] at hc278
             refine qi (qc ?_)
             refine qa rfl (qj (v:=vI (zm l)) rfl rfl ?_)
             refine qa rfl (qt (k:=.i64) (k':=.i64) (a:=(zm l)) (b:=1) rfl rfl rfl b_gtr ?_)
             refine qa rfl (qf (v:=.bool (decide (1 < (zm l)))) rfl rfl ?_)
             refine ql (qb ?_)
             refine zd rfl (fun hc279=>?_) (fun hc279=>?_)
             ·refine zn (qb ?_)
              exact ⟨(decide (1 < (zm l))),get_q4 hc276 hc277 (by simpa using hc278) (get_nm l) hc279,rfl,rfl,rfl,hs275⟩
             ·refine qc ?_
              refine qa rfl (qw (vs:=[.bool (decide ((zm l) = 1)),vI (kp l),vI (kq l),.slice a5 (gC l) c5,.slice a6 (gL l) c6,.slice a7 (gS l) c7]) rfl ag26 sz26 (Rd.of_blk (hs275.get 1 rfl) 0 6) rfl rfl ?_)
              refine qa rfl (zi (args:=[.agg #[.bool (decide ((zm l) = 1)),vI (kp l),vI (kq l),.slice a5 (gC l) c5,.slice a6 (gL l) c6,.slice a7 (gS l) c7]]) rfl rfl rfl en34 (form_at (⟨decide (zm l = 1),kp l,kq l,a5,c5,cs,a6,c6,(itL l (gs8 l) (gL l)).1,a7,c7,(itS l (gs9 l) (gS l)).1⟩ : ImageV) hi2 (itL_len _ _ _) (itS_len _ _ _) _ (hs275.r) (hB _ _ _ hc276)) ?_)
              rintro _ w280 ⟨rfl,hk282⟩
              have hs281:=hs275.keep hk282
              refine qa rfl (j0 (b:=(jo (⟨decide (zm l = 1),kp l,kq l,a5,c5,cs,a6,c6,(itL l (gs8 l) (gL l)).1,a7,c7,(itS l (gs9 l) (gS l)).1⟩ : ImageV))) rfl rfl ?_)
              refine qa rfl (qf (v:=.bool (!(jo (⟨decide (zm l = 1),kp l,kq l,a5,c5,cs,a6,c6,(itL l (gs8 l) (gL l)).1,a7,c7,(itS l (gs9 l) (gS l)).1⟩ : ImageV)))) rfl rfl ?_)
              refine ql (qb ?_)
              exact ⟨(!(jo (⟨decide (zm l = 1),kp l,kq l,a5,c5,cs,a6,c6,(itL l (gs8 l) (gL l)).1,a7,c7,(itS l (gs9 l) (gS l)).1⟩ : ImageV))),get_q5 hc276 hc277 (by simpa using hc278) (get_nm l) hc279 (congrArg Bool.not ((formS_canon _).symm.trans (congrArg jo hcan))),rfl,rfl,rfl,hs281⟩
         ·intro f283 w284; rintro ⟨q,hq0,e286,e287,e288,hs285⟩
          rewrite [qm e286]
          rewrite [qm e287]
          rewrite [qm e288]
          refine k5 (t:=q) rfl (fun hc289=>?_) (fun hc289=>?_)
          ·try simp only [Bool.and_eq_true,Bool.or_eq_true,Bool.not_eq_true',Bool.and_eq_false_iff,Bool.or_eq_false_iff,Bool.not_eq_false',decide_eq_true_eq,decide_eq_false_iff_not,Bool.and_eq_false_imp] at hc289
           refine qi (qc ?_)
           refine qa rfl (jl (ps:=[]) (cells:=[.bool false,vI 0,vI 0,.slice none 0 0,.slice none 0 0,.slice none 0 0]) bt26 rfl rfl rfl ?_)
           refine qa rfl (zx (v:=.agg #[.bool false,vI 0,vI 0,.slice none 0 0,.slice none 0 0,.slice none 0 0]) (vs:=[.bool false,vI 0,vI 0,.slice none 0 0,.slice none 0 0,.slice none 0 0]) (cs':=[.bool false,vI 0,vI 0,.slice none 0 0,.slice none 0 0,.slice none 0 0]) hs285 4 rfl rfl rfl sz26 rfl rfl rfl rfl rfl ?_)
           intro w290 hs291
           refine qa rfl (qf (v:=vI 1) rfl rfl ?_)
           refine ql (qb (zo (zk (q9 ?_))))
           refine ⟨.tuple #[.agg #[.bool false,vI 0,vI 0,.slice none 0 0,.slice none 0 0,.slice none 0 0],vI 1],resn [.agg #[.bool false,vI 0,vI 0,.slice none 0 0,.slice none 0 0,.slice none 0 0],vI 1] ⟨(xc rfl ag26 sz26 (vs:=[.bool false,vI 0,vI 0,.slice none 0 0,.slice none 0 0,.slice none 0 0]) (Rd.of_blk (hs291.get 4 rfl) 0 6) rfl),(rv_tmp rfl),trivial⟩ rfl,?_⟩
           exact ⟨⟨ya,1,rfl,noImg_ok,noImg_new,noImg_B,get_r1 (hq0.symm.trans hc289),get_r1e (hq0.symm.trans hc289)⟩,hs291.base⟩
          ·try simp only [Bool.and_eq_true,Bool.or_eq_true,Bool.not_eq_true',Bool.and_eq_false_iff,Bool.or_eq_false_iff,Bool.not_eq_false',decide_eq_true_eq,decide_eq_false_iff_not,Bool.and_eq_false_imp] at hc289
           refine qi (qc ?_)
           refine qa rfl (qw (vs:=[.bool (decide ((zm l) = 1)),vI (kp l),vI (kq l),.slice a5 (gC l) c5,.slice a6 (gL l) c6,.slice a7 (gS l) c7]) rfl ag26 sz26 (Rd.of_blk (hs285.get 1 rfl) 0 6) rfl rfl ?_)
           refine qa rfl (zi (args:=[.agg #[.bool (decide ((zm l) = 1)),vI (kp l),vI (kq l),.slice a5 (gC l) c5,.slice a6 (gL l) c6,.slice a7 (gS l) c7]]) rfl rfl rfl en14 (iright_at (⟨decide (zm l = 1),kp l,kq l,a5,c5,cs,a6,c6,(itL l (gs8 l) (gL l)).1,a7,c7,(itS l (gs9 l) (gS l)).1⟩ : ImageV) hi2 (itL_len _ _ _) (itS_len _ _ _) _ (hs285.r) (hB _ _ _ (get_nb hq0 hc289))) ?_)
           rintro _ w292 ⟨rfl,hk294⟩
           have hs293:=hs285.keep hk294
           refine qa rfl (j0 (b:=(z2 (⟨decide (zm l = 1),kp l,kq l,a5,c5,cs,a6,c6,(itL l (gs8 l) (gL l)).1,a7,c7,(itS l (gs9 l) (gS l)).1⟩ : ImageV))) rfl rfl ?_)
           refine qa rfl (qf (v:=.bool (!(z2 (⟨decide (zm l = 1),kp l,kq l,a5,c5,cs,a6,c6,(itL l (gs8 l) (gL l)).1,a7,c7,(itS l (gs9 l) (gS l)).1⟩ : ImageV)))) rfl rfl ?_)
           refine ql (qb ?_)
           refine k5 (t:=(!(z2 (⟨decide (zm l = 1),kp l,kq l,a5,c5,cs,a6,c6,(itL l (gs8 l) (gL l)).1,a7,c7,(itS l (gs9 l) (gS l)).1⟩ : ImageV)))) rfl (fun hc295=>?_) (fun hc295=>?_)
           ·try simp only [Bool.and_eq_true,Bool.or_eq_true,Bool.not_eq_true',Bool.and_eq_false_iff,Bool.or_eq_false_iff,Bool.not_eq_false',decide_eq_true_eq,decide_eq_false_iff_not,Bool.and_eq_false_imp] at hc295
            refine qi (qc ?_)
            refine qa rfl (jl (ps:=[]) (cells:=[.bool false,vI 0,vI 0,.slice none 0 0,.slice none 0 0,.slice none 0 0]) bt26 rfl rfl rfl ?_)
            refine qa rfl (zx (v:=.agg #[.bool false,vI 0,vI 0,.slice none 0 0,.slice none 0 0,.slice none 0 0]) (vs:=[.bool false,vI 0,vI 0,.slice none 0 0,.slice none 0 0,.slice none 0 0]) (cs':=[.bool false,vI 0,vI 0,.slice none 0 0,.slice none 0 0,.slice none 0 0]) hs293 4 rfl rfl rfl sz26 rfl rfl rfl rfl rfl ?_)
            intro w296 hs297
            refine qa rfl (qf (v:=vI 151) rfl rfl ?_)
            refine ql (qb (zo (zk (q9 ?_))))
            refine ⟨.tuple #[.agg #[.bool false,vI 0,vI 0,.slice none 0 0,.slice none 0 0,.slice none 0 0],vI 151],resn [.agg #[.bool false,vI 0,vI 0,.slice none 0 0,.slice none 0 0,.slice none 0 0],vI 151] ⟨(xc rfl ag26 sz26 (vs:=[.bool false,vI 0,vI 0,.slice none 0 0,.slice none 0 0,.slice none 0 0]) (Rd.of_blk (hs297.get 4 rfl) 0 6) rfl),(rv_tmp rfl),trivial⟩ rfl,?_⟩
            have hrr : z2 (gImg l) = false:=by rw [← hcan,x3]; exact hc295
            exact ⟨⟨ya,151,rfl,noImg_ok,noImg_new,noImg_B,get_r2 (hq0.symm.trans hc289) hrr,get_r2e (hq0.symm.trans hc289) hrr⟩,hs297.base⟩
           ·try simp only [Bool.and_eq_true,Bool.or_eq_true,Bool.not_eq_true',Bool.and_eq_false_iff,Bool.or_eq_false_iff,Bool.not_eq_false',decide_eq_true_eq,decide_eq_false_iff_not,Bool.and_eq_false_imp] at hc295
            refine zn (z7 (qb (qi (qc ?_))))
            refine qa rfl (qw (vs:=[.bool (decide ((zm l) = 1)),vI (kp l),vI (kq l),.slice a5 (gC l) c5,.slice a6 (gL l) c6,.slice a7 (gS l) c7]) rfl ag26 sz26 (Rd.of_blk (hs293.get 1 rfl) 0 6) rfl rfl ?_)
            refine qa rfl (zx (v:=.agg #[.bool (decide ((zm l) = 1)),vI (kp l),vI (kq l),.slice a5 (gC l) c5,.slice a6 (gL l) c6,.slice a7 (gS l) c7]) (vs:=[.bool (decide ((zm l) = 1)),vI (kp l),vI (kq l),.slice a5 (gC l) c5,.slice a6 (gL l) c6,.slice a7 (gS l) c7]) (cs':=[.bool (decide ((zm l) = 1)),vI (kp l),vI (kq l),.slice a5 (gC l) c5,.slice a6 (gL l) c6,.slice a7 (gS l) c7]) hs293 4 rfl rfl rfl sz26 rfl rfl rfl rfl rfl ?_)
            intro w298 hs299
            refine qa rfl (qf (v:=vI 0) rfl rfl ?_)
            refine ql (qb (zo ?_))
            refine ⟨.tuple #[.agg #[.bool (decide ((zm l) = 1)),vI (kp l),vI (kq l),.slice a5 (gC l) c5,.slice a6 (gL l) c6,.slice a7 (gS l) c7],vI 0],resn [.agg #[.bool (decide ((zm l) = 1)),vI (kp l),vI (kq l),.slice a5 (gC l) c5,.slice a6 (gL l) c6,.slice a7 (gS l) c7],vI 0] ⟨(xc rfl ag26 sz26 (vs:=[.bool (decide ((zm l) = 1)),vI (kp l),vI (kq l),.slice a5 (gC l) c5,.slice a6 (gL l) c6,.slice a7 (gS l) c7]) (Rd.of_blk (hs299.get 4 rfl) 0 6) rfl),(rv_tmp rfl),trivial⟩ rfl,?_⟩
            have hrr : z2 (gImg l) = true:=by rw [← hcan,x3]; exact hc295
            exact ⟨⟨(⟨decide (zm l = 1),kp l,kq l,a5,c5,cs,a6,c6,(itL l (gs8 l) (gL l)).1,a7,c7,(itS l (gs9 l) (gS l)).1⟩ : ImageV),0,by simp only [qn,hi2,itL_len,itS_len],hs299.r,hNew _ _ _,hB _ _ _ (get_nb hq0 hc289),hcan.trans (get_r3 (hq0.symm.trans hc289) hrr),get_r3e (hq0.symm.trans hc289) hrr⟩,hs299.base⟩


end Go.Proofs.Ytgddigkdldnmdaa
