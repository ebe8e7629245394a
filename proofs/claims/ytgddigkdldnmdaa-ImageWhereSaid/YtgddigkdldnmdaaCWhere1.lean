import Derived.Test.YtgddigkdldnmdaaTy
import Derived.Test.YtgddigkdldnmdaaV9
import Derived.Test.YtgddigkdldnmdaaImgH
import Derived.Test.YtgddigkdldnmdaaV10
import Derived.Test.YtgddigkdldnmdaaImgI
import Derived.Test.YtgddigkdldnmdaaV11
import Derived.Test.YtgddigkdldnmdaaImgJ
import Derived.Test.YtgddigkdldnmdaaImgK
import Derived.Test.YtgddigkdldnmdaaImgM
import Derived.Test.YtgddigkdldnmdaaV12
namespace Go.Proofs.Ytgddigkdldnmdaa
open Go Go.Vg Go.Img
set_option linter.unusedSimpArgs false
set_option maxHeartbeats 4000000


theorem not_mem_take_succ {α : Type} {x : α} {l : List α} {k : Nat} (h : x ∉ l.take k) (hk : k < l.length) (hx : ¬ x = l[k]) : x ∉ l.take (k + 1):=by
 rw [List.take_succ_eq_append_getElem hk,List.mem_append,List.mem_singleton]
 exact fun e=>e.elim h hx
theorem contains_of_iff {α : Type} [BEq α] [LawfulBEq α] {l : List α} {x : α} {i : Int} (h : 0 ≤ i ↔ x ∈ l) : decide (0 ≤ i) = l.contains x:=by
 rw [Bool.eq_iff_iff]; simp [h]
theorem not_contains_false (l : List Bool) : (!l.contains false) = l.all id:=by
 induction l with
|nil=>rfl
|cons b l ih=>cases b <;> simp_all

/-- seizin/image.within -/
theorem yn (n a b : Int) (w : World)  :
  C Try.prog 50 [vI n,vI a,vI b] w fun v w'=>v = .bool (qd n a b) ∧ Grow w w':=by
 have hs0 : St w (fun _=>False) w [] []:=St.start w _ (by simp)
 refine z8 [.tmp 6] 15 Try.func50 rfl Try.ntmps50 rfl rfl ?_
 refine qi (qc ?_)
 refine qa rfl (qf (v:=.bool false) rfl rfl ?_)
 refine ql (qb (qi (qc ?_)))
 refine qa rfl (qj (v:=vI n) rfl rfl ?_)
 refine qa rfl (qj (v:=vI a) rfl rfl ?_)
 refine qa rfl (qt (k:=.i64) (k':=.i64) (a:=n) (b:=a) rfl rfl rfl b_geq ?_)
 refine qa rfl (qj (v:=.bool (decide (a ≤ n))) rfl rfl ?_)
 refine kn (v:=vI n) rfl rfl rfl rfl (fun hg1=>qj (v:=vI n) rfl rfl ⟨rfl,rfl⟩) ?_
 refine kn (v:=vI b) rfl rfl rfl rfl (fun hg2=>qj (v:=vI b) rfl rfl ⟨rfl,rfl⟩) ?_
 refine kn (v:=.bool (decide (n ≤ b))) rfl rfl rfl rfl (fun hg3=>qt (k:=.i64) (k':=.i64) (a:=n) (b:=b) (show ev _ _ = vI n from if_pos hg3) (show ev _ _ = vI b from if_pos hg3) rfl b_leq ⟨rfl,rfl⟩) ?_
 refine qa rfl (ka rfl (j1 _ _) rfl ?_)
 refine qa rfl (qf (v:=.bool (decide (a ≤ n) && decide (n ≤ b))) rfl rfl ?_)
 refine ql (qb (zo ?_))
 refine ⟨.bool (decide (a ≤ n) && decide (n ≤ b)),res1 rfl,?_⟩
 exact ⟨rfl,hs0.base⟩

/-- slices.Index[[]bool,bool] -/
theorem index_bool (a : Option Addr) (cap : Nat) (l : List Bool) (x : Bool) (w : World) (h : (arrI encBool 1 a l).φ w) (hl : l.length ≤ 20000) :
  C Try.prog 79 [.slice a l.length cap,.bool x] w fun v w'=>(∃ i : Int,v = vI i ∧ (0 ≤ i ↔ x ∈ l)) ∧ Grow w w':=by
 have hs0 : St w (fun _=>False) w [] [arrI encBool 1 a l]:=St.start w _ (by simpa using h)
 refine z8 [.tmp 4] 19 Try.func79 rfl Try.ntmps79 rfl rfl ?_
 refine qi (qc ?_)
 refine qa rfl (qf (v:=vI 0) rfl rfl ?_)
 refine ql (qb (qi (qi (qc ?_))))
 refine qa rfl (qj (v:=.slice a l.length cap) rfl rfl ?_)
 refine qa rfl (qx (len:=l.length) rfl un102 rfl ?_)
 refine qa rfl (qj (v:=vI 0) rfl rfl ?_)
 refine ql (qb (zy ?_))
 refine kw (fun m_ f_ w_=>∃ k : Nat,m_ = l.length - k ∧ (k ≤ l.length) ∧ (x ∉ l.take k) ∧ f_ 0 = .slice a l.length cap ∧ f_ 1 = .bool x ∧ f_ 7 = vI ((l.length : Nat) : Int) ∧ f_ 8 = vI ((k : Nat) : Int) ∧ St w (fun _=>False) w_ [] [arrI encBool 1 a l]) ?_ ?_
 ·exact ⟨_,0,rfl,Nat.zero_le _,by simp,rfl,rfl,rfl,rfl,hs0⟩
 ·intro m4 f1 w2; rintro ⟨k,rfl,hl1,hl2,e5,e6,e7,e8,hs3⟩
  rewrite [qm e5]
  rewrite [qm e6]
  rewrite [qm e7]
  rewrite [qm e8]
  refine qi (qc ?_)
  refine qa rfl (qt (k:=.i64) (k':=.i64) (a:=((k : Nat) : Int)) (b:=((l.length : Nat) : Int)) rfl rfl rfl jg ?_)
  refine ql (qb (qi ?_))
  refine zd rfl (fun hc9=>?_) (fun hc9=>?_)
  ·refine zn (qb (qi (zy (qi (qc ?_)))))
   refine qa rfl (qj (v:=vI ((k : Nat) : Int)) rfl rfl ?_)
   refine qa rfl (qf (v:=vI ((k : Nat) : Int)) rfl rfl ?_)
   refine ql (qb (qi (qc ?_)))
   refine qa rfl (qj (v:=.bool x) rfl rfl ?_)
   refine qa rfl (qj (v:=.slice a l.length cap) rfl rfl ?_)
   refine qa rfl (qj (v:=vI ((k : Nat) : Int)) rfl rfl ?_)
   obtain ⟨b10,o11,ha12,hs13⟩:=hs3.elem 0 rfl k (by omega)
   refine qa rfl (qs rfl ha12 rfl un102 sz4 (by omega) (by omega) (o':=o11 + k * 1) (by omega) rfl ?_)
   refine qa rfl (qq (v:=.bool (l[k]'(by omega))) rfl ag4 ((hs13.getR 0 rfl).2 0 _ rfl) rfl ?_)
   refine qa rfl (O_binv (a:=.bool x) (b:=.bool (l[k]'(by omega))) rfl rfl rfl eg_bool (b_eql_bool un4) ?_)
   refine ql (qb ?_)
   refine zd rfl (fun hc14=>?_) (fun hc14=>?_)
   ·refine qi (qc ?_)
    refine qa rfl (qj (v:=vI ((k : Nat) : Int)) rfl rfl ?_)
    refine qa rfl (qf (v:=vI ((k : Nat) : Int)) rfl rfl ?_)
    refine ql (qb (zo (zk (q9 (q9 (zk (q9 ?_)))))))
    refine ⟨vI ((k : Nat) : Int),res1 rfl,?_⟩
    exact ⟨⟨(k : Int),rfl,by simp only [Int.natCast_nonneg,true_iff]; rw [‹x = _›]; exact List.getElem_mem _⟩,hs13.base⟩
   ·refine zn (z7 (qb (qc ?_)))
    refine qa rfl (qt (v:=vI ((k + 1 : Nat) : Int)) rfl rfl rfl (ki (qz (by omega) (by omega))) ?_)
    refine qa rfl (qj (v:=vI ((k + 1 : Nat) : Int)) rfl rfl ?_)
    refine ql (qb ?_)
    refine ⟨_,?_,k + 1,rfl,by omega,(not_mem_take_succ hl2 (by omega) (by assumption)),rfl,rfl,rfl,rfl,hs13.popR⟩
    omega
  ·refine ja (z0 (z0 (ke (qb (qi (qc ?_))))))
   refine qa rfl (qf (v:=vI (-1)) rfl rfl ?_)
   refine ql (qb (zo ?_))
   refine ⟨vI (-1),res1 rfl,?_⟩
   exact ⟨⟨-1,rfl,by rw [List.take_of_length_le (by omega)] at hl2; simpa using hl2⟩,hs3.base⟩

/-- slices.Contains[[]bool,bool] -/
theorem contains_bool (a : Option Addr) (cap : Nat) (l : List Bool) (x : Bool) (w : World) (h : (arrI encBool 1 a l).φ w) (hl : l.length ≤ 20000) :
  C Try.prog 67 [.slice a l.length cap,.bool x] w fun v w'=>v = .bool (l.contains x) ∧ Grow w w':=by
 have hs0 : St w (fun _=>False) w [] [arrI encBool 1 a l]:=St.start w _ (by simpa using h)
 refine z8 [.tmp 4] 9 Try.func67 rfl Try.ntmps67 rfl rfl ?_
 refine qi (qc ?_)
 refine qa rfl (qf (v:=.bool false) rfl rfl ?_)
 refine ql (qb (qi (qc ?_)))
 refine qa rfl (qj (v:=.slice a l.length cap) rfl rfl ?_)
 refine qa rfl (qj (v:=.bool x) rfl rfl ?_)
 refine qa rfl (zi (args:=[.slice a l.length cap,.bool x]) rfl rfl rfl en79 (index_bool a cap l x _ (hs0.getR 0 rfl) hl) ?_)
 rintro _ w1 ⟨⟨i4,rfl,hi5⟩,hk3⟩
 have hs2:=hs0.keep hk3
 refine qa rfl (qt (k:=.i64) (k':=.i64) (a:=i4) (b:=0) rfl rfl rfl b_geq ?_)
 refine qa rfl (qf (v:=.bool (decide (0 ≤ i4))) rfl rfl ?_)
 refine ql (qb (zo ?_))
 refine ⟨.bool (decide (0 ≤ i4)),res1 rfl,?_⟩
 exact ⟨congrArg Value.bool (contains_of_iff ‹_›),hs2.base⟩

/-- slices.Index[[]int,int] -/
theorem index_int (a : Option Addr) (cap : Nat) (l : List Int) (x : Int) (w : World) (h : (arrI encI 1 a l).φ w) (hl : l.length ≤ 20000) :
  C Try.prog 90 [.slice a l.length cap,vI x] w fun v w'=>(∃ i : Int,v = vI i ∧ (0 ≤ i ↔ x ∈ l)) ∧ Grow w w':=by
 have hs0 : St w (fun _=>False) w [] [arrI encI 1 a l]:=St.start w _ (by simpa using h)
 refine z8 [.tmp 4] 19 Try.func90 rfl Try.ntmps90 rfl rfl ?_
 refine qi (qc ?_)
 refine qa rfl (qf (v:=vI 0) rfl rfl ?_)
 refine ql (qb (qi (qi (qc ?_))))
 refine qa rfl (qj (v:=.slice a l.length cap) rfl rfl ?_)
 refine qa rfl (qx (len:=l.length) rfl un43 rfl ?_)
 refine qa rfl (qj (v:=vI 0) rfl rfl ?_)
 refine ql (qb (zy ?_))
 refine kw (fun m_ f_ w_=>∃ k : Nat,m_ = l.length - k ∧ (k ≤ l.length) ∧ (x ∉ l.take k) ∧ f_ 0 = .slice a l.length cap ∧ f_ 1 = vI x ∧ f_ 7 = vI ((l.length : Nat) : Int) ∧ f_ 8 = vI ((k : Nat) : Int) ∧ St w (fun _=>False) w_ [] [arrI encI 1 a l]) ?_ ?_
 ·exact ⟨_,0,rfl,Nat.zero_le _,by simp,rfl,rfl,rfl,rfl,hs0⟩
 ·intro m4 f1 w2; rintro ⟨k,rfl,hl1,hl2,e5,e6,e7,e8,hs3⟩
  rewrite [qm e5]
  rewrite [qm e6]
  rewrite [qm e7]
  rewrite [qm e8]
  refine qi (qc ?_)
  refine qa rfl (qt (k:=.i64) (k':=.i64) (a:=((k : Nat) : Int)) (b:=((l.length : Nat) : Int)) rfl rfl rfl jg ?_)
  refine ql (qb (qi ?_))
  refine zd rfl (fun hc9=>?_) (fun hc9=>?_)
  ·refine zn (qb (qi (zy (qi (qc ?_)))))
   refine qa rfl (qj (v:=vI ((k : Nat) : Int)) rfl rfl ?_)
   refine qa rfl (qf (v:=vI ((k : Nat) : Int)) rfl rfl ?_)
   refine ql (qb (qi (qc ?_)))
   refine qa rfl (qj (v:=vI x) rfl rfl ?_)
   refine qa rfl (qj (v:=.slice a l.length cap) rfl rfl ?_)
   refine qa rfl (qj (v:=vI ((k : Nat) : Int)) rfl rfl ?_)
   obtain ⟨b10,o11,ha12,hs13⟩:=hs3.elem 0 rfl k (by omega)
   refine qa rfl (qs rfl ha12 rfl un43 sz3 (by omega) (by omega) (o':=o11 + k * 1) (by omega) rfl ?_)
   refine qa rfl (qq (v:=vI (l[k]'(by omega))) rfl ag3 ((hs13.getR 0 rfl).2 0 _ rfl) rfl ?_)
   refine qa rfl (qt (k:=.i64) (k':=.i64) (a:=x) (b:=(l[k]'(by omega))) rfl rfl rfl k8 ?_)
   refine ql (qb ?_)
   refine zd rfl (fun hc14=>?_) (fun hc14=>?_)
   ·refine qi (qc ?_)
    refine qa rfl (qj (v:=vI ((k : Nat) : Int)) rfl rfl ?_)
    refine qa rfl (qf (v:=vI ((k : Nat) : Int)) rfl rfl ?_)
    refine ql (qb (zo (zk (q9 (q9 (zk (q9 ?_)))))))
    refine ⟨vI ((k : Nat) : Int),res1 rfl,?_⟩
    exact ⟨⟨(k : Int),rfl,by simp only [Int.natCast_nonneg,true_iff]; rw [‹x = _›]; exact List.getElem_mem _⟩,hs13.base⟩
   ·refine zn (z7 (qb (qc ?_)))
    refine qa rfl (qt (v:=vI ((k + 1 : Nat) : Int)) rfl rfl rfl (ki (qz (by omega) (by omega))) ?_)
    refine qa rfl (qj (v:=vI ((k + 1 : Nat) : Int)) rfl rfl ?_)
    refine ql (qb ?_)
    refine ⟨_,?_,k + 1,rfl,by omega,(not_mem_take_succ hl2 (by omega) (by assumption)),rfl,rfl,rfl,rfl,hs13.popR⟩
    omega
  ·refine ja (z0 (z0 (ke (qb (qi (qc ?_))))))
   refine qa rfl (qf (v:=vI (-1)) rfl rfl ?_)
   refine ql (qb (zo ?_))
   refine ⟨vI (-1),res1 rfl,?_⟩
   exact ⟨⟨-1,rfl,by rw [List.take_of_length_le (by omega)] at hl2; simpa using hl2⟩,hs3.base⟩

/-- slices.Contains[[]int,int] -/
theorem contains_int (a : Option Addr) (cap : Nat) (l : List Int) (x : Int) (w : World) (h : (arrI encI 1 a l).φ w) (hl : l.length ≤ 20000) :
  C Try.prog 89 [.slice a l.length cap,vI x] w fun v w'=>v = .bool (l.contains x) ∧ Grow w w':=by
 have hs0 : St w (fun _=>False) w [] [arrI encI 1 a l]:=St.start w _ (by simpa using h)
 refine z8 [.tmp 4] 9 Try.func89 rfl Try.ntmps89 rfl rfl ?_
 refine qi (qc ?_)
 refine qa rfl (qf (v:=.bool false) rfl rfl ?_)
 refine ql (qb (qi (qc ?_)))
 refine qa rfl (qj (v:=.slice a l.length cap) rfl rfl ?_)
 refine qa rfl (qj (v:=vI x) rfl rfl ?_)
 refine qa rfl (zi (args:=[.slice a l.length cap,vI x]) rfl rfl rfl en90 (index_int a cap l x _ (hs0.getR 0 rfl) hl) ?_)
 rintro _ w1 ⟨⟨i4,rfl,hi5⟩,hk3⟩
 have hs2:=hs0.keep hk3
 refine qa rfl (qt (k:=.i64) (k':=.i64) (a:=i4) (b:=0) rfl rfl rfl b_geq ?_)
 refine qa rfl (qf (v:=.bool (decide (0 ≤ i4))) rfl rfl ?_)
 refine ql (qb (zo ?_))
 refine ⟨.bool (decide (0 ≤ i4)),res1 rfl,?_⟩
 exact ⟨congrArg Value.bool (contains_of_iff ‹_›),hs2.base⟩

/-- seizin/image.must -/
theorem must_c (a : Option Addr) (cap : Nat) (l : List Bool) (w : World) (h : (arrI encBool 1 a l).φ w) (hl : l.length ≤ 20000) :
  C Try.prog 49 [.slice a l.length cap] w fun v w'=>v = .bool (l.all id) ∧ Grow w w':=by
 have hs0 : St w (fun _=>False) w [] [arrI encBool 1 a l]:=St.start w _ (by simpa using h)
 refine z8 [.tmp 2] 6 Try.func49 rfl Try.ntmps49 rfl rfl ?_
 refine qi (qc ?_)
 refine qa rfl (qf (v:=.bool false) rfl rfl ?_)
 refine ql (qb (qi (qc ?_)))
 refine qa rfl (qj (v:=.slice a l.length cap) rfl rfl ?_)
 refine qa rfl (zi (args:=[.slice a l.length cap,.bool false]) rfl rfl rfl en67 (contains_bool a cap l false _ (hs0.getR 0 rfl) (by omega)) ?_)
 rintro _ w1 ⟨rfl,hk3⟩
 have hs2:=hs0.keep hk3
 refine qa rfl (j0 (b:=(l.contains false)) rfl rfl ?_)
 refine qa rfl (qf (v:=.bool (!(l.contains false))) rfl rfl ?_)
 refine ql (qb (zo ?_))
 refine ⟨.bool (!(l.contains false)),res1 rfl,?_⟩
 exact ⟨congrArg Value.bool (not_contains_false l),hs2.base⟩

/-- seizin/image.comp -/
theorem comp_c (c : CompV) (w : World) (hc : c.code.length ≤ 20000) :
  C Try.prog 51 [.agg #[.slice c.a c.code.length c.cap,vI c.data]] w fun v w'=>v = .bool (kf c) ∧ Grow w w':=by
 have hs0 : St w (fun _=>False) w [] []:=St.start w _ (by simp)
 refine z8 [.tmp 2] 17 Try.func51 rfl Try.ntmps51 rfl rfl ?_
 refine qi (qc ?_)
 refine qa rfl (jw (v:=.agg #[.slice c.a c.code.length c.cap,vI c.data]) (cs:=[.slice c.a c.code.length c.cap,vI c.data]) hs0 rfl rfl rfl ?_)
 intro b1 w2 hb4 hs3
 refine qa rfl (qf (v:=.bool false) rfl rfl ?_)
 refine ql (qb (qi (qc ?_)))
 refine qa rfl (qg rfl ym rfl (o':=0) rfl rfl ?_)
 refine qa rfl (qq (v:=.slice c.a c.code.length c.cap) rfl ag27 (qh (hs3.get 0 rfl) rfl) rfl ?_)
 refine qa rfl (qx (len:=c.code.length) rfl un27 rfl ?_)
 refine qa rfl (qf (v:=vI ((c.code.length : Nat) : Int)) rfl rfl ?_)
 refine ql (qb (qi ?_))
 refine jc js (show St _ _ _ [blk b1 [.slice c.a c.code.length c.cap,vI c.data] 53] _ from hs3) (fun i_=>match i_ with|8=>some ([15],fun vs_=>match vs_ with|[x15]=>blk (vblk x15) [.bool (qd ((c.code.length : Nat) : Int) 4 4096),.bool (decide ((((c.code.length : Nat) : Int) % 4) = 0)),.bool (qd c.data 1 8)] 4|_=>emp)|_=>none) (fun i_=>match i_ with|_=>[]) (fun i_=>match i_ with|6=>[11]|9=>[8]|_=>[]) (fun i_=>match i_ with|1=>[0]|3=>[2]|4=>[3]|6=>[5]|7=>[6]|8=>[1,4,7]|9=>[8]|10=>[9]|_=>[]) [8,11,0,1,2,3,4,5,6,7,9,10,12,13,14,15,16,17,18,19,20,21,22] [8,10] (fun i_ v_=>match i_ with|0=>v_ = vI ((c.code.length : Nat) : Int)|1=>v_ = .bool (qd ((c.code.length : Nat) : Int) 4 4096)|2=>v_ = vI ((c.code.length : Nat) : Int)|3=>v_ = vI (((c.code.length : Nat) : Int) % 4)|4=>v_ = .bool (decide ((((c.code.length : Nat) : Int) % 4) = 0))|5=>v_ = .pointer (some ⟨b1,1,none⟩)|6=>v_ = vI c.data|7=>v_ = .bool (qd c.data 1 8)|8=>∃ b11 : Nat,v_ = .slice (some ⟨b11,0,none⟩) 3 3|9=>v_ = .bool ((qd ((c.code.length : Nat) : Int) 4 4096) && ((decide ((((c.code.length : Nat) : Int) % 4) = 0)) && ((qd c.data 1 8) && true)))|10=>v_ = .bool ((qd ((c.code.length : Nat) : Int) 4 4096) && ((decide ((((c.code.length : Nat) : Int) % 4) = 0)) && ((qd c.data 1 8) && true)))|_=>True) (by kernel_rfl) (by kernel_rfl) ⟨?_,?_,?_,?_,?_,?_,?_,?_,?_,?_,?_,trivial⟩ ?_
 ·intro f0_ w0_ X0_ qp qo qu qk
  have hb3 : f0_ 3 = vI ((c.code.length : Nat) : Int):=(qp 3 rfl)
  refine qe rfl (qj (v:=vI ((c.code.length : Nat) : Int)) hb3 rfl ?_)
  exact ⟨vI ((c.code.length : Nat) : Int),rfl,rfl,qk⟩
 ·intro f1_ w1_ X1_ qp qo qu qk
  obtain ⟨hu0,-⟩:=qo
  have hu0 : f1_ 7 = vI ((c.code.length : Nat) : Int):=hu0
  refine qe rfl (zi (args:=[vI ((c.code.length : Nat) : Int),vI 4,vI 4096]) rfl (by simp only [List.map_cons,List.map_nil,List.nil_append,List.cons_append,List.append_nil,ev,Value.cells,hu0]) rfl en50 (yn ((c.code.length : Nat) : Int) 4 4096 _) ?_)
  rintro _ w5 ⟨rfl,hk7⟩
  have hs6:=qk.keep hk7
  exact ⟨.bool (qd ((c.code.length : Nat) : Int) 4 4096),rfl,rfl,hs6⟩
 ·intro f2_ w2_ X2_ qp qo qu qk
  have hb3 : f2_ 3 = vI ((c.code.length : Nat) : Int):=(qp 3 rfl)
  refine qe rfl (qj (v:=vI ((c.code.length : Nat) : Int)) hb3 rfl ?_)
  exact ⟨vI ((c.code.length : Nat) : Int),rfl,rfl,qk⟩
 ·intro f3_ w3_ X3_ qp qo qu qk
  obtain ⟨hu2,-⟩:=qo
  have hu2 : f3_ 9 = vI ((c.code.length : Nat) : Int):=hu2
  refine qe rfl (qt (v:=vI (((c.code.length : Nat) : Int) % 4)) hu2 rfl rfl (b_rem (by omega) (rem_nn (by omega) (by omega))) ?_)
  exact ⟨vI (((c.code.length : Nat) : Int) % 4),rfl,rfl,qk⟩
 ·intro f4_ w4_ X4_ qp qo qu qk
  obtain ⟨hu3,-⟩:=qo
  have hu3 : f4_ 10 = vI (((c.code.length : Nat) : Int) % 4):=hu3
  refine qe rfl (qt (k:=.i64) (k':=.i64) (a:=(((c.code.length : Nat) : Int) % 4)) (b:=0) hu3 rfl rfl k8 ?_)
  exact ⟨.bool (decide ((((c.code.length : Nat) : Int) % 4) = 0)),rfl,rfl,qk⟩
 ·intro f5_ w5_ X5_ qp qo qu qk
  have hb1 : f5_ 1 = .pointer (some ⟨b1,0,none⟩):=(qp 1 rfl)
  refine qe rfl (qg hb1 fd53_1 rfl (o':=1) rfl rfl ?_)
  exact ⟨.pointer (some ⟨b1,1,none⟩),rfl,rfl,qk⟩
 ·intro f6_ w6_ X6_ qp qo qu qk
  obtain ⟨hu5,-⟩:=qo
  have hu5 : f6_ 12 = .pointer (some ⟨b1,1,none⟩):=hu5
  obtain ⟨hr11,-⟩:=qu
  have hr11 : Item.φ (blk b1 [.slice c.a c.code.length c.cap,vI c.data] 53) w6_:=hr11
  refine qe rfl (qq (v:=vI c.data) hu5 ag3 (qh (hr11) rfl) rfl ?_)
  exact ⟨vI c.data,rfl,rfl,qk⟩
 ·intro f7_ w7_ X7_ qp qo qu qk
  obtain ⟨hu6,-⟩:=qo
  have hu6 : f7_ 13 = vI c.data:=hu6
  refine qe rfl (zi (args:=[vI c.data,vI 1,vI 8]) rfl (by simp only [List.map_cons,List.map_nil,List.nil_append,List.cons_append,List.append_nil,ev,Value.cells,hu6]) rfl en50 (yn c.data 1 8 _) ?_)
  rintro _ w8 ⟨rfl,hk10⟩
  have hs9:=qk.keep hk10
  exact ⟨.bool (qd c.data 1 8),rfl,rfl,hs9⟩
 ·intro f8_ w8_ X8_ qp qo qu qk
  obtain ⟨hu1,hu4,hu7,-⟩:=qo
  have hu1 : f8_ 8 = .bool (qd ((c.code.length : Nat) : Int) 4 4096):=hu1
  have hu4 : f8_ 11 = .bool (decide ((((c.code.length : Nat) : Int) % 4) = 0)):=hu4
  have hu7 : f8_ 14 = .bool (qd c.data 1 8):=hu7
  refine qe rfl (zz (zs:=[.bool false,.bool false,.bool false]) (ps:=[(0,[.bool (qd ((c.code.length : Nat) : Int) 4 4096)]),(1,[.bool (decide ((((c.code.length : Nat) : Int) % 4) = 0))]),(2,[.bool (qd c.data 1 8)])]) (cs:=[.bool (qd ((c.code.length : Nat) : Int) 4 4096),.bool (decide ((((c.code.length : Nat) : Int) % 4) = 0)),.bool (qd c.data 1 8)]) qk un102 sz4 zv4 rfl rfl (by simp only [List.map_cons,List.map_nil,List.nil_append,List.cons_append,List.append_nil,ev,Value.cells,hu1,hu4,hu7]) rfl rfl ?_)
  intro b11 w12 hb14 hs13
  refine ⟨.slice (some ⟨b11,0,none⟩) 3 3,rfl,⟨_,rfl⟩,?_⟩
  show St _ _ _ ((blk (vblk ((upd f8_ 15 (.slice (some ⟨b11,0,none⟩) 3 3)) 15)) [.bool (qd ((c.code.length : Nat) : Int) 4 4096),.bool (decide ((((c.code.length : Nat) : Int) % 4) = 0)),.bool (qd c.data 1 8)] 4) :: X8_) _
  exact hs13
 ·intro f9_ w9_ X9_ qp qo qu qk
  obtain ⟨hu8,-⟩:=qo
  obtain ⟨b11,hu8⟩:=(show ∃ b11 : Nat,f9_ 15 = .slice (some ⟨b11,0,none⟩) 3 3 from hu8)
  obtain ⟨hr8,-⟩:=qu
  have hr8 : Item.φ (blk (vblk (f9_ 15)) [.bool (qd ((c.code.length : Nat) : Int) 4 4096),.bool (decide ((((c.code.length : Nat) : Int) % 4) = 0)),.bool (qd c.data 1 8)] 4) w9_:=hr8
  rw [hu8] at hr8; simp only [vblk,zf,vcap,z3] at hr8
  refine qe rfl (zi (args:=[.slice (some ⟨b11,0,none⟩) 3 3]) rfl (by simp only [List.map_cons,List.map_nil,List.nil_append,List.cons_append,List.append_nil,ev,Value.cells,hu8]) rfl en49 (must_c (some ⟨b11,0,none⟩) 3 [qd ((c.code.length : Nat) : Int) 4 4096,decide ((((c.code.length : Nat) : Int) % 4) = 0),qd c.data 1 8] _ (jb (enc:=encBool) (m:=1) (fun _=>rfl) [qd ((c.code.length : Nat) : Int) 4 4096,decide ((((c.code.length : Nat) : Int) % 4) = 0),qd c.data 1 8] (hr8) rfl) (by simp)) ?_)
  rintro _ w15 ⟨rfl,hk17⟩
  have hs16:=qk.keep hk17
  exact ⟨.bool ((qd ((c.code.length : Nat) : Int) 4 4096) && ((decide ((((c.code.length : Nat) : Int) % 4) = 0)) && ((qd c.data 1 8) && true))),rfl,rfl,hs16⟩
 ·intro f10_ w10_ X10_ qp qo qu qk
  obtain ⟨hu9,-⟩:=qo
  have hu9 : f10_ 16 = .bool ((qd ((c.code.length : Nat) : Int) 4 4096) && ((decide ((((c.code.length : Nat) : Int) % 4) = 0)) && ((qd c.data 1 8) && true))):=hu9
  refine qe rfl (qf (v:=.bool ((qd ((c.code.length : Nat) : Int) 4 4096) && ((decide ((((c.code.length : Nat) : Int) % 4) = 0)) && ((qd c.data 1 8) && true)))) hu9 rfl ?_)
  exact ⟨.bool ((qd ((c.code.length : Nat) : Int) 4 4096) && ((decide ((((c.code.length : Nat) : Int) % 4) = 0)) && ((qd c.data 1 8) && true))),rfl,rfl,qk⟩
 intro f18 w19 qp qo hs20
 obtain ⟨hu8,hu10,-⟩:=qo
 obtain ⟨b11,hu8⟩:=(show ∃ b11 : Nat,f18 15 = .slice (some ⟨b11,0,none⟩) 3 3 from hu8)
 have hu10 : f18 2 = .bool ((qd ((c.code.length : Nat) : Int) 4 4096) && ((decide ((((c.code.length : Nat) : Int) % 4) = 0)) && ((qd c.data 1 8) && true))):=hu10
 have hs20 : St _ _ _ [blk (vblk (f18 15)) [.bool (qd ((c.code.length : Nat) : Int) 4 4096),.bool (decide ((((c.code.length : Nat) : Int) % 4) = 0)),.bool (qd c.data 1 8)] 4,blk b1 [.slice c.a c.code.length c.cap,vI c.data] 53] _:=hs20
 simp only [hu8,vblk,zf,vcap,z3] at hs20
 have hs20 : St _ _ _ [blk b11 [.bool (qd ((c.code.length : Nat) : Int) 4 4096),.bool (decide ((((c.code.length : Nat) : Int) % 4) = 0)),.bool (qd c.data 1 8)] 4,blk b1 [.slice c.a c.code.length c.cap,vI c.data] 53] _:=hs20
 rewrite [qm hu10]
 refine qb (zo ?_)
 refine ⟨.bool ((qd ((c.code.length : Nat) : Int) 4 4096) && ((decide ((((c.code.length : Nat) : Int) % 4) = 0)) && ((qd c.data 1 8) && true))),res1 rfl,?_⟩
 exact ⟨congrArg Value.bool (by simp [kf]),hs20.base⟩



theorem z6 {op : Int} {l : List UInt8} (h : l = kj op) : (⟨l.toArray⟩ : ByteArray) = q3 op:=by rw [h]; rfl

/-- seizin/code.among -/
theorem among_c (n : Int) (a : Option Addr) (cap : Nat) (l : List Int) (w : World) (h : (arrI encI 1 a l).φ w) (hl : l.length ≤ 20000) :
  C Try.prog 88 [vI n,.slice a l.length cap] w fun v w'=>v = .bool (l.contains n) ∧ Grow w w':=by
 have hs0 : St w (fun _=>False) w [] [arrI encI 1 a l]:=St.start w _ (by simpa using h)
 refine z8 [.tmp 4] 8 Try.func88 rfl Try.ntmps88 rfl rfl ?_
 refine qi (qc ?_)
 refine qa rfl (qf (v:=.bool false) rfl rfl ?_)
 refine ql (qb (qi (qc ?_)))
 refine qa rfl (qj (v:=.slice a l.length cap) rfl rfl ?_)
 refine qa rfl (qj (v:=vI n) rfl rfl ?_)
 refine qa rfl (zi (args:=[.slice a l.length cap,vI n]) rfl rfl rfl en89 (contains_int a cap l n _ (hs0.getR 0 rfl) (by omega)) ?_)
 rintro _ w1 ⟨rfl,hk3⟩
 have hs2:=hs0.keep hk3
 refine qa rfl (qf (v:=.bool (l.contains n)) rfl rfl ?_)
 refine ql (qb (zo ?_))
 refine ⟨.bool (l.contains n),res1 rfl,?_⟩
 exact ⟨rfl,hs2.base⟩

/-- seizin/code.Kinds -/
theorem kinds_c (op : Int) (w : World)  :
  C Try.prog 86 [vI op] w fun v w'=>v = .string (q3 op) ∧ Grow w w':=by
 have hs0 : St w (fun _=>False) w [] []:=St.start w _ (by simp)
 refine z8 [.tmp 2] 30 Try.func86 rfl Try.ntmps86 rfl rfl ?_
 refine qi (qc ?_)
 refine qa rfl (qf (v:=.string (⟨#[]⟩)) rfl rfl ?_)
 refine ql (qb (qi (zy (qi (qi (qc ?_))))))
 refine qa rfl (qj (v:=vI op) rfl rfl ?_)
 refine qa rfl (qt (k:=.i64) (k':=.i64) (a:=op) (b:=0) rfl rfl rfl jg ?_)
 refine qa rfl (qf (v:=.bool (decide (op < 0))) rfl rfl ?_)
 refine ql (qb ?_)
 refine zd rfl (fun hc1=>?_) (fun hc1=>?_)
 ·refine zn (qb ?_)
  refine zd rfl (fun hc2=>?_) (fun hc2=>?_)
  ·refine qi (qc ?_)
   refine qa rfl (qf (v:=.string (⟨#[]⟩)) rfl rfl ?_)
   refine ql (qb (zo (zk (q9 ?_))))
   refine ⟨.string (⟨#[]⟩),res1 rfl,?_⟩
   exact ⟨congrArg Value.string (z6 (by simp_all [kj])),hs0.base⟩
  ·refine qi (qc ?_)
   refine qa rfl (qj (v:=vI op) rfl rfl ?_)
   refine qa rfl (zz (zs:=[vI 0,vI 0]) (ps:=[(0,[vI 0]),(1,[vI 24])]) (cs:=[vI 0,vI 24]) hs0 un43 sz3 zv3 rfl rfl rfl rfl rfl ?_)
   intro b3 w4 hb6 hs5
   refine qa rfl (zi (args:=[vI op,.slice (some ⟨b3,0,none⟩) 2 2]) rfl rfl rfl en88 (among_c op (some ⟨b3,0,none⟩) 2 [0,24] _ (jb (enc:=encI) (m:=1) (fun _=>rfl) [0,24] (hs5.get 0 rfl) rfl) (by simp)) ?_)
   rintro _ w7 ⟨rfl,hk9⟩
   have hs8:=hs5.keep hk9
   refine qa rfl (qf (v:=.bool (([0,24] : List Int).contains op)) rfl rfl ?_)
   refine ql (qb ?_)
   refine k5 (t:=(([0,24] : List Int).contains op)) rfl (fun hc10=>?_) (fun hc10=>?_)
   ·try simp only [Bool.and_eq_true,Bool.or_eq_true,Bool.not_eq_true',Bool.and_eq_false_iff,Bool.or_eq_false_iff,Bool.not_eq_false',decide_eq_true_eq,decide_eq_false_iff_not,Bool.and_eq_false_imp] at hc10
    refine qi (qc ?_)
    refine qa rfl (qf (v:=.string (⟨#[45,45,45]⟩)) rfl rfl ?_)
    refine ql (qb (zo (zk (q9 ?_))))
    refine ⟨.string (⟨#[45,45,45]⟩),res1 rfl,?_⟩
    exact ⟨congrArg Value.string (z6 (by simp_all [kj])),hs8.base⟩
   ·try simp only [Bool.and_eq_true,Bool.or_eq_true,Bool.not_eq_true',Bool.and_eq_false_iff,Bool.or_eq_false_iff,Bool.not_eq_false',decide_eq_true_eq,decide_eq_false_iff_not,Bool.and_eq_false_imp] at hc10
    refine qi (qc ?_)
    refine qa rfl (qj (v:=vI op) rfl rfl ?_)
    refine qa rfl (zz (zs:=[vI 0,vI 0]) (ps:=[(0,[vI 1]),(1,[vI 10])]) (cs:=[vI 1,vI 10]) hs8 un43 sz3 zv3 rfl rfl rfl rfl rfl ?_)
    intro b11 w12 hb14 hs13
    refine qa rfl (zi (args:=[vI op,.slice (some ⟨b11,0,none⟩) 2 2]) rfl rfl rfl en88 (among_c op (some ⟨b11,0,none⟩) 2 [1,10] _ (jb (enc:=encI) (m:=1) (fun _=>rfl) [1,10] (hs13.get 0 rfl) rfl) (by simp)) ?_)
    rintro _ w15 ⟨rfl,hk17⟩
    have hs16:=hs13.keep hk17
    refine qa rfl (qf (v:=.bool (([1,10] : List Int).contains op)) rfl rfl ?_)
    refine ql (qb ?_)
    refine k5 (t:=(([1,10] : List Int).contains op)) rfl (fun hc18=>?_) (fun hc18=>?_)
    ·try simp only [Bool.and_eq_true,Bool.or_eq_true,Bool.not_eq_true',Bool.and_eq_false_iff,Bool.or_eq_false_iff,Bool.not_eq_false',decide_eq_true_eq,decide_eq_false_iff_not,Bool.and_eq_false_imp] at hc18
     refine qi (qc ?_)
     refine qa rfl (qf (v:=.string (⟨#[114,119,118]⟩)) rfl rfl ?_)
     refine ql (qb (zo (zk (q9 ?_))))
     refine ⟨.string (⟨#[114,119,118]⟩),res1 rfl,?_⟩
     exact ⟨congrArg Value.string (z6 (by simp_all [kj])),hs16.base⟩
    ·try simp only [Bool.and_eq_true,Bool.or_eq_true,Bool.not_eq_true',Bool.and_eq_false_iff,Bool.or_eq_false_iff,Bool.not_eq_false',decide_eq_true_eq,decide_eq_false_iff_not,Bool.and_eq_false_imp] at hc18
     refine qi (qc ?_)
     refine qa rfl (qj (v:=vI op) rfl rfl ?_)
     refine qa rfl (qt (k:=.i64) (k':=.i64) (a:=op) (b:=9) rfl rfl rfl k8 ?_)
     refine qa rfl (qf (v:=.bool (decide (op = 9))) rfl rfl ?_)
     refine ql (qb ?_)
     refine zd rfl (fun hc19=>?_) (fun hc19=>?_)
     ·refine qi (qc ?_)
      refine qa rfl (qf (v:=.string (⟨#[45,119,118]⟩)) rfl rfl ?_)
      refine ql (qb (zo (zk (q9 ?_))))
      refine ⟨.string (⟨#[45,119,118]⟩),res1 rfl,?_⟩
      exact ⟨congrArg Value.string (z6 (by simp_all [kj])),hs16.base⟩
     ·refine qi (qc ?_)
      refine qa rfl (qj (v:=vI op) rfl rfl ?_)
      refine qa rfl (qt (k:=.i64) (k':=.i64) (a:=op) (b:=29) rfl rfl rfl k8 ?_)
      refine qa rfl (qf (v:=.bool (decide (op = 29))) rfl rfl ?_)
      refine ql (qb ?_)
      refine zd rfl (fun hc20=>?_) (fun hc20=>?_)
      ·refine qi (qc ?_)
       refine qa rfl (qf (v:=.string (⟨#[105,45,45]⟩)) rfl rfl ?_)
       refine ql (qb (zo (zk (q9 ?_))))
       refine ⟨.string (⟨#[105,45,45]⟩),res1 rfl,?_⟩
       exact ⟨congrArg Value.string (z6 (by simp_all [kj])),hs16.base⟩
      ·refine qi (qc ?_)
       refine qa rfl (qj (v:=vI op) rfl rfl ?_)
       refine qa rfl (zz (zs:=[vI 0,vI 0,vI 0,vI 0,vI 0,vI 0,vI 0]) (ps:=[(0,[vI 2]),(1,[vI 22]),(2,[vI 23]),(3,[vI 25]),(4,[vI 26]),(5,[vI 27]),(6,[vI 28])]) (cs:=[vI 2,vI 22,vI 23,vI 25,vI 26,vI 27,vI 28]) hs16 un43 sz3 zv3 rfl rfl rfl rfl rfl ?_)
       intro b21 w22 hb24 hs23
       refine qa rfl (zi (args:=[vI op,.slice (some ⟨b21,0,none⟩) 7 7]) rfl rfl rfl en88 (among_c op (some ⟨b21,0,none⟩) 7 [2,22,23,25,26,27,28] _ (jb (enc:=encI) (m:=1) (fun _=>rfl) [2,22,23,25,26,27,28] (hs23.get 0 rfl) rfl) (by simp)) ?_)
       rintro _ w25 ⟨rfl,hk27⟩
       have hs26:=hs23.keep hk27
       refine qa rfl (qf (v:=.bool (([2,22,23,25,26,27,28] : List Int).contains op)) rfl rfl ?_)
       refine ql (qb ?_)
       refine k5 (t:=(([2,22,23,25,26,27,28] : List Int).contains op)) rfl (fun hc28=>?_) (fun hc28=>?_)
       ·try simp only [Bool.and_eq_true,Bool.or_eq_true,Bool.not_eq_true',Bool.and_eq_false_iff,Bool.or_eq_false_iff,Bool.not_eq_false',decide_eq_true_eq,decide_eq_false_iff_not,Bool.and_eq_false_imp] at hc28
        refine qi (qc ?_)
        refine qa rfl (qf (v:=.string (⟨#[114,114,45]⟩)) rfl rfl ?_)
        refine ql (qb (zo (zk (q9 ?_))))
        refine ⟨.string (⟨#[114,114,45]⟩),res1 rfl,?_⟩
        exact ⟨congrArg Value.string (z6 (by simp_all [kj])),hs26.base⟩
       ·try simp only [Bool.and_eq_true,Bool.or_eq_true,Bool.not_eq_true',Bool.and_eq_false_iff,Bool.or_eq_false_iff,Bool.not_eq_false',decide_eq_true_eq,decide_eq_false_iff_not,Bool.and_eq_false_imp] at hc28
        refine qi (qc ?_)
        refine qa rfl (qj (v:=vI op) rfl rfl ?_)
        refine qa rfl (zz (zs:=[vI 0,vI 0,vI 0,vI 0,vI 0,vI 0,vI 0]) (ps:=[(0,[vI 11]),(1,[vI 12]),(2,[vI 13]),(3,[vI 14]),(4,[vI 15]),(5,[vI 16]),(6,[vI 19])]) (cs:=[vI 11,vI 12,vI 13,vI 14,vI 15,vI 16,vI 19]) hs26 un43 sz3 zv3 rfl rfl rfl rfl rfl ?_)
        intro b29 w30 hb32 hs31
        refine qa rfl (zi (args:=[vI op,.slice (some ⟨b29,0,none⟩) 7 7]) rfl rfl rfl en88 (among_c op (some ⟨b29,0,none⟩) 7 [11,12,13,14,15,16,19] _ (jb (enc:=encI) (m:=1) (fun _=>rfl) [11,12,13,14,15,16,19] (hs31.get 0 rfl) rfl) (by simp)) ?_)
        rintro _ w33 ⟨rfl,hk35⟩
        have hs34:=hs31.keep hk35
        refine qa rfl (qf (v:=.bool (([11,12,13,14,15,16,19] : List Int).contains op)) rfl rfl ?_)
        refine ql (qb ?_)
        refine k5 (t:=(([11,12,13,14,15,16,19] : List Int).contains op)) rfl (fun hc36=>?_) (fun hc36=>?_)
        ·try simp only [Bool.and_eq_true,Bool.or_eq_true,Bool.not_eq_true',Bool.and_eq_false_iff,Bool.or_eq_false_iff,Bool.not_eq_false',decide_eq_true_eq,decide_eq_false_iff_not,Bool.and_eq_false_imp] at hc36
         refine qi (qc ?_)
         refine qa rfl (qf (v:=.string (⟨#[114,114,105]⟩)) rfl rfl ?_)
         refine ql (qb (zo (zk (q9 ?_))))
         refine ⟨.string (⟨#[114,114,105]⟩),res1 rfl,?_⟩
         exact ⟨congrArg Value.string (z6 (by simp_all [kj])),hs34.base⟩
        ·try simp only [Bool.and_eq_true,Bool.or_eq_true,Bool.not_eq_true',Bool.and_eq_false_iff,Bool.or_eq_false_iff,Bool.not_eq_false',decide_eq_true_eq,decide_eq_false_iff_not,Bool.and_eq_false_imp] at hc36
         refine zn (z7 (qb (qi (qc ?_))))
         refine qa rfl (qf (v:=.string (⟨#[114,114,114]⟩)) rfl rfl ?_)
         refine ql (qb (zo ?_))
         refine ⟨.string (⟨#[114,114,114]⟩),res1 rfl,?_⟩
         exact ⟨congrArg Value.string (z6 (by simp_all [kj])),hs34.base⟩
 ·refine qc ?_
  refine qa rfl (qj (v:=vI op) rfl rfl ?_)
  refine qa rfl (qt (k:=.i64) (k':=.i64) (a:=op) (b:=29) rfl rfl rfl b_gtr ?_)
  refine qa rfl (qf (v:=.bool (decide (29 < op))) rfl rfl ?_)
  refine ql (qb ?_)
  refine zd rfl (fun hc37=>?_) (fun hc37=>?_)
  ·refine qi (qc ?_)
   refine qa rfl (qf (v:=.string (⟨#[]⟩)) rfl rfl ?_)
   refine ql (qb (zo (zk (q9 ?_))))
   refine ⟨.string (⟨#[]⟩),res1 rfl,?_⟩
   exact ⟨congrArg Value.string (z6 (by simp_all [kj])),hs0.base⟩
  ·refine qi (qc ?_)
   refine qa rfl (qj (v:=vI op) rfl rfl ?_)
   refine qa rfl (zz (zs:=[vI 0,vI 0]) (ps:=[(0,[vI 0]),(1,[vI 24])]) (cs:=[vI 0,vI 24]) hs0 un43 sz3 zv3 rfl rfl rfl rfl rfl ?_)
   intro b38 w39 hb41 hs40
   refine qa rfl (zi (args:=[vI op,.slice (some ⟨b38,0,none⟩) 2 2]) rfl rfl rfl en88 (among_c op (some ⟨b38,0,none⟩) 2 [0,24] _ (jb (enc:=encI) (m:=1) (fun _=>rfl) [0,24] (hs40.get 0 rfl) rfl) (by simp)) ?_)
   rintro _ w42 ⟨rfl,hk44⟩
   have hs43:=hs40.keep hk44
   refine qa rfl (qf (v:=.bool (([0,24] : List Int).contains op)) rfl rfl ?_)
   refine ql (qb ?_)
   refine k5 (t:=(([0,24] : List Int).contains op)) rfl (fun hc45=>?_) (fun hc45=>?_)
   ·try simp only [Bool.and_eq_true,Bool.or_eq_true,Bool.not_eq_true',Bool.and_eq_false_iff,Bool.or_eq_false_iff,Bool.not_eq_false',decide_eq_true_eq,decide_eq_false_iff_not,Bool.and_eq_false_imp] at hc45
    refine qi (qc ?_)
    refine qa rfl (qf (v:=.string (⟨#[45,45,45]⟩)) rfl rfl ?_)
    refine ql (qb (zo (zk (q9 ?_))))
    refine ⟨.string (⟨#[45,45,45]⟩),res1 rfl,?_⟩
    exact ⟨congrArg Value.string (z6 (by simp_all [kj])),hs43.base⟩
   ·try simp only [Bool.and_eq_true,Bool.or_eq_true,Bool.not_eq_true',Bool.and_eq_false_iff,Bool.or_eq_false_iff,Bool.not_eq_false',decide_eq_true_eq,decide_eq_false_iff_not,Bool.and_eq_false_imp] at hc45
    refine qi (qc ?_)
    refine qa rfl (qj (v:=vI op) rfl rfl ?_)
    refine qa rfl (zz (zs:=[vI 0,vI 0]) (ps:=[(0,[vI 1]),(1,[vI 10])]) (cs:=[vI 1,vI 10]) hs43 un43 sz3 zv3 rfl rfl rfl rfl rfl ?_)
    intro b46 w47 hb49 hs48
    refine qa rfl (zi (args:=[vI op,.slice (some ⟨b46,0,none⟩) 2 2]) rfl rfl rfl en88 (among_c op (some ⟨b46,0,none⟩) 2 [1,10] _ (jb (enc:=encI) (m:=1) (fun _=>rfl) [1,10] (hs48.get 0 rfl) rfl) (by simp)) ?_)
    rintro _ w50 ⟨rfl,hk52⟩
    have hs51:=hs48.keep hk52
    refine qa rfl (qf (v:=.bool (([1,10] : List Int).contains op)) rfl rfl ?_)
    refine ql (qb ?_)
    refine k5 (t:=(([1,10] : List Int).contains op)) rfl (fun hc53=>?_) (fun hc53=>?_)
    ·try simp only [Bool.and_eq_true,Bool.or_eq_true,Bool.not_eq_true',Bool.and_eq_false_iff,Bool.or_eq_false_iff,Bool.not_eq_false',decide_eq_true_eq,decide_eq_false_iff_not,Bool.and_eq_false_imp] at hc53
     refine qi (qc ?_)
     refine qa rfl (qf (v:=.string (⟨#[114,119,118]⟩)) rfl rfl ?_)
     refine ql (qb (zo (zk (q9 ?_))))
     refine ⟨.string (⟨#[114,119,118]⟩),res1 rfl,?_⟩
     exact ⟨congrArg Value.string (z6 (by simp_all [kj])),hs51.base⟩
    ·try simp only [Bool.and_eq_true,Bool.or_eq_true,Bool.not_eq_true',Bool.and_eq_false_iff,Bool.or_eq_false_iff,Bool.not_eq_false',decide_eq_true_eq,decide_eq_false_iff_not,Bool.and_eq_false_imp] at hc53
     refine qi (qc ?_)
     refine qa rfl (qj (v:=vI op) rfl rfl ?_)
     refine qa rfl (qt (k:=.i64) (k':=.i64) (a:=op) (b:=9) rfl rfl rfl k8 ?_)
     refine qa rfl (qf (v:=.bool (decide (op = 9))) rfl rfl ?_)
     refine ql (qb ?_)
     refine zd rfl (fun hc54=>?_) (fun hc54=>?_)
     ·refine qi (qc ?_)
      refine qa rfl (qf (v:=.string (⟨#[45,119,118]⟩)) rfl rfl ?_)
      refine ql (qb (zo (zk (q9 ?_))))
      refine ⟨.string (⟨#[45,119,118]⟩),res1 rfl,?_⟩
      exact ⟨congrArg Value.string (z6 (by simp_all [kj])),hs51.base⟩
     ·refine qi (qc ?_)
      refine qa rfl (qj (v:=vI op) rfl rfl ?_)
      refine qa rfl (qt (k:=.i64) (k':=.i64) (a:=op) (b:=29) rfl rfl rfl k8 ?_)
      refine qa rfl (qf (v:=.bool (decide (op = 29))) rfl rfl ?_)
      refine ql (qb ?_)
      refine zd rfl (fun hc55=>?_) (fun hc55=>?_)
      ·refine qi (qc ?_)
       refine qa rfl (qf (v:=.string (⟨#[105,45,45]⟩)) rfl rfl ?_)
       refine ql (qb (zo (zk (q9 ?_))))
       refine ⟨.string (⟨#[105,45,45]⟩),res1 rfl,?_⟩
       exact ⟨congrArg Value.string (z6 (by simp_all [kj])),hs51.base⟩
      ·refine qi (qc ?_)
       refine qa rfl (qj (v:=vI op) rfl rfl ?_)
       refine qa rfl (zz (zs:=[vI 0,vI 0,vI 0,vI 0,vI 0,vI 0,vI 0]) (ps:=[(0,[vI 2]),(1,[vI 22]),(2,[vI 23]),(3,[vI 25]),(4,[vI 26]),(5,[vI 27]),(6,[vI 28])]) (cs:=[vI 2,vI 22,vI 23,vI 25,vI 26,vI 27,vI 28]) hs51 un43 sz3 zv3 rfl rfl rfl rfl rfl ?_)
       intro b56 w57 hb59 hs58
       refine qa rfl (zi (args:=[vI op,.slice (some ⟨b56,0,none⟩) 7 7]) rfl rfl rfl en88 (among_c op (some ⟨b56,0,none⟩) 7 [2,22,23,25,26,27,28] _ (jb (enc:=encI) (m:=1) (fun _=>rfl) [2,22,23,25,26,27,28] (hs58.get 0 rfl) rfl) (by simp)) ?_)
       rintro _ w60 ⟨rfl,hk62⟩
       have hs61:=hs58.keep hk62
       refine qa rfl (qf (v:=.bool (([2,22,23,25,26,27,28] : List Int).contains op)) rfl rfl ?_)
       refine ql (qb ?_)
       refine k5 (t:=(([2,22,23,25,26,27,28] : List Int).contains op)) rfl (fun hc63=>?_) (fun hc63=>?_)
       ·try simp only [Bool.and_eq_true,Bool.or_eq_true,Bool.not_eq_true',Bool.and_eq_false_iff,Bool.or_eq_false_iff,Bool.not_eq_false',decide_eq_true_eq,decide_eq_false_iff_not,Bool.and_eq_false_imp] at hc63
        refine qi (qc ?_)
        refine qa rfl (qf (v:=.string (⟨#[114,114,45]⟩)) rfl rfl ?_)
        refine ql (qb (zo (zk (q9 ?_))))
        refine ⟨.string (⟨#[114,114,45]⟩),res1 rfl,?_⟩
        exact ⟨congrArg Value.string (z6 (by simp_all [kj])),hs61.base⟩
       ·try simp only [Bool.and_eq_true,Bool.or_eq_true,Bool.not_eq_true',Bool.and_eq_false_iff,Bool.or_eq_false_iff,Bool.not_eq_false',decide_eq_true_eq,decide_eq_false_iff_not,Bool.and_eq_false_imp] at hc63
        refine qi (qc ?_)
        refine qa rfl (qj (v:=vI op) rfl rfl ?_)
        refine qa rfl (zz (zs:=[vI 0,vI 0,vI 0,vI 0,vI 0,vI 0,vI 0]) (ps:=[(0,[vI 11]),(1,[vI 12]),(2,[vI 13]),(3,[vI 14]),(4,[vI 15]),(5,[vI 16]),(6,[vI 19])]) (cs:=[vI 11,vI 12,vI 13,vI 14,vI 15,vI 16,vI 19]) hs61 un43 sz3 zv3 rfl rfl rfl rfl rfl ?_)
        intro b64 w65 hb67 hs66
        refine qa rfl (zi (args:=[vI op,.slice (some ⟨b64,0,none⟩) 7 7]) rfl rfl rfl en88 (among_c op (some ⟨b64,0,none⟩) 7 [11,12,13,14,15,16,19] _ (jb (enc:=encI) (m:=1) (fun _=>rfl) [11,12,13,14,15,16,19] (hs66.get 0 rfl) rfl) (by simp)) ?_)
        rintro _ w68 ⟨rfl,hk70⟩
        have hs69:=hs66.keep hk70
        refine qa rfl (qf (v:=.bool (([11,12,13,14,15,16,19] : List Int).contains op)) rfl rfl ?_)
        refine ql (qb ?_)
        refine k5 (t:=(([11,12,13,14,15,16,19] : List Int).contains op)) rfl (fun hc71=>?_) (fun hc71=>?_)
        ·try simp only [Bool.and_eq_true,Bool.or_eq_true,Bool.not_eq_true',Bool.and_eq_false_iff,Bool.or_eq_false_iff,Bool.not_eq_false',decide_eq_true_eq,decide_eq_false_iff_not,Bool.and_eq_false_imp] at hc71
         refine qi (qc ?_)
         refine qa rfl (qf (v:=.string (⟨#[114,114,105]⟩)) rfl rfl ?_)
         refine ql (qb (zo (zk (q9 ?_))))
         refine ⟨.string (⟨#[114,114,105]⟩),res1 rfl,?_⟩
         exact ⟨congrArg Value.string (z6 (by simp_all [kj])),hs69.base⟩
        ·try simp only [Bool.and_eq_true,Bool.or_eq_true,Bool.not_eq_true',Bool.and_eq_false_iff,Bool.or_eq_false_iff,Bool.not_eq_false',decide_eq_true_eq,decide_eq_false_iff_not,Bool.and_eq_false_imp] at hc71
         refine zn (z7 (qb (qi (qc ?_))))
         refine qa rfl (qf (v:=.string (⟨#[114,114,114]⟩)) rfl rfl ?_)
         refine ql (qb (zo ?_))
         refine ⟨.string (⟨#[114,114,114]⟩),res1 rfl,?_⟩
         exact ⟨congrArg Value.string (z6 (by simp_all [kj])),hs69.base⟩

/-- seizin/code.bounds -/
theorem bounds_c (k : Int) (w : World)  :
  C Try.prog 87 [.int .i32 k] w fun v w'=>v = .tuple #[vI (bndS k).1,vI (bndS k).2] ∧ Grow w w':=by
 have hs0 : St w (fun _=>False) w [] []:=St.start w _ (by simp)
 refine z8 [.tmp 2,.tmp 3] 11 Try.func87 rfl Try.ntmps87 rfl rfl ?_
 refine qi (qc ?_)
 refine qa rfl (qf (v:=vI 0) rfl rfl ?_)
 refine qa rfl (qf (v:=vI 0) rfl rfl ?_)
 refine ql (qb (qi (qi (qc ?_))))
 refine qa rfl (qj (v:=.int .i32 k) rfl rfl ?_)
 refine ql (qb (zy (qi (qc ?_))))
 refine qa rfl (qt (k:=.i32) (k':=.i32) (a:=k) (b:=114) rfl rfl rfl k8 ?_)
 refine qa rfl (qf (v:=.bool (decide (k = 114))) rfl rfl ?_)
 refine ql (qb ?_)
 refine zd rfl (fun hc1=>?_) (fun hc1=>?_)
 ·refine qi (qc ?_)
  refine qa rfl (qf (v:=vI 0) rfl rfl ?_)
  refine qa rfl (qf (v:=vI 7) rfl rfl ?_)
  refine ql (qb (zo (zk (q9 ?_))))
  refine ⟨.tuple #[vI 0,vI 7],res2 rfl rfl,?_⟩
  exact ⟨by simp_all [bndS],hs0.base⟩
 ·refine qi (qc ?_)
  refine qa rfl (qt (k:=.i32) (k':=.i32) (a:=k) (b:=105) rfl rfl rfl k8 ?_)
  refine qa rfl (qf (v:=.bool (decide (k = 105))) rfl rfl ?_)
  refine ql (qb ?_)
  refine zd rfl (fun hc2=>?_) (fun hc2=>?_)
  ·refine qi (qc ?_)
   refine qa rfl (qf (v:=vI 0) rfl rfl ?_)
   refine qa rfl (qf (v:=vI 255) rfl rfl ?_)
   refine ql (qb (zo (zk (q9 ?_))))
   refine ⟨.tuple #[vI 0,vI 255],res2 rfl rfl,?_⟩
   exact ⟨by simp_all [bndS],hs0.base⟩
  ·refine qi (qc ?_)
   refine qa rfl (qt (k:=.i32) (k':=.i32) (a:=k) (b:=119) rfl rfl rfl k8 ?_)
   refine qa rfl (qf (v:=.bool (decide (k = 119))) rfl rfl ?_)
   refine ql (qb ?_)
   refine zd rfl (fun hc3=>?_) (fun hc3=>?_)
   ·refine qi (qc ?_)
    refine qa rfl (qf (v:=vI (-32768)) rfl rfl ?_)
    refine qa rfl (qf (v:=vI 32767) rfl rfl ?_)
    refine ql (qb (zo (zk (q9 ?_))))
    refine ⟨.tuple #[vI (-32768),vI 32767],res2 rfl rfl,?_⟩
    exact ⟨by simp_all [bndS],hs0.base⟩
   ·refine zn (z7 (qb (qi (qc ?_))))
    refine qa rfl (qf (v:=vI 0) rfl rfl ?_)
    refine qa rfl (qf (v:=vI 0) rfl rfl ?_)
    refine ql (qb (zo ?_))
    refine ⟨.tuple #[vI 0,vI 0],res2 rfl rfl,?_⟩
    exact ⟨by simp_all [bndS],hs0.base⟩

/-- seizin/code.isWide -/
theorem isWide_c (op : Int) (w : World)  :
  C Try.prog 83 [vI op] w fun v w'=>v = .bool (yc op) ∧ Grow w w':=by
 have hs0 : St w (fun _=>False) w [] []:=St.start w _ (by simp)
 refine z8 [.tmp 2] 13 Try.func83 rfl Try.ntmps83 rfl rfl ?_
 refine qi (qc ?_)
 refine qa rfl (qf (v:=.bool false) rfl rfl ?_)
 refine ql (qb (qi (qc ?_)))
 refine qa rfl (qj (v:=vI op) rfl rfl ?_)
 refine qa rfl (zi (args:=[vI op]) rfl rfl rfl en86 (kinds_c op _) ?_)
 rintro _ w1 ⟨rfl,hk3⟩
 have hs2:=hs0.keep hk3
 refine qa rfl (qf (v:=.string (q3 op)) rfl rfl ?_)
 refine ql (qb (qi (qc ?_)))
 refine qa rfl (qj (v:=.string (q3 op)) rfl rfl ?_)
 refine qa rfl (O_binv (a:=.string (q3 op)) (b:=.string (⟨#[]⟩)) rfl rfl rfl eg_string b_neq_string ?_)
 refine qa rfl (qj (v:=.bool (!decide ((q3 op).toList = (⟨#[]⟩ : ByteArray).toList))) rfl rfl ?_)
 refine kn (v:=.string (q3 op)) rfl rfl rfl rfl (fun hg4=>qj (v:=.string (q3 op)) rfl rfl ⟨rfl,rfl⟩) ?_
 refine kn (v:=.int .u8 ((zj op 1).toNat : Int)) rfl rfl rfl rfl (fun hg5=>O_index_str (c:=zj op 1) (k:=.i64) (iv:=1) (show ev _ _ = .string (q3 op) from if_pos hg5) rfl un9 (by decide) (kindsU_get (i:=1) (by have:=kinds_ne ‹_›; omega)) rfl ⟨rfl,rfl⟩) ?_
 refine kn (v:=.bool (decide (((zj op 1).toNat : Int) = 119))) rfl rfl rfl rfl (fun hg6=>qt (k:=.u8) (k':=.u8) (a:=((zj op 1).toNat : Int)) (b:=119) (show ev _ _ = .int .u8 ((zj op 1).toNat : Int) from if_pos hg6) rfl rfl k8 ⟨rfl,rfl⟩) ?_
 refine qa rfl (ka rfl (j1 _ _) rfl ?_)
 refine qa rfl (qf (v:=.bool ((!decide ((q3 op).toList = (⟨#[]⟩ : ByteArray).toList)) && (decide (((zj op 1).toNat : Int) = 119)))) rfl rfl ?_)
 refine ql (qb (zo ?_))
 refine ⟨.bool ((!decide ((q3 op).toList = (⟨#[]⟩ : ByteArray).toList)) && (decide (((zj op 1).toNat : Int) = 119))),res1 rfl,?_⟩
 exact ⟨congrArg Value.bool (wide_eq op),hs2.base⟩

/-- seizin/code.Right -/
theorem right_c (x : InsV) (w : World)  :
  C Try.prog 84 [.agg #[vI x.op,vI x.a,vI x.b,vI x.c]] w fun v w'=>v = .bool (insS x) ∧ Grow w w':=by
 have hs0 : St w (fun _=>False) w [] []:=St.start w _ (by simp)
 refine z8 [.tmp 2] 48 Try.func84 rfl Try.ntmps84 rfl rfl ?_
 refine qi (qc ?_)
 refine qa rfl (jw (v:=.agg #[vI x.op,vI x.a,vI x.b,vI x.c]) (cs:=[vI x.op,vI x.a,vI x.b,vI x.c]) hs0 rfl rfl rfl ?_)
 intro b1 w2 hb4 hs3
 refine qa rfl (qf (v:=.bool false) rfl rfl ?_)
 refine ql (qb (qi (qc ?_)))
 refine qa rfl (qg rfl fd79_1 rfl (o':=1) rfl rfl ?_)
 refine qa rfl (qq (v:=vI x.a) rfl ag3 (qh (hs3.get 0 rfl) rfl) rfl ?_)
 refine qa rfl (qg rfl fd79_2 rfl (o':=2) rfl rfl ?_)
 refine qa rfl (qq (v:=vI x.b) rfl ag3 (qh (hs3.get 0 rfl) rfl) rfl ?_)
 refine qa rfl (qg rfl fd79_3 rfl (o':=3) rfl rfl ?_)
 refine qa rfl (qq (v:=vI x.c) rfl ag3 (qh (hs3.get 0 rfl) rfl) rfl ?_)
 refine qa rfl (xe (ps:=[(0,[vI x.a]),(1,[vI x.b]),(2,[vI x.c])]) (zero:=[vI 0,vI 0,vI 0]) (cells:=[vI x.a,vI x.b,vI x.c]) un118 sz3 zv118 rfl rfl rfl rfl ?_)
 refine qa rfl (kk (cs:=[vI 0,vI 0,vI 0]) hs3 zv118 rfl rfl ?_)
 intro b5 w6 hb8 hs7
 refine qa rfl (zx (v:=.agg #[vI x.a,vI x.b,vI x.c]) (vs:=[vI x.a,vI x.b,vI x.c]) (cs':=[vI x.a,vI x.b,vI x.c]) hs7 0 rfl rfl rfl sz118 rfl rfl rfl rfl rfl ?_)
 intro w9 hs10
 refine ql (qb (qi (qi (qc ?_))))
 refine qa rfl (qg rfl fd79_0 rfl (o':=0) rfl rfl ?_)
 refine qa rfl (qq (v:=vI x.op) rfl ag3 (qh (hs10.get 1 rfl) rfl) rfl ?_)
 refine qa rfl (zi (args:=[vI x.op]) rfl rfl rfl en86 (kinds_c x.op _) ?_)
 rintro _ w11 ⟨rfl,hk13⟩
 have hs12:=hs10.keep hk13
 refine qa rfl (O_range_str hs12 rfl un9 rfl ?_)
 intro b14 w15 hb17 hs16
 refine ql (qb (zy ?_))
 refine kw (fun m_ f_ w_=>∃ k : Nat,m_ = (q3 x.op).size - k ∧ (∀ i,i < k → ∀ h : i < (q3 x.op).size,z4 ((q3 x.op)[i]'h).toNat (arg3 x i) = true) ∧ f_ 1 = .pointer (some ⟨b1,0,none⟩) ∧ f_ 3 = .pointer (some ⟨b5,0,none⟩) ∧ f_ 18 = .pointer (some ⟨b14,0,none⟩) ∧ St w (fun _=>False) w_ [objI b14 (.stringIter (q3 x.op) k),blk b5 [vI x.a,vI x.b,vI x.c] 118,blk b1 [vI x.op,vI x.a,vI x.b,vI x.c] 79] []) ?_ ?_
 ·exact ⟨_,0,rfl,(fun _ h=>by omega),rfl,rfl,rfl,hs16⟩
 ·intro m21 f18 w19; rintro ⟨k,rfl,hl1,e22,e23,e24,hs20⟩
  rewrite [qm e22]
  rewrite [qm e23]
  rewrite [qm e24]
  refine qi ?_
  by_cases hk : k < (q3 x.op).size
  ·refine qc ?_
   refine qa rfl (O_next_ascii (c:=((q3 x.op)[k]'hk)) hs20 0 rfl rfl (hk) (rfl) (kinds_ascii _ _ hk) rfl ?_)
   intro w25 hs26
   refine qa rfl (jh (v:=.bool true) rfl rfl rfl ?_)
   refine ql (qb (qi ?_))
   refine jj rfl ?_
   refine zn (qb (zy (qi (qc ?_))))
   refine qa rfl (jh (v:=vI ((k : Nat) : Int)) rfl rfl rfl ?_)
   refine qa rfl (jh (v:=.int .i32 ((((q3 x.op)[k]'hk).toNat : Nat) : Int)) rfl rfl rfl ?_)
   refine qa rfl (qf (v:=vI ((k : Nat) : Int)) rfl rfl ?_)
   refine qa rfl (qf (v:=.int .i32 ((((q3 x.op)[k]'hk).toNat : Nat) : Int)) rfl rfl ?_)
   refine ql (qb (qi (qc ?_)))
   refine qa rfl (qj (v:=.int .i32 ((((q3 x.op)[k]'hk).toNat : Nat) : Int)) rfl rfl ?_)
   refine qa rfl (zi (args:=[.int .i32 ((((q3 x.op)[k]'hk).toNat : Nat) : Int)]) rfl rfl rfl en87 (bounds_c ((((q3 x.op)[k]'hk).toNat : Nat) : Int) _) ?_)
   rintro _ w27 ⟨rfl,hk29⟩
   have hs28:=hs26.keep hk29
   refine qa rfl (qj (v:=.tuple #[vI ((bndS ((((q3 x.op)[k]'hk).toNat : Nat) : Int)).1),vI ((bndS ((((q3 x.op)[k]'hk).toNat : Nat) : Int)).2)]) rfl rfl ?_)
   refine qa rfl (jh (v:=vI ((bndS ((((q3 x.op)[k]'hk).toNat : Nat) : Int)).1)) rfl rfl rfl ?_)
   refine qa rfl (jh (v:=vI ((bndS ((((q3 x.op)[k]'hk).toNat : Nat) : Int)).2)) rfl rfl rfl ?_)
   refine qa rfl (qf (v:=vI ((bndS ((((q3 x.op)[k]'hk).toNat : Nat) : Int)).1)) rfl rfl ?_)
   refine qa rfl (qf (v:=vI ((bndS ((((q3 x.op)[k]'hk).toNat : Nat) : Int)).2)) rfl rfl ?_)
   refine ql (qb (qi (qc ?_)))
   refine qa rfl (qj (v:=vI ((k : Nat) : Int)) rfl rfl ?_)
   refine qa rfl (k6 rfl rfl un118 sz3 (by omega) (by have:=kinds_size x.op; omega) (o':=0 + k * 1) (by omega) rfl ?_)
   refine qa rfl (qq (v:=vI (arg3 x k)) rfl ag3 (qh (hs28.get 1 rfl) (arg3_get x (by have:=kinds_size x.op; omega))) rfl ?_)
   refine qa rfl (qj (v:=vI ((bndS ((((q3 x.op)[k]'hk).toNat : Nat) : Int)).1)) rfl rfl ?_)
   refine qa rfl (qt (k:=.i64) (k':=.i64) (a:=(arg3 x k)) (b:=((bndS ((((q3 x.op)[k]'hk).toNat : Nat) : Int)).1)) rfl rfl rfl jg ?_)
   refine qa rfl (qj (v:=.bool (decide ((arg3 x k) < ((bndS ((((q3 x.op)[k]'hk).toNat : Nat) : Int)).1)))) rfl rfl ?_)
   refine q4 (v:=vI ((k : Nat) : Int)) rfl rfl rfl rfl (fun hg30=>qj (v:=vI ((k : Nat) : Int)) rfl rfl ⟨rfl,rfl⟩) ?_
   refine q4 (v:=.pointer (some ⟨b5,0 + k * 1,none⟩)) rfl rfl rfl rfl (fun hg31=>k6 rfl (show ev _ _ = vI ((k : Nat) : Int) from if_pos hg31) un118 sz3 (by omega) (by have:=kinds_size x.op; omega) (o':=0 + k * 1) (by omega) rfl ⟨rfl,rfl⟩) ?_
   refine q4 (v:=vI (arg3 x k)) rfl rfl rfl rfl (fun hg32=>qq (v:=vI (arg3 x k)) (show ev _ _ = .pointer (some ⟨b5,0 + k * 1,none⟩) from if_pos hg32) ag3 (qh (hs28.get 1 rfl) (arg3_get x (by have:=kinds_size x.op; omega))) rfl ⟨rfl,rfl⟩) ?_
   refine q4 (v:=vI ((bndS ((((q3 x.op)[k]'hk).toNat : Nat) : Int)).2)) rfl rfl rfl rfl (fun hg33=>qj (v:=vI ((bndS ((((q3 x.op)[k]'hk).toNat : Nat) : Int)).2)) rfl rfl ⟨rfl,rfl⟩) ?_
   refine q4 (v:=.bool (decide (((bndS ((((q3 x.op)[k]'hk).toNat : Nat) : Int)).2) < (arg3 x k)))) rfl rfl rfl rfl (fun hg34=>qt (k:=.i64) (k':=.i64) (a:=(arg3 x k)) (b:=((bndS ((((q3 x.op)[k]'hk).toNat : Nat) : Int)).2)) (show ev _ _ = vI (arg3 x k) from if_pos hg34) (show ev _ _ = vI ((bndS ((((q3 x.op)[k]'hk).toNat : Nat) : Int)).2) from if_pos hg34) rfl b_gtr ⟨rfl,rfl⟩) ?_
   refine qa rfl (ka rfl (jk _ _) rfl ?_)
   refine ql (qb ?_)
   refine k5 (t:=((decide ((arg3 x k) < ((bndS ((((q3 x.op)[k]'hk).toNat : Nat) : Int)).1))) || (decide (((bndS ((((q3 x.op)[k]'hk).toNat : Nat) : Int)).2) < (arg3 x k))))) rfl (fun hc35=>?_) (fun hc35=>?_)
   ·try simp only [Bool.and_eq_true,Bool.or_eq_true,Bool.not_eq_true',Bool.and_eq_false_iff,Bool.or_eq_false_iff,Bool.not_eq_false',decide_eq_true_eq,decide_eq_false_iff_not,Bool.and_eq_false_imp] at hc35
    refine qi (qc ?_)
    refine qa rfl (qf (v:=.bool false) rfl rfl ?_)
    refine ql (qb (zo (zk (q9 (zk (q9 ?_))))))
    refine ⟨.bool false,res1 rfl,?_⟩
    exact ⟨congrArg Value.bool (insS_false hk (by simpa using hc35)),hs28.base⟩
   ·try simp only [Bool.and_eq_true,Bool.or_eq_true,Bool.not_eq_true',Bool.and_eq_false_iff,Bool.or_eq_false_iff,Bool.not_eq_false',decide_eq_true_eq,decide_eq_false_iff_not,Bool.and_eq_false_imp] at hc35
    refine zn (z7 (qb ?_))
    refine ⟨_,?_,k + 1,rfl,(fine_succ hk hl1 (by simpa using hc35)),rfl,rfl,rfl,hs28⟩
    omega
  ·refine qc ?_
   refine qa rfl (O_next_over hs20 0 rfl rfl (by omega) rfl ?_)
   refine qa rfl (jh (v:=.bool false) rfl rfl rfl ?_)
   refine ql (qb (qi ?_))
   refine W_cond_f rfl ?_
   refine ja (z0 (z0 (ke (qb (qi (qc ?_))))))
   refine qa rfl (qg rfl fd79_0 rfl (o':=0) rfl rfl ?_)
   refine qa rfl (qq (v:=vI x.op) rfl ag3 (qh (hs20.get 2 rfl) rfl) rfl ?_)
   refine qa rfl (qt (k:=.i64) (k':=.i64) (a:=x.op) (b:=0) rfl rfl rfl b_geq ?_)
   refine qa rfl (qj (v:=.bool (decide (0 ≤ x.op))) rfl rfl ?_)
   refine kn (v:=.pointer (some ⟨b1,0,none⟩)) rfl rfl rfl rfl (fun hg36=>qg rfl fd79_0 rfl (o':=0) rfl rfl ⟨rfl,rfl⟩) ?_
   refine kn (v:=vI x.op) rfl rfl rfl rfl (fun hg37=>qq (v:=vI x.op) (show ev _ _ = .pointer (some ⟨b1,0,none⟩) from if_pos hg37) ag3 (qh (hs20.get 2 rfl) rfl) rfl ⟨rfl,rfl⟩) ?_
   refine kn (v:=.bool (decide (x.op ≤ 29))) rfl rfl rfl rfl (fun hg38=>qt (k:=.i64) (k':=.i64) (a:=x.op) (b:=29) (show ev _ _ = vI x.op from if_pos hg38) rfl rfl b_leq ⟨rfl,rfl⟩) ?_
   refine qa rfl (ka rfl (j1 _ _) rfl ?_)
   refine qa rfl (qf (v:=.bool (decide (0 ≤ x.op) && decide (x.op ≤ 29))) rfl rfl ?_)
   refine ql (qb (zo ?_))
   refine ⟨.bool (decide (0 ≤ x.op) && decide (x.op ≤ 29)),res1 rfl,?_⟩
   exact ⟨congrArg Value.bool (insS_true hk hl1),hs20.base⟩

/-- seizin/code.Get -/
theorem get_c (a : Option Addr) (cap : Nat) (l : List UInt8) (w : World) (h : (arrI encB 1 a l).φ w) (hl : l.length ≤ 20000) :
  C Try.prog 75 [.slice a l.length cap] w fun v w'=>v = .tuple #[.agg (insCells (getS l).1),vI (getS l).2] ∧ Grow w w':=by
 have hs0 : St w (fun _=>False) w [] [arrI encB 1 a l]:=St.start w _ (by simpa using h)
 refine z8 [.cell 2 79,.tmp 3] 48 Try.func75 rfl Try.ntmps75 rfl rfl ?_
 refine qi (qc ?_)
 refine qa rfl (kk (cs:=[vI 0,vI 0,vI 0,vI 0]) hs0 zv79 rfl rfl ?_)
 intro b1 w2 hb4 hs3
 refine qa rfl (qf (v:=vI 0) rfl rfl ?_)
 refine ql (qb (qi (qi (qc ?_))))
 refine qa rfl (qj (v:=.slice a l.length cap) rfl rfl ?_)
 refine qa rfl (qx (len:=l.length) rfl un27 rfl ?_)
 refine qa rfl (qt (k:=.i64) (k':=.i64) (a:=((l.length : Nat) : Int)) (b:=4) rfl rfl rfl yd ?_)
 refine ql (qb ?_)
 refine zd rfl (fun hc5=>?_) (fun hc5=>?_)
 ·refine qi (qc ?_)
  refine qa rfl (jl (ps:=[]) (cells:=[vI 0,vI 0,vI 0,vI 0]) bt79 rfl rfl rfl ?_)
  refine qa rfl (zx (v:=.agg #[vI 0,vI 0,vI 0,vI 0]) (vs:=[vI 0,vI 0,vI 0,vI 0]) (cs':=[vI 0,vI 0,vI 0,vI 0]) hs3 0 rfl rfl rfl sz79 rfl rfl rfl rfl rfl ?_)
  intro w6 hs7
  refine qa rfl (qf (v:=vI 1) rfl rfl ?_)
  refine ql (qb (zo (q9 ?_)))
  refine ⟨.tuple #[.agg #[vI 0,vI 0,vI 0,vI 0],vI 1],resn [.agg #[vI 0,vI 0,vI 0,vI 0],vI 1] ⟨(xc rfl ag79 sz79 (vs:=[vI 0,vI 0,vI 0,vI 0]) (Rd.of_blk (hs7.get 0 rfl) 0 4) rfl),(rv_tmp rfl),trivial⟩ rfl,?_⟩
  exact ⟨by rw [getS_other hc5]; rfl,hs7.base⟩
 ·refine zn (qb (qi ?_))
  obtain ⟨b8,o9,ha10,hs11⟩:=hs3.elem 0 rfl 0 (by omega)
  obtain ⟨b12,o13,ha14,hs15⟩:=hs11.elem 1 rfl 1 (by omega)
  obtain ⟨b16,o17,ha18,hs19⟩:=hs15.elem 2 rfl 2 (by omega)
  obtain ⟨b20,o21,ha22,hs23⟩:=hs19.elem 3 rfl 3 (by omega)
  refine jc js (show St _ _ _ [blk b1 [vI 0,vI 0,vI 0,vI 0] 79] _ from hs23) (fun i_=>match i_ with|17=>some ([4],fun vs_=>match vs_ with|[x4]=>blk (vblk x4) [vI 0,vI 0,vI 0,vI 0] 79|_=>emp)|18=>some ([4],fun vs_=>match vs_ with|[x4]=>blk (vblk x4) [vI ((l[0]'(by omega)).toNat : Int),vI ((l[1]'(by omega)).toNat : Int),vI ((l[2]'(by omega)).toNat : Int),vI ((l[3]'(by omega)).toNat : Int)] 79|_=>emp)|_=>none) (fun i_=>match i_ with|18=>[17]|_=>[]) (fun i_=>match i_ with|_=>[]) (fun i_=>match i_ with|1=>[0]|2=>[1]|3=>[2]|5=>[4]|6=>[5]|7=>[6]|9=>[8]|10=>[9]|11=>[10]|13=>[12]|14=>[13]|15=>[14]|16=>[3,7,11,15]|18=>[17,16]|_=>[]) [18,19,0,1,2,3,4,5,6,7,8,9,10,11,12,13,14,15,16,20,21,22,23,24,25,26,27,28,29,30,31,32,33,34,35,36,37,38] [17] (fun i_ v_=>match i_ with|0=>v_ = .slice a l.length cap|1=>v_ = .pointer (some ⟨b8,o9 + 0 * 1,none⟩)|2=>v_ = .int .u8 ((l[0]'(by omega)).toNat : Int)|3=>v_ = vI ((l[0]'(by omega)).toNat : Int)|4=>v_ = .slice a l.length cap|5=>v_ = .pointer (some ⟨b12,o13 + 1 * 1,none⟩)|6=>v_ = .int .u8 ((l[1]'(by omega)).toNat : Int)|7=>v_ = vI ((l[1]'(by omega)).toNat : Int)|8=>v_ = .slice a l.length cap|9=>v_ = .pointer (some ⟨b16,o17 + 2 * 1,none⟩)|10=>v_ = .int .u8 ((l[2]'(by omega)).toNat : Int)|11=>v_ = vI ((l[2]'(by omega)).toNat : Int)|12=>v_ = .slice a l.length cap|13=>v_ = .pointer (some ⟨b20,o21 + 3 * 1,none⟩)|14=>v_ = .int .u8 ((l[3]'(by omega)).toNat : Int)|15=>v_ = vI ((l[3]'(by omega)).toNat : Int)|16=>v_ = .agg #[vI ((l[0]'(by omega)).toNat : Int),vI ((l[1]'(by omega)).toNat : Int),vI ((l[2]'(by omega)).toNat : Int),vI ((l[3]'(by omega)).toNat : Int)]|17=>∃ b24 : Nat,v_ = .pointer (some ⟨b24,0,none⟩)|_=>True) (by kernel_rfl) (by kernel_rfl) ⟨?_,?_,?_,?_,?_,?_,?_,?_,?_,?_,?_,?_,?_,?_,?_,?_,?_,?_,?_,trivial⟩ ?_
  ·intro f0_ w0_ X0_ qp qo qu qk
   have hb0 : f0_ 0 = .slice a l.length cap:=(qp 0 rfl)
   refine qe rfl (qj (v:=.slice a l.length cap) hb0 rfl ?_)
   exact ⟨.slice a l.length cap,rfl,rfl,qk⟩
  ·intro f1_ w1_ X1_ qp qo qu qk
   obtain ⟨hu0,-⟩:=qo
   have hu0 : f1_ 9 = .slice a l.length cap:=hu0
   refine qe rfl (qs hu0 ha10 rfl un27 sz5 (by omega) (by omega) (o':=o9 + 0 * 1) (by omega) rfl ?_)
   exact ⟨.pointer (some ⟨b8,o9 + 0 * 1,none⟩),rfl,rfl,qk⟩
  ·intro f2_ w2_ X2_ qp qo qu qk
   obtain ⟨hu1,-⟩:=qo
   have hu1 : f2_ 10 = .pointer (some ⟨b8,o9 + 0 * 1,none⟩):=hu1
   refine qe rfl (qq (v:=.int .u8 ((l[0]'(by omega)).toNat : Int)) hu1 ag5 ((qk.getR 3 rfl).2 0 _ rfl) rfl ?_)
   exact ⟨.int .u8 ((l[0]'(by omega)).toNat : Int),rfl,rfl,qk⟩
  ·intro f3_ w3_ X3_ qp qo qu qk
   obtain ⟨hu2,-⟩:=qo
   have hu2 : f3_ 11 = .int .u8 ((l[0]'(by omega)).toNat : Int):=hu2
   refine qe rfl (ky hu2 un5 un3 rfl (c:=((l[0]'(by omega)).toNat : Int)) (j6 _) ?_)
   exact ⟨vI ((l[0]'(by omega)).toNat : Int),rfl,rfl,qk⟩
  ·intro f4_ w4_ X4_ qp qo qu qk
   have hb0 : f4_ 0 = .slice a l.length cap:=(qp 0 rfl)
   refine qe rfl (qj (v:=.slice a l.length cap) hb0 rfl ?_)
   exact ⟨.slice a l.length cap,rfl,rfl,qk⟩
  ·intro f5_ w5_ X5_ qp qo qu qk
   obtain ⟨hu4,-⟩:=qo
   have hu4 : f5_ 13 = .slice a l.length cap:=hu4
   refine qe rfl (qs hu4 ha14 rfl un27 sz5 (by omega) (by omega) (o':=o13 + 1 * 1) (by omega) rfl ?_)
   exact ⟨.pointer (some ⟨b12,o13 + 1 * 1,none⟩),rfl,rfl,qk⟩
  ·intro f6_ w6_ X6_ qp qo qu qk
   obtain ⟨hu5,-⟩:=qo
   have hu5 : f6_ 14 = .pointer (some ⟨b12,o13 + 1 * 1,none⟩):=hu5
   refine qe rfl (qq (v:=.int .u8 ((l[1]'(by omega)).toNat : Int)) hu5 ag5 ((qk.getR 2 rfl).2 0 _ rfl) rfl ?_)
   exact ⟨.int .u8 ((l[1]'(by omega)).toNat : Int),rfl,rfl,qk⟩
  ·intro f7_ w7_ X7_ qp qo qu qk
   obtain ⟨hu6,-⟩:=qo
   have hu6 : f7_ 15 = .int .u8 ((l[1]'(by omega)).toNat : Int):=hu6
   refine qe rfl (ky hu6 un5 un3 rfl (c:=((l[1]'(by omega)).toNat : Int)) (j6 _) ?_)
   exact ⟨vI ((l[1]'(by omega)).toNat : Int),rfl,rfl,qk⟩
  ·intro f8_ w8_ X8_ qp qo qu qk
   have hb0 : f8_ 0 = .slice a l.length cap:=(qp 0 rfl)
   refine qe rfl (qj (v:=.slice a l.length cap) hb0 rfl ?_)
   exact ⟨.slice a l.length cap,rfl,rfl,qk⟩
  ·intro f9_ w9_ X9_ qp qo qu qk
   obtain ⟨hu8,-⟩:=qo
   have hu8 : f9_ 17 = .slice a l.length cap:=hu8
   refine qe rfl (qs hu8 ha18 rfl un27 sz5 (by omega) (by omega) (o':=o17 + 2 * 1) (by omega) rfl ?_)
   exact ⟨.pointer (some ⟨b16,o17 + 2 * 1,none⟩),rfl,rfl,qk⟩
  ·intro f10_ w10_ X10_ qp qo qu qk
   obtain ⟨hu9,-⟩:=qo
   have hu9 : f10_ 18 = .pointer (some ⟨b16,o17 + 2 * 1,none⟩):=hu9
   refine qe rfl (qq (v:=.int .u8 ((l[2]'(by omega)).toNat : Int)) hu9 ag5 ((qk.getR 1 rfl).2 0 _ rfl) rfl ?_)
   exact ⟨.int .u8 ((l[2]'(by omega)).toNat : Int),rfl,rfl,qk⟩
  ·intro f11_ w11_ X11_ qp qo qu qk
   obtain ⟨hu10,-⟩:=qo
   have hu10 : f11_ 19 = .int .u8 ((l[2]'(by omega)).toNat : Int):=hu10
   refine qe rfl (ky hu10 un5 un3 rfl (c:=((l[2]'(by omega)).toNat : Int)) (j6 _) ?_)
   exact ⟨vI ((l[2]'(by omega)).toNat : Int),rfl,rfl,qk⟩
  ·intro f12_ w12_ X12_ qp qo qu qk
   have hb0 : f12_ 0 = .slice a l.length cap:=(qp 0 rfl)
   refine qe rfl (qj (v:=.slice a l.length cap) hb0 rfl ?_)
   exact ⟨.slice a l.length cap,rfl,rfl,qk⟩
  ·intro f13_ w13_ X13_ qp qo qu qk
   obtain ⟨hu12,-⟩:=qo
   have hu12 : f13_ 21 = .slice a l.length cap:=hu12
   refine qe rfl (qs hu12 ha22 rfl un27 sz5 (by omega) (by omega) (o':=o21 + 3 * 1) (by omega) rfl ?_)
   exact ⟨.pointer (some ⟨b20,o21 + 3 * 1,none⟩),rfl,rfl,qk⟩
  ·intro f14_ w14_ X14_ qp qo qu qk
   obtain ⟨hu13,-⟩:=qo
   have hu13 : f14_ 22 = .pointer (some ⟨b20,o21 + 3 * 1,none⟩):=hu13
   refine qe rfl (qq (v:=.int .u8 ((l[3]'(by omega)).toNat : Int)) hu13 ag5 ((qk.getR 0 rfl).2 0 _ rfl) rfl ?_)
   exact ⟨.int .u8 ((l[3]'(by omega)).toNat : Int),rfl,rfl,qk⟩
  ·intro f15_ w15_ X15_ qp qo qu qk
   obtain ⟨hu14,-⟩:=qo
   have hu14 : f15_ 23 = .int .u8 ((l[3]'(by omega)).toNat : Int):=hu14
   refine qe rfl (ky hu14 un5 un3 rfl (c:=((l[3]'(by omega)).toNat : Int)) (j6 _) ?_)
   exact ⟨vI ((l[3]'(by omega)).toNat : Int),rfl,rfl,qk⟩
  ·intro f16_ w16_ X16_ qp qo qu qk
   obtain ⟨hu3,hu7,hu11,hu15,-⟩:=qo
   have hu3 : f16_ 12 = vI ((l[0]'(by omega)).toNat : Int):=hu3
   have hu7 : f16_ 16 = vI ((l[1]'(by omega)).toNat : Int):=hu7
   have hu11 : f16_ 20 = vI ((l[2]'(by omega)).toNat : Int):=hu11
   have hu15 : f16_ 24 = vI ((l[3]'(by omega)).toNat : Int):=hu15
   refine qe rfl (jl (ps:=[(0,[vI ((l[0]'(by omega)).toNat : Int)]),(1,[vI ((l[1]'(by omega)).toNat : Int)]),(2,[vI ((l[2]'(by omega)).toNat : Int)]),(3,[vI ((l[3]'(by omega)).toNat : Int)])]) (cells:=[vI ((l[0]'(by omega)).toNat : Int),vI ((l[1]'(by omega)).toNat : Int),vI ((l[2]'(by omega)).toNat : Int),vI ((l[3]'(by omega)).toNat : Int)]) bt79 (by simp only [List.map_cons,List.map_nil,List.nil_append,List.cons_append,List.append_nil,ev,Value.cells,hu3,hu7,hu11,hu15]) rfl rfl ?_)
   exact ⟨.agg #[vI ((l[0]'(by omega)).toNat : Int),vI ((l[1]'(by omega)).toNat : Int),vI ((l[2]'(by omega)).toNat : Int),vI ((l[3]'(by omega)).toNat : Int)],rfl,rfl,qk⟩
  ·intro f17_ w17_ X17_ qp qo qu qk
   refine qe rfl (kk (cs:=[vI 0,vI 0,vI 0,vI 0]) qk zv79 rfl rfl ?_)
   intro b24 w25 hb27 hs26
   refine ⟨.pointer (some ⟨b24,0,none⟩),rfl,⟨_,rfl⟩,?_⟩
   show St _ _ _ ((blk (vblk ((upd f17_ 4 (.pointer (some ⟨b24,0,none⟩))) 4)) [vI 0,vI 0,vI 0,vI 0] 79) :: X17_) _
   exact hs26
  ·intro f18_ w18_ X18_ qp qo qu qk
   obtain ⟨hu17,hu16,-⟩:=qo
   obtain ⟨b24,hu17⟩:=(show ∃ b24 : Nat,f18_ 4 = .pointer (some ⟨b24,0,none⟩) from hu17)
   have hu16 : f18_ 25 = .agg #[vI ((l[0]'(by omega)).toNat : Int),vI ((l[1]'(by omega)).toNat : Int),vI ((l[2]'(by omega)).toNat : Int),vI ((l[3]'(by omega)).toNat : Int)]:=hu16
   have qk : St _ _ _ ((blk (vblk (f18_ 4)) [vI 0,vI 0,vI 0,vI 0] 79) :: X18_) _:=qk
   rw [hu17] at qk; simp only [vblk,zf,vcap,z3] at qk
   refine qe rfl (zx (v:=.agg #[vI ((l[0]'(by omega)).toNat : Int),vI ((l[1]'(by omega)).toNat : Int),vI ((l[2]'(by omega)).toNat : Int),vI ((l[3]'(by omega)).toNat : Int)]) (vs:=[vI ((l[0]'(by omega)).toNat : Int),vI ((l[1]'(by omega)).toNat : Int),vI ((l[2]'(by omega)).toNat : Int),vI ((l[3]'(by omega)).toNat : Int)]) (cs':=[vI ((l[0]'(by omega)).toNat : Int),vI ((l[1]'(by omega)).toNat : Int),vI ((l[2]'(by omega)).toNat : Int),vI ((l[3]'(by omega)).toNat : Int)]) qk 0 rfl hu17 hu16 sz79 rfl rfl rfl rfl rfl ?_)
   intro w28 hs29
   refine ⟨undef,rfl,trivial,?_⟩
   show St _ _ _ ((blk (vblk (f18_ 4)) [vI ((l[0]'(by omega)).toNat : Int),vI ((l[1]'(by omega)).toNat : Int),vI ((l[2]'(by omega)).toNat : Int),vI ((l[3]'(by omega)).toNat : Int)] 79) :: X18_) _
   rw [show (f18_) 4 = _ from hu17]
   exact hs29
  intro f30 w31 qp qo hs32
  obtain ⟨hu17,-⟩:=qo
  obtain ⟨b24,hu17⟩:=(show ∃ b24 : Nat,f30 4 = .pointer (some ⟨b24,0,none⟩) from hu17)
  have hs32 : St _ _ _ [blk (vblk (f30 4)) [vI ((l[0]'(by omega)).toNat : Int),vI ((l[1]'(by omega)).toNat : Int),vI ((l[2]'(by omega)).toNat : Int),vI ((l[3]'(by omega)).toNat : Int)] 79,blk b1 [vI 0,vI 0,vI 0,vI 0] 79] _:=hs32
  simp only [hu17,vblk,zf,vcap,z3] at hs32
  have hs32 : St _ _ _ [blk b24 [vI ((l[0]'(by omega)).toNat : Int),vI ((l[1]'(by omega)).toNat : Int),vI ((l[2]'(by omega)).toNat : Int),vI ((l[3]'(by omega)).toNat : Int)] 79,blk b1 [vI 0,vI 0,vI 0,vI 0] 79] _:=hs32
  have e33 : f30 0 = .slice a l.length cap:=(qp 0 rfl)
  rewrite [qm e33]
  have e34 : f30 2 = .pointer (some ⟨b1,0,none⟩):=(qp 2 rfl)
  rewrite [qm e34]
  rewrite [qm hu17]
  refine qb (qi (qi (qc ?_)))
  refine qa rfl (qg rfl fd79_0 rfl (o':=0) rfl rfl ?_)
  refine qa rfl (qq (v:=vI ((l[0]'(by omega)).toNat : Int)) rfl ag3 (qh (hs32.get 0 rfl) rfl) rfl ?_)
  refine qa rfl (zi (args:=[vI ((l[0]'(by omega)).toNat : Int)]) rfl rfl rfl en83 (isWide_c ((l[0]'(by omega)).toNat : Int) _) ?_)
  rintro _ w35 ⟨rfl,hk37⟩
  have hs36:=hs32.keep hk37
  refine ql (qb ?_)
  refine k5 (t:=(yc ((l[0]'(by omega)).toNat : Int))) rfl (fun hc38=>?_) (fun hc38=>?_)
  ·try simp only [Bool.and_eq_true,Bool.or_eq_true,Bool.not_eq_true',Bool.and_eq_false_iff,Bool.or_eq_false_iff,Bool.not_eq_false',decide_eq_true_eq,decide_eq_false_iff_not,Bool.and_eq_false_imp] at hc38
   refine jc js (show St _ _ _ [blk b24 [vI ((l[0]'(by omega)).toNat : Int),vI ((l[1]'(by omega)).toNat : Int),vI ((l[2]'(by omega)).toNat : Int),vI ((l[3]'(by omega)).toNat : Int)] 79,blk b1 [vI 0,vI 0,vI 0,vI 0] 79] _ from hs36) (fun i_=>match i_ with|13=>some ([],fun _=>blk b24 [vI ((l[0]'(by omega)).toNat : Int),vI ((l[1]'(by omega)).toNat : Int),vI (jz (l[2]'(by omega)).toNat (l[3]'(by omega)).toNat),vI ((l[3]'(by omega)).toNat : Int)] 79)|15=>some ([],fun _=>blk b24 [vI ((l[0]'(by omega)).toNat : Int),vI ((l[1]'(by omega)).toNat : Int),vI (jz (l[2]'(by omega)).toNat (l[3]'(by omega)).toNat),vI 0] 79)|_=>none) (fun i_=>match i_ with|13=>[16]|15=>[13]|_=>[]) (fun i_=>match i_ with|_=>[]) (fun i_=>match i_ with|1=>[0]|2=>[1]|3=>[2]|4=>[3]|6=>[5]|7=>[6]|8=>[7]|9=>[4,8]|10=>[9]|11=>[10]|13=>[12,11]|15=>[14]|_=>[]) [15,17,0,1,2,3,4,5,6,7,8,9,10,11,12,14,18,19,20,21,22,23,24,25,26,27,28,29,30,31,32,33] [] (fun i_ v_=>match i_ with|0=>v_ = .slice a l.length cap|1=>v_ = .pointer (some ⟨b16,o17 + 2 * 1,none⟩)|2=>v_ = .int .u8 ((l[2]'(by omega)).toNat : Int)|3=>v_ = .int .u16 ((l[2]'(by omega)).toNat : Int)|4=>v_ = .int .u16 (((l[2]'(by omega)).toNat : Int) * 256)|5=>v_ = .slice a l.length cap|6=>v_ = .pointer (some ⟨b20,o21 + 3 * 1,none⟩)|7=>v_ = .int .u8 ((l[3]'(by omega)).toNat : Int)|8=>v_ = .int .u16 ((l[3]'(by omega)).toNat : Int)|9=>v_ = .int .u16 (((l[2]'(by omega)).toNat : Int) * 256 + ((l[3]'(by omega)).toNat : Int))|10=>v_ = .int .i16 (jz (l[2]'(by omega)).toNat (l[3]'(by omega)).toNat)|11=>v_ = vI (jz (l[2]'(by omega)).toNat (l[3]'(by omega)).toNat)|12=>v_ = .pointer (some ⟨b24,2,none⟩)|14=>v_ = .pointer (some ⟨b24,3,none⟩)|_=>True) (by kernel_rfl) (by kernel_rfl) ⟨?_,?_,?_,?_,?_,?_,?_,?_,?_,?_,?_,?_,?_,?_,?_,?_,trivial⟩ ?_
   ·intro f0_ w0_ X0_ qp qo qu qk
    have hb0 : f0_ 0 = .slice a l.length cap:=(qp 0 rfl)
    refine qe rfl (qj (v:=.slice a l.length cap) hb0 rfl ?_)
    exact ⟨.slice a l.length cap,rfl,rfl,qk⟩
   ·intro f1_ w1_ X1_ qp qo qu qk
    obtain ⟨hu0,-⟩:=qo
    have hu0 : f1_ 29 = .slice a l.length cap:=hu0
    refine qe rfl (qs hu0 ha18 rfl un27 sz5 (by omega) (by omega) (o':=o17 + 2 * 1) (by omega) rfl ?_)
    exact ⟨.pointer (some ⟨b16,o17 + 2 * 1,none⟩),rfl,rfl,qk⟩
   ·intro f2_ w2_ X2_ qp qo qu qk
    obtain ⟨hu1,-⟩:=qo
    have hu1 : f2_ 30 = .pointer (some ⟨b16,o17 + 2 * 1,none⟩):=hu1
    refine qe rfl (qq (v:=.int .u8 ((l[2]'(by omega)).toNat : Int)) hu1 ag5 ((qk.getR 1 rfl).2 0 _ rfl) rfl ?_)
    exact ⟨.int .u8 ((l[2]'(by omega)).toNat : Int),rfl,rfl,qk⟩
   ·intro f3_ w3_ X3_ qp qo qu qk
    obtain ⟨hu2,-⟩:=qo
    have hu2 : f3_ 31 = .int .u8 ((l[2]'(by omega)).toNat : Int):=hu2
    refine qe rfl (ky hu2 un5 un57 rfl (c:=((l[2]'(by omega)).toNat : Int)) (conv_u8_u16 _) ?_)
    exact ⟨.int .u16 ((l[2]'(by omega)).toNat : Int),rfl,rfl,qk⟩
   ·intro f4_ w4_ X4_ qp qo qu qk
    obtain ⟨hu3,-⟩:=qo
    have hu3 : f4_ 32 = .int .u16 ((l[2]'(by omega)).toNat : Int):=hu3
    refine qe rfl (qt (v:=.int .u16 (((l[2]'(by omega)).toNat : Int) * 256)) hu3 rfl rfl (b_shl (by omega) (shl8_b _)) ?_)
    exact ⟨.int .u16 (((l[2]'(by omega)).toNat : Int) * 256),rfl,rfl,qk⟩
   ·intro f5_ w5_ X5_ qp qo qu qk
    have hb0 : f5_ 0 = .slice a l.length cap:=(qp 0 rfl)
    refine qe rfl (qj (v:=.slice a l.length cap) hb0 rfl ?_)
    exact ⟨.slice a l.length cap,rfl,rfl,qk⟩
   ·intro f6_ w6_ X6_ qp qo qu qk
    obtain ⟨hu5,-⟩:=qo
    have hu5 : f6_ 34 = .slice a l.length cap:=hu5
    refine qe rfl (qs hu5 ha22 rfl un27 sz5 (by omega) (by omega) (o':=o21 + 3 * 1) (by omega) rfl ?_)
    exact ⟨.pointer (some ⟨b20,o21 + 3 * 1,none⟩),rfl,rfl,qk⟩
   ·intro f7_ w7_ X7_ qp qo qu qk
    obtain ⟨hu6,-⟩:=qo
    have hu6 : f7_ 35 = .pointer (some ⟨b20,o21 + 3 * 1,none⟩):=hu6
    refine qe rfl (qq (v:=.int .u8 ((l[3]'(by omega)).toNat : Int)) hu6 ag5 ((qk.getR 0 rfl).2 0 _ rfl) rfl ?_)
    exact ⟨.int .u8 ((l[3]'(by omega)).toNat : Int),rfl,rfl,qk⟩
   ·intro f8_ w8_ X8_ qp qo qu qk
    obtain ⟨hu7,-⟩:=qo
    have hu7 : f8_ 36 = .int .u8 ((l[3]'(by omega)).toNat : Int):=hu7
    refine qe rfl (ky hu7 un5 un57 rfl (c:=((l[3]'(by omega)).toNat : Int)) (conv_u8_u16 _) ?_)
    exact ⟨.int .u16 ((l[3]'(by omega)).toNat : Int),rfl,rfl,qk⟩
   ·intro f9_ w9_ X9_ qp qo qu qk
    obtain ⟨hu4,hu8,-⟩:=qo
    have hu4 : f9_ 33 = .int .u16 (((l[2]'(by omega)).toNat : Int) * 256):=hu4
    have hu8 : f9_ 37 = .int .u16 ((l[3]'(by omega)).toNat : Int):=hu8
    refine qe rfl (qt (v:=.int .u16 (((l[2]'(by omega)).toNat : Int) * 256 + ((l[3]'(by omega)).toNat : Int))) hu4 hu8 rfl (b_or (or_b _ _)) ?_)
    exact ⟨.int .u16 (((l[2]'(by omega)).toNat : Int) * 256 + ((l[3]'(by omega)).toNat : Int)),rfl,rfl,qk⟩
   ·intro f10_ w10_ X10_ qp qo qu qk
    obtain ⟨hu9,-⟩:=qo
    have hu9 : f10_ 38 = .int .u16 (((l[2]'(by omega)).toNat : Int) * 256 + ((l[3]'(by omega)).toNat : Int)):=hu9
    refine qe rfl (ky hu9 un57 un116 rfl (c:=jz (l[2]'(by omega)).toNat (l[3]'(by omega)).toNat) (wide_b _ _) ?_)
    exact ⟨.int .i16 (jz (l[2]'(by omega)).toNat (l[3]'(by omega)).toNat),rfl,rfl,qk⟩
   ·intro f11_ w11_ X11_ qp qo qu qk
    obtain ⟨hu10,-⟩:=qo
    have hu10 : f11_ 39 = .int .i16 (jz (l[2]'(by omega)).toNat (l[3]'(by omega)).toNat):=hu10
    refine qe rfl (ky hu10 un116 un3 rfl (c:=jz (l[2]'(by omega)).toNat (l[3]'(by omega)).toNat) (wide_i64 _ _) ?_)
    exact ⟨vI (jz (l[2]'(by omega)).toNat (l[3]'(by omega)).toNat),rfl,rfl,qk⟩
   ·intro f12_ w12_ X12_ qp qo qu qk
    have hb4 : f12_ 4 = .pointer (some ⟨b24,0,none⟩):=(qp 4 rfl)
    refine qe rfl (qg hb4 fd79_2 rfl (o':=2) rfl rfl ?_)
    exact ⟨.pointer (some ⟨b24,2,none⟩),rfl,rfl,qk⟩
   ·intro f13_ w13_ X13_ qp qo qu qk
    obtain ⟨hu12,hu11,-⟩:=qo
    have hu12 : f13_ 41 = .pointer (some ⟨b24,2,none⟩):=hu12
    have hu11 : f13_ 40 = vI (jz (l[2]'(by omega)).toNat (l[3]'(by omega)).toNat):=hu11
    have qk : St _ _ _ ((blk b24 [vI ((l[0]'(by omega)).toNat : Int),vI ((l[1]'(by omega)).toNat : Int),vI ((l[2]'(by omega)).toNat : Int),vI ((l[3]'(by omega)).toNat : Int)] 79) :: X13_) _:=qk
    refine qe rfl (zx (v:=vI (jz (l[2]'(by omega)).toNat (l[3]'(by omega)).toNat)) (vs:=[vI (jz (l[2]'(by omega)).toNat (l[3]'(by omega)).toNat)]) (cs':=[vI ((l[0]'(by omega)).toNat : Int),vI ((l[1]'(by omega)).toNat : Int),vI (jz (l[2]'(by omega)).toNat (l[3]'(by omega)).toNat),vI ((l[3]'(by omega)).toNat : Int)]) qk 0 rfl hu12 hu11 sz3 rfl rfl rfl rfl rfl ?_)
    intro w39 hs40
    refine ⟨undef,rfl,trivial,?_⟩
    show St _ _ _ ((blk b24 [vI ((l[0]'(by omega)).toNat : Int),vI ((l[1]'(by omega)).toNat : Int),vI (jz (l[2]'(by omega)).toNat (l[3]'(by omega)).toNat),vI ((l[3]'(by omega)).toNat : Int)] 79) :: X13_) _
    exact hs40
   ·intro f14_ w14_ X14_ qp qo qu qk
    have hb4 : f14_ 4 = .pointer (some ⟨b24,0,none⟩):=(qp 4 rfl)
    refine qe rfl (qg hb4 fd79_3 rfl (o':=3) rfl rfl ?_)
    exact ⟨.pointer (some ⟨b24,3,none⟩),rfl,rfl,qk⟩
   ·intro f15_ w15_ X15_ qp qo qu qk
    obtain ⟨hu14,-⟩:=qo
    have hu14 : f15_ 42 = .pointer (some ⟨b24,3,none⟩):=hu14
    have qk : St _ _ _ ((blk b24 [vI ((l[0]'(by omega)).toNat : Int),vI ((l[1]'(by omega)).toNat : Int),vI (jz (l[2]'(by omega)).toNat (l[3]'(by omega)).toNat),vI ((l[3]'(by omega)).toNat : Int)] 79) :: X15_) _:=qk
    refine qe rfl (zx (v:=vI 0) (vs:=[vI 0]) (cs':=[vI ((l[0]'(by omega)).toNat : Int),vI ((l[1]'(by omega)).toNat : Int),vI (jz (l[2]'(by omega)).toNat (l[3]'(by omega)).toNat),vI 0]) qk 0 rfl hu14 rfl sz3 rfl rfl rfl rfl rfl ?_)
    intro w41 hs42
    refine ⟨undef,rfl,trivial,?_⟩
    show St _ _ _ ((blk b24 [vI ((l[0]'(by omega)).toNat : Int),vI ((l[1]'(by omega)).toNat : Int),vI (jz (l[2]'(by omega)).toNat (l[3]'(by omega)).toNat),vI 0] 79) :: X15_) _
    exact hs42
   intro f43 w44 qp qo hs45
   have hs45 : St _ _ _ [blk b24 [vI ((l[0]'(by omega)).toNat : Int),vI ((l[1]'(by omega)).toNat : Int),vI (jz (l[2]'(by omega)).toNat (l[3]'(by omega)).toNat),vI 0] 79,blk b1 [vI 0,vI 0,vI 0,vI 0] 79] _:=hs45
   have e46 : f43 2 = .pointer (some ⟨b1,0,none⟩):=(qp 2 rfl)
   rewrite [qm e46]
   have e47 : f43 4 = .pointer (some ⟨b24,0,none⟩):=(qp 4 rfl)
   rewrite [qm e47]
   refine qb (qi (qi (qc ?_)))
   refine qa rfl (qw (vs:=[vI ((l[0]'(by omega)).toNat : Int),vI ((l[1]'(by omega)).toNat : Int),vI (jz (l[2]'(by omega)).toNat (l[3]'(by omega)).toNat),vI 0]) rfl ag79 sz79 (Rd.of_blk (hs45.get 0 rfl) 0 4) rfl rfl ?_)
   refine qa rfl (zi (args:=[.agg #[vI ((l[0]'(by omega)).toNat : Int),vI ((l[1]'(by omega)).toNat : Int),vI (jz (l[2]'(by omega)).toNat (l[3]'(by omega)).toNat),vI 0]]) rfl rfl rfl en84 (right_c (⟨((l[0]'(by omega)).toNat : Int),((l[1]'(by omega)).toNat : Int),jz (l[2]'(by omega)).toNat (l[3]'(by omega)).toNat,0⟩) _) ?_)
   rintro _ w48 ⟨rfl,hk50⟩
   have hs49:=hs45.keep hk50
   refine qa rfl (j0 (b:=(insS (⟨((l[0]'(by omega)).toNat : Int),((l[1]'(by omega)).toNat : Int),jz (l[2]'(by omega)).toNat (l[3]'(by omega)).toNat,0⟩))) rfl rfl ?_)
   refine ql (qb ?_)
   refine k5 (t:=(!(insS (⟨((l[0]'(by omega)).toNat : Int),((l[1]'(by omega)).toNat : Int),jz (l[2]'(by omega)).toNat (l[3]'(by omega)).toNat,0⟩)))) rfl (fun hc51=>?_) (fun hc51=>?_)
   ·try simp only [Bool.and_eq_true,Bool.or_eq_true,Bool.not_eq_true',Bool.and_eq_false_iff,Bool.or_eq_false_iff,Bool.not_eq_false',decide_eq_true_eq,decide_eq_false_iff_not,Bool.and_eq_false_imp] at hc51
    refine qi (qc ?_)
    refine qa rfl (jl (ps:=[]) (cells:=[vI 0,vI 0,vI 0,vI 0]) bt79 rfl rfl rfl ?_)
    refine qa rfl (zx (v:=.agg #[vI 0,vI 0,vI 0,vI 0]) (vs:=[vI 0,vI 0,vI 0,vI 0]) (cs':=[vI 0,vI 0,vI 0,vI 0]) hs49 1 rfl rfl rfl sz79 rfl rfl rfl rfl rfl ?_)
    intro w52 hs53
    refine qa rfl (qf (v:=vI 151) rfl rfl ?_)
    refine ql (qb (zo (q9 ?_)))
    refine ⟨.tuple #[.agg #[vI 0,vI 0,vI 0,vI 0],vI 151],resn [.agg #[vI 0,vI 0,vI 0,vI 0],vI 151] ⟨(xc rfl ag79 sz79 (vs:=[vI 0,vI 0,vI 0,vI 0]) (Rd.of_blk (hs53.get 1 rfl) 0 4) rfl),(rv_tmp rfl),trivial⟩ rfl,?_⟩
    have h4 : l.length = 4:=by omega
    have hw:=insOf_wide (b0:=l[0]) (b1:=l[1]) (b2:=l[2]) (b3:=l[3]) hc38
    exact ⟨by rw [xf h4,hw,if_neg (by simpa using hc51)]; rfl,hs53.base⟩
   ·try simp only [Bool.and_eq_true,Bool.or_eq_true,Bool.not_eq_true',Bool.and_eq_false_iff,Bool.or_eq_false_iff,Bool.not_eq_false',decide_eq_true_eq,decide_eq_false_iff_not,Bool.and_eq_false_imp] at hc51
    refine zn (qb (qi (qc ?_)))
    refine qa rfl (qw (vs:=[vI ((l[0]'(by omega)).toNat : Int),vI ((l[1]'(by omega)).toNat : Int),vI (jz (l[2]'(by omega)).toNat (l[3]'(by omega)).toNat),vI 0]) rfl ag79 sz79 (Rd.of_blk (hs49.get 0 rfl) 0 4) rfl rfl ?_)
    refine qa rfl (zx (v:=.agg #[vI ((l[0]'(by omega)).toNat : Int),vI ((l[1]'(by omega)).toNat : Int),vI (jz (l[2]'(by omega)).toNat (l[3]'(by omega)).toNat),vI 0]) (vs:=[vI ((l[0]'(by omega)).toNat : Int),vI ((l[1]'(by omega)).toNat : Int),vI (jz (l[2]'(by omega)).toNat (l[3]'(by omega)).toNat),vI 0]) (cs':=[vI ((l[0]'(by omega)).toNat : Int),vI ((l[1]'(by omega)).toNat : Int),vI (jz (l[2]'(by omega)).toNat (l[3]'(by omega)).toNat),vI 0]) hs49 1 rfl rfl rfl sz79 rfl rfl rfl rfl rfl ?_)
    intro w54 hs55
    refine qa rfl (qf (v:=vI 0) rfl rfl ?_)
    refine ql (qb (zo ?_))
    refine ⟨.tuple #[.agg #[vI ((l[0]'(by omega)).toNat : Int),vI ((l[1]'(by omega)).toNat : Int),vI (jz (l[2]'(by omega)).toNat (l[3]'(by omega)).toNat),vI 0],vI 0],resn [.agg #[vI ((l[0]'(by omega)).toNat : Int),vI ((l[1]'(by omega)).toNat : Int),vI (jz (l[2]'(by omega)).toNat (l[3]'(by omega)).toNat),vI 0],vI 0] ⟨(xc rfl ag79 sz79 (vs:=[vI ((l[0]'(by omega)).toNat : Int),vI ((l[1]'(by omega)).toNat : Int),vI (jz (l[2]'(by omega)).toNat (l[3]'(by omega)).toNat),vI 0]) (Rd.of_blk (hs55.get 1 rfl) 0 4) rfl),(rv_tmp rfl),trivial⟩ rfl,?_⟩
    have h4 : l.length = 4:=by omega
    have hw:=insOf_wide (b0:=l[0]) (b1:=l[1]) (b2:=l[2]) (b3:=l[3]) hc38
    exact ⟨by rw [xf h4,hw,if_pos (by simpa using hc51)]; rfl,hs55.base⟩
  ·try simp only [Bool.and_eq_true,Bool.or_eq_true,Bool.not_eq_true',Bool.and_eq_false_iff,Bool.or_eq_false_iff,Bool.not_eq_false',decide_eq_true_eq,decide_eq_false_iff_not,Bool.and_eq_false_imp] at hc38
   refine zn (qb (qi (qi (qc ?_))))
   refine qa rfl (qw (vs:=[vI ((l[0]'(by omega)).toNat : Int),vI ((l[1]'(by omega)).toNat : Int),vI ((l[2]'(by omega)).toNat : Int),vI ((l[3]'(by omega)).toNat : Int)]) rfl ag79 sz79 (Rd.of_blk (hs36.get 0 rfl) 0 4) rfl rfl ?_)
   refine qa rfl (zi (args:=[.agg #[vI ((l[0]'(by omega)).toNat : Int),vI ((l[1]'(by omega)).toNat : Int),vI ((l[2]'(by omega)).toNat : Int),vI ((l[3]'(by omega)).toNat : Int)]]) rfl rfl rfl en84 (right_c (⟨((l[0]'(by omega)).toNat : Int),((l[1]'(by omega)).toNat : Int),((l[2]'(by omega)).toNat : Int),((l[3]'(by omega)).toNat : Int)⟩) _) ?_)
   rintro _ w56 ⟨rfl,hk58⟩
   have hs57:=hs36.keep hk58
   refine qa rfl (j0 (b:=(insS (⟨((l[0]'(by omega)).toNat : Int),((l[1]'(by omega)).toNat : Int),((l[2]'(by omega)).toNat : Int),((l[3]'(by omega)).toNat : Int)⟩))) rfl rfl ?_)
   refine ql (qb ?_)
   refine k5 (t:=(!(insS (⟨((l[0]'(by omega)).toNat : Int),((l[1]'(by omega)).toNat : Int),((l[2]'(by omega)).toNat : Int),((l[3]'(by omega)).toNat : Int)⟩)))) rfl (fun hc59=>?_) (fun hc59=>?_)
   ·try simp only [Bool.and_eq_true,Bool.or_eq_true,Bool.not_eq_true',Bool.and_eq_false_iff,Bool.or_eq_false_iff,Bool.not_eq_false',decide_eq_true_eq,decide_eq_false_iff_not,Bool.and_eq_false_imp] at hc59
    refine qi (qc ?_)
    refine qa rfl (jl (ps:=[]) (cells:=[vI 0,vI 0,vI 0,vI 0]) bt79 rfl rfl rfl ?_)
    refine qa rfl (zx (v:=.agg #[vI 0,vI 0,vI 0,vI 0]) (vs:=[vI 0,vI 0,vI 0,vI 0]) (cs':=[vI 0,vI 0,vI 0,vI 0]) hs57 1 rfl rfl rfl sz79 rfl rfl rfl rfl rfl ?_)
    intro w60 hs61
    refine qa rfl (qf (v:=vI 151) rfl rfl ?_)
    refine ql (qb (zo (q9 ?_)))
    refine ⟨.tuple #[.agg #[vI 0,vI 0,vI 0,vI 0],vI 151],resn [.agg #[vI 0,vI 0,vI 0,vI 0],vI 151] ⟨(xc rfl ag79 sz79 (vs:=[vI 0,vI 0,vI 0,vI 0]) (Rd.of_blk (hs61.get 1 rfl) 0 4) rfl),(rv_tmp rfl),trivial⟩ rfl,?_⟩
    have h4 : l.length = 4:=by omega
    have hw:=insOf_thin (b0:=l[0]) (b1:=l[1]) (b2:=l[2]) (b3:=l[3]) hc38
    exact ⟨by rw [xf h4,hw,if_neg (by simpa using hc59)]; rfl,hs61.base⟩
   ·try simp only [Bool.and_eq_true,Bool.or_eq_true,Bool.not_eq_true',Bool.and_eq_false_iff,Bool.or_eq_false_iff,Bool.not_eq_false',decide_eq_true_eq,decide_eq_false_iff_not,Bool.and_eq_false_imp] at hc59
    refine zn (qb (qi (qc ?_)))
    refine qa rfl (qw (vs:=[vI ((l[0]'(by omega)).toNat : Int),vI ((l[1]'(by omega)).toNat : Int),vI ((l[2]'(by omega)).toNat : Int),vI ((l[3]'(by omega)).toNat : Int)]) rfl ag79 sz79 (Rd.of_blk (hs57.get 0 rfl) 0 4) rfl rfl ?_)
    refine qa rfl (zx (v:=.agg #[vI ((l[0]'(by omega)).toNat : Int),vI ((l[1]'(by omega)).toNat : Int),vI ((l[2]'(by omega)).toNat : Int),vI ((l[3]'(by omega)).toNat : Int)]) (vs:=[vI ((l[0]'(by omega)).toNat : Int),vI ((l[1]'(by omega)).toNat : Int),vI ((l[2]'(by omega)).toNat : Int),vI ((l[3]'(by omega)).toNat : Int)]) (cs':=[vI ((l[0]'(by omega)).toNat : Int),vI ((l[1]'(by omega)).toNat : Int),vI ((l[2]'(by omega)).toNat : Int),vI ((l[3]'(by omega)).toNat : Int)]) hs57 1 rfl rfl rfl sz79 rfl rfl rfl rfl rfl ?_)
    intro w62 hs63
    refine qa rfl (qf (v:=vI 0) rfl rfl ?_)
    refine ql (qb (zo ?_))
    refine ⟨.tuple #[.agg #[vI ((l[0]'(by omega)).toNat : Int),vI ((l[1]'(by omega)).toNat : Int),vI ((l[2]'(by omega)).toNat : Int),vI ((l[3]'(by omega)).toNat : Int)],vI 0],resn [.agg #[vI ((l[0]'(by omega)).toNat : Int),vI ((l[1]'(by omega)).toNat : Int),vI ((l[2]'(by omega)).toNat : Int),vI ((l[3]'(by omega)).toNat : Int)],vI 0] ⟨(xc rfl ag79 sz79 (vs:=[vI ((l[0]'(by omega)).toNat : Int),vI ((l[1]'(by omega)).toNat : Int),vI ((l[2]'(by omega)).toNat : Int),vI ((l[3]'(by omega)).toNat : Int)]) (Rd.of_blk (hs63.get 1 rfl) 0 4) rfl),(rv_tmp rfl),trivial⟩ rfl,?_⟩
    have h4 : l.length = 4:=by omega
    have hw:=insOf_thin (b0:=l[0]) (b1:=l[1]) (b2:=l[2]) (b3:=l[3]) hc38
    exact ⟨by rw [xf h4,hw,if_pos (by simpa using hc59)]; rfl,hs63.base⟩



theorem none_take_succ {α : Type} {p : α → Bool} {l : List α} {k : Nat} (h : ∀ x ∈ l.take k,p x = false) (hk : k < l.length) (hx : p l[k] = false) : ∀ x ∈ l.take (k + 1),p x = false:=by
 intro x hm
 rw [List.take_succ_eq_append_getElem hk,List.mem_append,List.mem_singleton] at hm
 rcases hm with hm|rfl
 ·exact h x hm
 ·exact hx
theorem any_of_iff {α : Type} {p : α → Bool} {l : List α} {i : Int} (h : 0 ≤ i ↔ l.any p = true) : decide (0 ≤ i) = l.any p:=by
 rw [Bool.eq_iff_iff]; simp only [decide_eq_true_eq]; exact h
theorem not_any_not {α : Type} (l : List α) (p : α → Bool) : (!(l.any fun x=>!p x)) = l.all p:=by
 induction l with
|nil=>rfl
|cons x l ih=>simp [← ih]

/-- slices.IndexFunc[[]seizin/api.Comp,seizin/api.Comp] -/
theorem indexF_comp (a : Option Addr) (cap : Nat) (l : List CompV) (g : FuncId) (caps : List Value) (p : CompV → Bool) (w : World) (h : (arrI zu 2 a l).φ w) (hl : l.length ≤ 20000) (he : ∀ args w,(callFunc g args).run Try.prog w = .ok (.enter g args) w) (hp : ∀ W,Grow w W → ∀ x,x ∈ l → C Try.prog g (.agg #[.slice x.a x.code.length x.cap,vI x.data] :: caps) W fun v W'=>v = .bool (p x) ∧ Grow W W') :
  C Try.prog 73 [.slice a l.length cap,.func (.func g) #[] caps.toArray] w fun v w'=>(∃ i : Int,v = vI i ∧ (0 ≤ i ↔ l.any p = true)) ∧ Grow w w':=by
 have hs0 : St w (fun _=>False) w [] [arrI zu 2 a l]:=St.start w _ (by simpa using h)
 refine z8 [.tmp 4] 19 Try.func73 rfl Try.ntmps73 rfl rfl ?_
 refine qi (qc ?_)
 refine qa rfl (qf (v:=vI 0) rfl rfl ?_)
 refine ql (qb (qi (qi (qc ?_))))
 refine qa rfl (qj (v:=.slice a l.length cap) rfl rfl ?_)
 refine qa rfl (qx (len:=l.length) rfl un22 rfl ?_)
 refine qa rfl (qj (v:=vI 0) rfl rfl ?_)
 refine ql (qb (zy ?_))
 refine kw (fun m_ f_ w_=>∃ k : Nat,m_ = l.length - k ∧ (k ≤ l.length) ∧ (∀ x ∈ l.take k,p x = false) ∧ f_ 0 = .slice a l.length cap ∧ f_ 1 = .func (.func g) #[] caps.toArray ∧ f_ 7 = vI ((l.length : Nat) : Int) ∧ f_ 8 = vI ((k : Nat) : Int) ∧ St w (fun _=>False) w_ [] [arrI zu 2 a l]) ?_ ?_
 ·exact ⟨_,0,rfl,Nat.zero_le _,by simp,rfl,rfl,rfl,rfl,hs0⟩
 ·intro m4 f1 w2; rintro ⟨k,rfl,hl1,hl2,e5,e6,e7,e8,hs3⟩
  rewrite [qm e5]
  rewrite [qm e6]
  rewrite [qm e7]
  rewrite [qm e8]
  refine qi (qc ?_)
  refine qa rfl (qt (k:=.i64) (k':=.i64) (a:=((k : Nat) : Int)) (b:=((l.length : Nat) : Int)) rfl rfl rfl jg ?_)
  refine ql (qb (qi ?_))
  refine zd rfl (fun hc9=>?_) (fun hc9=>?_)
  ·refine zn (qb (qi (zy (qi (qc ?_)))))
   refine qa rfl (qj (v:=vI ((k : Nat) : Int)) rfl rfl ?_)
   refine qa rfl (qf (v:=vI ((k : Nat) : Int)) rfl rfl ?_)
   refine ql (qb (qi (qc ?_)))
   refine qa rfl (qj (v:=.func (.func g) #[] caps.toArray) rfl rfl ?_)
   refine qa rfl (qj (v:=.slice a l.length cap) rfl rfl ?_)
   refine qa rfl (qj (v:=vI ((k : Nat) : Int)) rfl rfl ?_)
   obtain ⟨b10,o11,ha12,hs13⟩:=hs3.elem 0 rfl k (by omega)
   refine qa rfl (qs rfl ha12 rfl un22 sz53 (by omega) (by omega) (o':=o11 + k * 2) (by omega) rfl ?_)
   refine qa rfl (qw (vs:=[.slice ((l[k]'(by omega)).a) ((l[k]'(by omega)).code.length) ((l[k]'(by omega)).cap),vI ((l[k]'(by omega)).data)]) rfl ag53 sz53 ((hs13.getR 0 rfl).2) rfl rfl ?_)
   refine qa rfl (zi (args:=.agg #[.slice ((l[k]'(by omega)).a) ((l[k]'(by omega)).code.length) ((l[k]'(by omega)).cap),vI ((l[k]'(by omega)).data)] :: caps) rfl rfl rfl he (hp _ hs13.base _ (List.getElem_mem (by omega : k < l.length))) ?_)
   rintro _ w14 ⟨rfl,hk16⟩
   have hs15:=hs13.keep hk16
   refine ql (qb ?_)
   refine k5 (t:=(p (l[k]'(by omega)))) rfl (fun hc17=>?_) (fun hc17=>?_)
   ·try simp only [Bool.and_eq_true,Bool.or_eq_true,Bool.not_eq_true',Bool.and_eq_false_iff,Bool.or_eq_false_iff,Bool.not_eq_false',decide_eq_true_eq,decide_eq_false_iff_not,Bool.and_eq_false_imp] at hc17
    refine qi (qc ?_)
    refine qa rfl (qj (v:=vI ((k : Nat) : Int)) rfl rfl ?_)
    refine qa rfl (qf (v:=vI ((k : Nat) : Int)) rfl rfl ?_)
    refine ql (qb (zo (zk (q9 (q9 (zk (q9 ?_)))))))
    refine ⟨vI ((k : Nat) : Int),res1 rfl,?_⟩
    exact ⟨⟨(k : Int),rfl,by simp only [Int.natCast_nonneg,true_iff]; exact List.any_eq_true.2 ⟨_,List.getElem_mem (by omega),hc17⟩⟩,hs15.base⟩
   ·try simp only [Bool.and_eq_true,Bool.or_eq_true,Bool.not_eq_true',Bool.and_eq_false_iff,Bool.or_eq_false_iff,Bool.not_eq_false',decide_eq_true_eq,decide_eq_false_iff_not,Bool.and_eq_false_imp] at hc17
    refine zn (z7 (qb (qc ?_)))
    refine qa rfl (qt (v:=vI ((k + 1 : Nat) : Int)) rfl rfl rfl (ki (qz (by omega) (by omega))) ?_)
    refine qa rfl (qj (v:=vI ((k + 1 : Nat) : Int)) rfl rfl ?_)
    refine ql (qb ?_)
    refine ⟨_,?_,k + 1,rfl,by omega,(none_take_succ hl2 (by omega) hc17),rfl,rfl,rfl,rfl,hs15.popR⟩
    omega
  ·refine ja (z0 (z0 (ke (qb (qi (qc ?_))))))
   refine qa rfl (qf (v:=vI (-1)) rfl rfl ?_)
   refine ql (qb (zo ?_))
   refine ⟨vI (-1),res1 rfl,?_⟩
   exact ⟨⟨-1,rfl,by rw [List.take_of_length_le (by omega)] at hl2; simpa using hl2⟩,hs3.base⟩

/-- slices.ContainsFunc[[]seizin/api.Comp,seizin/api.Comp] -/
theorem containsF_comp (a : Option Addr) (cap : Nat) (l : List CompV) (g : FuncId) (caps : List Value) (p : CompV → Bool) (w : World) (h : (arrI zu 2 a l).φ w) (hl : l.length ≤ 20000) (he : ∀ args w,(callFunc g args).run Try.prog w = .ok (.enter g args) w) (hp : ∀ W,Grow w W → ∀ x,x ∈ l → C Try.prog g (.agg #[.slice x.a x.code.length x.cap,vI x.data] :: caps) W fun v W'=>v = .bool (p x) ∧ Grow W W') :
  C Try.prog 60 [.slice a l.length cap,.func (.func g) #[] caps.toArray] w fun v w'=>v = .bool (l.any p) ∧ Grow w w':=by
 have hs0 : St w (fun _=>False) w [] [arrI zu 2 a l]:=St.start w _ (by simpa using h)
 refine z8 [.tmp 4] 9 Try.func60 rfl Try.ntmps60 rfl rfl ?_
 refine qi (qc ?_)
 refine qa rfl (qf (v:=.bool false) rfl rfl ?_)
 refine ql (qb (qi (qc ?_)))
 refine qa rfl (qj (v:=.slice a l.length cap) rfl rfl ?_)
 refine qa rfl (qj (v:=.func (.func g) #[] caps.toArray) rfl rfl ?_)
 refine qa rfl (zi (args:=[.slice a l.length cap,.func (.func g) #[] caps.toArray]) rfl rfl rfl en73 (indexF_comp a cap l g caps p _ (hs0.getR 0 rfl) hl he (fun W hW=>hp W (hs0.base.trans hW))) ?_)
 rintro _ w1 ⟨⟨i4,rfl,hi5⟩,hk3⟩
 have hs2:=hs0.keep hk3
 refine qa rfl (qt (k:=.i64) (k':=.i64) (a:=i4) (b:=0) rfl rfl rfl b_geq ?_)
 refine qa rfl (qf (v:=.bool (decide (0 ≤ i4))) rfl rfl ?_)
 refine ql (qb (zo ?_))
 refine ⟨.bool (decide (0 ≤ i4)),res1 rfl,?_⟩
 exact ⟨congrArg Value.bool (any_of_iff ‹_›),hs2.base⟩

/-- seizin/image.all[seizin/api.Comp]$1 -/
theorem all1_comp (x : CompV) (g : FuncId) (caps : List Value) (p : CompV → Bool) (b : Nat) (w : World) (h : (blk b [.func (.func g) #[] caps.toArray] 74).φ w) (he : ∀ args w,(callFunc g args).run Try.prog w = .ok (.enter g args) w) (hp : ∀ W,Grow w W → C Try.prog g (.agg #[.slice x.a x.code.length x.cap,vI x.data] :: caps) W fun v W'=>v = .bool (p x) ∧ Grow W W') :
  C Try.prog 61 [.agg #[.slice x.a x.code.length x.cap,vI x.data],.pointer (some ⟨b,0,none⟩)] w fun v w'=>v = .bool (!p x) ∧ Grow w w':=by
 have hs0 : St w (fun _=>False) w [] [blk b [.func (.func g) #[] caps.toArray] 74]:=St.start w _ (by simpa using h)
 refine z8 [.tmp 3] 8 Try.func61 rfl Try.ntmps61 rfl rfl ?_
 refine qi (qc ?_)
 refine qa rfl (jw (v:=.agg #[.slice x.a x.code.length x.cap,vI x.data]) (cs:=[.slice x.a x.code.length x.cap,vI x.data]) hs0 rfl rfl rfl ?_)
 intro b1 w2 hb4 hs3
 refine qa rfl (qf (v:=.bool false) rfl rfl ?_)
 refine ql (qb (qi (qc ?_)))
 refine qa rfl (qq (v:=.func (.func g) #[] caps.toArray) rfl ag74 (qh (hs3.getR 0 rfl) rfl) rfl ?_)
 refine qa rfl (qw (vs:=[.slice x.a x.code.length x.cap,vI x.data]) rfl ag53 sz53 (Rd.of_blk (hs3.get 0 rfl) 0 2) rfl rfl ?_)
 refine qa rfl (zi (args:=.agg #[.slice x.a x.code.length x.cap,vI x.data] :: caps) rfl rfl rfl he (hp _ hs3.base) ?_)
 rintro _ w5 ⟨rfl,hk7⟩
 have hs6:=hs3.keep hk7
 refine qa rfl (j0 (b:=(p x)) rfl rfl ?_)
 refine qa rfl (qf (v:=.bool (!(p x))) rfl rfl ?_)
 refine ql (qb (zo ?_))
 refine ⟨.bool (!(p x)),res1 rfl,?_⟩
 exact ⟨rfl,hs6.base⟩

/-- seizin/image.all[seizin/api.Comp] -/
theorem all_comp (a : Option Addr) (cap : Nat) (l : List CompV) (g : FuncId) (caps : List Value) (p : CompV → Bool) (w : World) (h : (arrI zu 2 a l).φ w) (hl : l.length ≤ 20000) (he : ∀ args w,(callFunc g args).run Try.prog w = .ok (.enter g args) w) (hp : ∀ W,Grow w W → ∀ x,x ∈ l → C Try.prog g (.agg #[.slice x.a x.code.length x.cap,vI x.data] :: caps) W fun v W'=>v = .bool (p x) ∧ Grow W W') :
  C Try.prog 37 [.slice a l.length cap,.func (.func g) #[] caps.toArray] w fun v w'=>v = .bool (l.all p) ∧ Grow w w':=by
 have hs0 : St w (fun _=>False) w [] [arrI zu 2 a l]:=St.start w _ (by simpa using h)
 refine z8 [.tmp 4] 9 Try.func37 rfl Try.ntmps37 rfl rfl ?_
 refine qi (qc ?_)
 refine qa rfl (jw (v:=.func (.func g) #[] caps.toArray) (cs:=[.func (.func g) #[] caps.toArray]) hs0 rfl rfl rfl ?_)
 intro b1 w2 hb4 hs3
 refine qa rfl (qf (v:=.bool false) rfl rfl ?_)
 refine ql (qb (qi (qc ?_)))
 refine qa rfl (qj (v:=.slice a l.length cap) rfl rfl ?_)
 refine qa rfl (yh (fi:=[]) (cap:=[.pointer (some ⟨b1,0,none⟩)]) rfl rfl rfl ?_)
 refine qa rfl (zi (args:=[.slice a l.length cap,.func (.func 61) #[] #[.pointer (some ⟨b1,0,none⟩)]]) rfl rfl rfl en60 (containsF_comp a cap l 61 [.pointer (some ⟨b1,0,none⟩)] (fun x=>!p x) _ (hs3.getR 0 rfl) hl en61 (fun W hW x hx=>all1_comp x g caps p b1 W ((hs3.keep hW).get 0 rfl) he (fun W2 h2=>hp W2 (hs3.base.trans (hW.trans h2)) x hx))) ?_)
 rintro _ w5 ⟨rfl,hk7⟩
 have hs6:=hs3.keep hk7
 refine qa rfl (j0 (b:=(l.any fun x=>!p x)) rfl rfl ?_)
 refine qa rfl (qf (v:=.bool (!(l.any fun x=>!p x))) rfl rfl ?_)
 refine ql (qb (zo ?_))
 refine ⟨.bool (!(l.any fun x=>!p x)),res1 rfl,?_⟩
 exact ⟨congrArg Value.bool (not_any_not l p),hs6.base⟩

/-- slices.IndexFunc[[]seizin/api.Link,seizin/api.Link] -/
theorem indexF_link (a : Option Addr) (cap : Nat) (l : List LinkV) (g : FuncId) (caps : List Value) (p : LinkV → Bool) (w : World) (h : (arrI z1 3 a l).φ w) (hl : l.length ≤ 20000) (he : ∀ args w,(callFunc g args).run Try.prog w = .ok (.enter g args) w) (hp : ∀ W,Grow w W → ∀ x,x ∈ l → C Try.prog g (.agg #[vI x.fr,vI x.to,vI x.ad] :: caps) W fun v W'=>v = .bool (p x) ∧ Grow W W') :
  C Try.prog 80 [.slice a l.length cap,.func (.func g) #[] caps.toArray] w fun v w'=>(∃ i : Int,v = vI i ∧ (0 ≤ i ↔ l.any p = true)) ∧ Grow w w':=by
 have hs0 : St w (fun _=>False) w [] [arrI z1 3 a l]:=St.start w _ (by simpa using h)
 refine z8 [.tmp 4] 19 Try.func80 rfl Try.ntmps80 rfl rfl ?_
 refine qi (qc ?_)
 refine qa rfl (qf (v:=vI 0) rfl rfl ?_)
 refine ql (qb (qi (qi (qc ?_))))
 refine qa rfl (qj (v:=.slice a l.length cap) rfl rfl ?_)
 refine qa rfl (qx (len:=l.length) rfl un23 rfl ?_)
 refine qa rfl (qj (v:=vI 0) rfl rfl ?_)
 refine ql (qb (zy ?_))
 refine kw (fun m_ f_ w_=>∃ k : Nat,m_ = l.length - k ∧ (k ≤ l.length) ∧ (∀ x ∈ l.take k,p x = false) ∧ f_ 0 = .slice a l.length cap ∧ f_ 1 = .func (.func g) #[] caps.toArray ∧ f_ 7 = vI ((l.length : Nat) : Int) ∧ f_ 8 = vI ((k : Nat) : Int) ∧ St w (fun _=>False) w_ [] [arrI z1 3 a l]) ?_ ?_
 ·exact ⟨_,0,rfl,Nat.zero_le _,by simp,rfl,rfl,rfl,rfl,hs0⟩
 ·intro m4 f1 w2; rintro ⟨k,rfl,hl1,hl2,e5,e6,e7,e8,hs3⟩
  rewrite [qm e5]
  rewrite [qm e6]
  rewrite [qm e7]
  rewrite [qm e8]
  refine qi (qc ?_)
  refine qa rfl (qt (k:=.i64) (k':=.i64) (a:=((k : Nat) : Int)) (b:=((l.length : Nat) : Int)) rfl rfl rfl jg ?_)
  refine ql (qb (qi ?_))
  refine zd rfl (fun hc9=>?_) (fun hc9=>?_)
  ·refine zn (qb (qi (zy (qi (qc ?_)))))
   refine qa rfl (qj (v:=vI ((k : Nat) : Int)) rfl rfl ?_)
   refine qa rfl (qf (v:=vI ((k : Nat) : Int)) rfl rfl ?_)
   refine ql (qb (qi (qc ?_)))
   refine qa rfl (qj (v:=.func (.func g) #[] caps.toArray) rfl rfl ?_)
   refine qa rfl (qj (v:=.slice a l.length cap) rfl rfl ?_)
   refine qa rfl (qj (v:=vI ((k : Nat) : Int)) rfl rfl ?_)
   obtain ⟨b10,o11,ha12,hs13⟩:=hs3.elem 0 rfl k (by omega)
   refine qa rfl (qs rfl ha12 rfl un23 sz68 (by omega) (by omega) (o':=o11 + k * 3) (by omega) rfl ?_)
   refine qa rfl (qw (vs:=[vI ((l[k]'(by omega)).fr),vI ((l[k]'(by omega)).to),vI ((l[k]'(by omega)).ad)]) rfl ag68 sz68 ((hs13.getR 0 rfl).2) rfl rfl ?_)
   refine qa rfl (zi (args:=.agg #[vI ((l[k]'(by omega)).fr),vI ((l[k]'(by omega)).to),vI ((l[k]'(by omega)).ad)] :: caps) rfl rfl rfl he (hp _ hs13.base _ (List.getElem_mem (by omega : k < l.length))) ?_)
   rintro _ w14 ⟨rfl,hk16⟩
   have hs15:=hs13.keep hk16
   refine ql (qb ?_)
   refine k5 (t:=(p (l[k]'(by omega)))) rfl (fun hc17=>?_) (fun hc17=>?_)
   ·try simp only [Bool.and_eq_true,Bool.or_eq_true,Bool.not_eq_true',Bool.and_eq_false_iff,Bool.or_eq_false_iff,Bool.not_eq_false',decide_eq_true_eq,decide_eq_false_iff_not,Bool.and_eq_false_imp] at hc17
    refine qi (qc ?_)
    refine qa rfl (qj (v:=vI ((k : Nat) : Int)) rfl rfl ?_)
    refine qa rfl (qf (v:=vI ((k : Nat) : Int)) rfl rfl ?_)
    refine ql (qb (zo (zk (q9 (q9 (zk (q9 ?_)))))))
    refine ⟨vI ((k : Nat) : Int),res1 rfl,?_⟩
    exact ⟨⟨(k : Int),rfl,by simp only [Int.natCast_nonneg,true_iff]; exact List.any_eq_true.2 ⟨_,List.getElem_mem (by omega),hc17⟩⟩,hs15.base⟩
   ·try simp only [Bool.and_eq_true,Bool.or_eq_true,Bool.not_eq_true',Bool.and_eq_false_iff,Bool.or_eq_false_iff,Bool.not_eq_false',decide_eq_true_eq,decide_eq_false_iff_not,Bool.and_eq_false_imp] at hc17
    refine zn (z7 (qb (qc ?_)))
    refine qa rfl (qt (v:=vI ((k + 1 : Nat) : Int)) rfl rfl rfl (ki (qz (by omega) (by omega))) ?_)
    refine qa rfl (qj (v:=vI ((k + 1 : Nat) : Int)) rfl rfl ?_)
    refine ql (qb ?_)
    refine ⟨_,?_,k + 1,rfl,by omega,(none_take_succ hl2 (by omega) hc17),rfl,rfl,rfl,rfl,hs15.popR⟩
    omega
  ·refine ja (z0 (z0 (ke (qb (qi (qc ?_))))))
   refine qa rfl (qf (v:=vI (-1)) rfl rfl ?_)
   refine ql (qb (zo ?_))
   refine ⟨vI (-1),res1 rfl,?_⟩
   exact ⟨⟨-1,rfl,by rw [List.take_of_length_le (by omega)] at hl2; simpa using hl2⟩,hs3.base⟩

/-- slices.ContainsFunc[[]seizin/api.Link,seizin/api.Link] -/
theorem containsF_link (a : Option Addr) (cap : Nat) (l : List LinkV) (g : FuncId) (caps : List Value) (p : LinkV → Bool) (w : World) (h : (arrI z1 3 a l).φ w) (hl : l.length ≤ 20000) (he : ∀ args w,(callFunc g args).run Try.prog w = .ok (.enter g args) w) (hp : ∀ W,Grow w W → ∀ x,x ∈ l → C Try.prog g (.agg #[vI x.fr,vI x.to,vI x.ad] :: caps) W fun v W'=>v = .bool (p x) ∧ Grow W W') :
  C Try.prog 68 [.slice a l.length cap,.func (.func g) #[] caps.toArray] w fun v w'=>v = .bool (l.any p) ∧ Grow w w':=by
 have hs0 : St w (fun _=>False) w [] [arrI z1 3 a l]:=St.start w _ (by simpa using h)
 refine z8 [.tmp 4] 9 Try.func68 rfl Try.ntmps68 rfl rfl ?_
 refine qi (qc ?_)
 refine qa rfl (qf (v:=.bool false) rfl rfl ?_)
 refine ql (qb (qi (qc ?_)))
 refine qa rfl (qj (v:=.slice a l.length cap) rfl rfl ?_)
 refine qa rfl (qj (v:=.func (.func g) #[] caps.toArray) rfl rfl ?_)
 refine qa rfl (zi (args:=[.slice a l.length cap,.func (.func g) #[] caps.toArray]) rfl rfl rfl en80 (indexF_link a cap l g caps p _ (hs0.getR 0 rfl) hl he (fun W hW=>hp W (hs0.base.trans hW))) ?_)
 rintro _ w1 ⟨⟨i4,rfl,hi5⟩,hk3⟩
 have hs2:=hs0.keep hk3
 refine qa rfl (qt (k:=.i64) (k':=.i64) (a:=i4) (b:=0) rfl rfl rfl b_geq ?_)
 refine qa rfl (qf (v:=.bool (decide (0 ≤ i4))) rfl rfl ?_)
 refine ql (qb (zo ?_))
 refine ⟨.bool (decide (0 ≤ i4)),res1 rfl,?_⟩
 exact ⟨congrArg Value.bool (any_of_iff ‹_›),hs2.base⟩

/-- seizin/image.all[seizin/api.Link]$1 -/
theorem all1_link (x : LinkV) (g : FuncId) (caps : List Value) (p : LinkV → Bool) (b : Nat) (w : World) (h : (blk b [.func (.func g) #[] caps.toArray] 91).φ w) (he : ∀ args w,(callFunc g args).run Try.prog w = .ok (.enter g args) w) (hp : ∀ W,Grow w W → C Try.prog g (.agg #[vI x.fr,vI x.to,vI x.ad] :: caps) W fun v W'=>v = .bool (p x) ∧ Grow W W') :
  C Try.prog 69 [.agg #[vI x.fr,vI x.to,vI x.ad],.pointer (some ⟨b,0,none⟩)] w fun v w'=>v = .bool (!p x) ∧ Grow w w':=by
 have hs0 : St w (fun _=>False) w [] [blk b [.func (.func g) #[] caps.toArray] 91]:=St.start w _ (by simpa using h)
 refine z8 [.tmp 3] 8 Try.func69 rfl Try.ntmps69 rfl rfl ?_
 refine qi (qc ?_)
 refine qa rfl (jw (v:=.agg #[vI x.fr,vI x.to,vI x.ad]) (cs:=[vI x.fr,vI x.to,vI x.ad]) hs0 rfl rfl rfl ?_)
 intro b1 w2 hb4 hs3
 refine qa rfl (qf (v:=.bool false) rfl rfl ?_)
 refine ql (qb (qi (qc ?_)))
 refine qa rfl (qq (v:=.func (.func g) #[] caps.toArray) rfl ag91 (qh (hs3.getR 0 rfl) rfl) rfl ?_)
 refine qa rfl (qw (vs:=[vI x.fr,vI x.to,vI x.ad]) rfl ag68 sz68 (Rd.of_blk (hs3.get 0 rfl) 0 3) rfl rfl ?_)
 refine qa rfl (zi (args:=.agg #[vI x.fr,vI x.to,vI x.ad] :: caps) rfl rfl rfl he (hp _ hs3.base) ?_)
 rintro _ w5 ⟨rfl,hk7⟩
 have hs6:=hs3.keep hk7
 refine qa rfl (j0 (b:=(p x)) rfl rfl ?_)
 refine qa rfl (qf (v:=.bool (!(p x))) rfl rfl ?_)
 refine ql (qb (zo ?_))
 refine ⟨.bool (!(p x)),res1 rfl,?_⟩
 exact ⟨rfl,hs6.base⟩

/-- seizin/image.all[seizin/api.Link] -/
theorem all_link (a : Option Addr) (cap : Nat) (l : List LinkV) (g : FuncId) (caps : List Value) (p : LinkV → Bool) (w : World) (h : (arrI z1 3 a l).φ w) (hl : l.length ≤ 20000) (he : ∀ args w,(callFunc g args).run Try.prog w = .ok (.enter g args) w) (hp : ∀ W,Grow w W → ∀ x,x ∈ l → C Try.prog g (.agg #[vI x.fr,vI x.to,vI x.ad] :: caps) W fun v W'=>v = .bool (p x) ∧ Grow W W') :
  C Try.prog 52 [.slice a l.length cap,.func (.func g) #[] caps.toArray] w fun v w'=>v = .bool (l.all p) ∧ Grow w w':=by
 have hs0 : St w (fun _=>False) w [] [arrI z1 3 a l]:=St.start w _ (by simpa using h)
 refine z8 [.tmp 4] 9 Try.func52 rfl Try.ntmps52 rfl rfl ?_
 refine qi (qc ?_)
 refine qa rfl (jw (v:=.func (.func g) #[] caps.toArray) (cs:=[.func (.func g) #[] caps.toArray]) hs0 rfl rfl rfl ?_)
 intro b1 w2 hb4 hs3
 refine qa rfl (qf (v:=.bool false) rfl rfl ?_)
 refine ql (qb (qi (qc ?_)))
 refine qa rfl (qj (v:=.slice a l.length cap) rfl rfl ?_)
 refine qa rfl (yh (fi:=[]) (cap:=[.pointer (some ⟨b1,0,none⟩)]) rfl rfl rfl ?_)
 refine qa rfl (zi (args:=[.slice a l.length cap,.func (.func 69) #[] #[.pointer (some ⟨b1,0,none⟩)]]) rfl rfl rfl en68 (containsF_link a cap l 69 [.pointer (some ⟨b1,0,none⟩)] (fun x=>!p x) _ (hs3.getR 0 rfl) hl en69 (fun W hW x hx=>all1_link x g caps p b1 W ((hs3.keep hW).get 0 rfl) he (fun W2 h2=>hp W2 (hs3.base.trans (hW.trans h2)) x hx))) ?_)
 rintro _ w5 ⟨rfl,hk7⟩
 have hs6:=hs3.keep hk7
 refine qa rfl (j0 (b:=(l.any fun x=>!p x)) rfl rfl ?_)
 refine qa rfl (qf (v:=.bool (!(l.any fun x=>!p x))) rfl rfl ?_)
 refine ql (qb (zo ?_))
 refine ⟨.bool (!(l.any fun x=>!p x)),res1 rfl,?_⟩
 exact ⟨congrArg Value.bool (not_any_not l p),hs6.base⟩

/-- slices.IndexFunc[[]seizin/api.Share,seizin/api.Share] -/
theorem indexF_share (a : Option Addr) (cap : Nat) (l : List ShareV) (g : FuncId) (caps : List Value) (p : ShareV → Bool) (w : World) (h : (arrI zw 2 a l).φ w) (hl : l.length ≤ 20000) (he : ∀ args w,(callFunc g args).run Try.prog w = .ok (.enter g args) w) (hp : ∀ W,Grow w W → ∀ x,x ∈ l → C Try.prog g (.agg #[vI x.rd,vI x.wr] :: caps) W fun v W'=>v = .bool (p x) ∧ Grow W W') :
  C Try.prog 81 [.slice a l.length cap,.func (.func g) #[] caps.toArray] w fun v w'=>(∃ i : Int,v = vI i ∧ (0 ≤ i ↔ l.any p = true)) ∧ Grow w w':=by
 have hs0 : St w (fun _=>False) w [] [arrI zw 2 a l]:=St.start w _ (by simpa using h)
 refine z8 [.tmp 4] 19 Try.func81 rfl Try.ntmps81 rfl rfl ?_
 refine qi (qc ?_)
 refine qa rfl (qf (v:=vI 0) rfl rfl ?_)
 refine ql (qb (qi (qi (qc ?_))))
 refine qa rfl (qj (v:=.slice a l.length cap) rfl rfl ?_)
 refine qa rfl (qx (len:=l.length) rfl un24 rfl ?_)
 refine qa rfl (qj (v:=vI 0) rfl rfl ?_)
 refine ql (qb (zy ?_))
 refine kw (fun m_ f_ w_=>∃ k : Nat,m_ = l.length - k ∧ (k ≤ l.length) ∧ (∀ x ∈ l.take k,p x = false) ∧ f_ 0 = .slice a l.length cap ∧ f_ 1 = .func (.func g) #[] caps.toArray ∧ f_ 7 = vI ((l.length : Nat) : Int) ∧ f_ 8 = vI ((k : Nat) : Int) ∧ St w (fun _=>False) w_ [] [arrI zw 2 a l]) ?_ ?_
 ·exact ⟨_,0,rfl,Nat.zero_le _,by simp,rfl,rfl,rfl,rfl,hs0⟩
 ·intro m4 f1 w2; rintro ⟨k,rfl,hl1,hl2,e5,e6,e7,e8,hs3⟩
  rewrite [qm e5]
  rewrite [qm e6]
  rewrite [qm e7]
  rewrite [qm e8]
  refine qi (qc ?_)
  refine qa rfl (qt (k:=.i64) (k':=.i64) (a:=((k : Nat) : Int)) (b:=((l.length : Nat) : Int)) rfl rfl rfl jg ?_)
  refine ql (qb (qi ?_))
  refine zd rfl (fun hc9=>?_) (fun hc9=>?_)
  ·refine zn (qb (qi (zy (qi (qc ?_)))))
   refine qa rfl (qj (v:=vI ((k : Nat) : Int)) rfl rfl ?_)
   refine qa rfl (qf (v:=vI ((k : Nat) : Int)) rfl rfl ?_)
   refine ql (qb (qi (qc ?_)))
   refine qa rfl (qj (v:=.func (.func g) #[] caps.toArray) rfl rfl ?_)
   refine qa rfl (qj (v:=.slice a l.length cap) rfl rfl ?_)
   refine qa rfl (qj (v:=vI ((k : Nat) : Int)) rfl rfl ?_)
   obtain ⟨b10,o11,ha12,hs13⟩:=hs3.elem 0 rfl k (by omega)
   refine qa rfl (qs rfl ha12 rfl un24 sz70 (by omega) (by omega) (o':=o11 + k * 2) (by omega) rfl ?_)
   refine qa rfl (qw (vs:=[vI ((l[k]'(by omega)).rd),vI ((l[k]'(by omega)).wr)]) rfl ag70 sz70 ((hs13.getR 0 rfl).2) rfl rfl ?_)
   refine qa rfl (zi (args:=.agg #[vI ((l[k]'(by omega)).rd),vI ((l[k]'(by omega)).wr)] :: caps) rfl rfl rfl he (hp _ hs13.base _ (List.getElem_mem (by omega : k < l.length))) ?_)
   rintro _ w14 ⟨rfl,hk16⟩
   have hs15:=hs13.keep hk16
   refine ql (qb ?_)
   refine k5 (t:=(p (l[k]'(by omega)))) rfl (fun hc17=>?_) (fun hc17=>?_)
   ·try simp only [Bool.and_eq_true,Bool.or_eq_true,Bool.not_eq_true',Bool.and_eq_false_iff,Bool.or_eq_false_iff,Bool.not_eq_false',decide_eq_true_eq,decide_eq_false_iff_not,Bool.and_eq_false_imp] at hc17
    refine qi (qc ?_)
    refine qa rfl (qj (v:=vI ((k : Nat) : Int)) rfl rfl ?_)
    refine qa rfl (qf (v:=vI ((k : Nat) : Int)) rfl rfl ?_)
    refine ql (qb (zo (zk (q9 (q9 (zk (q9 ?_)))))))
    refine ⟨vI ((k : Nat) : Int),res1 rfl,?_⟩
    exact ⟨⟨(k : Int),rfl,by simp only [Int.natCast_nonneg,true_iff]; exact List.any_eq_true.2 ⟨_,List.getElem_mem (by omega),hc17⟩⟩,hs15.base⟩
   ·try simp only [Bool.and_eq_true,Bool.or_eq_true,Bool.not_eq_true',Bool.and_eq_false_iff,Bool.or_eq_false_iff,Bool.not_eq_false',decide_eq_true_eq,decide_eq_false_iff_not,Bool.and_eq_false_imp] at hc17
    refine zn (z7 (qb (qc ?_)))
    refine qa rfl (qt (v:=vI ((k + 1 : Nat) : Int)) rfl rfl rfl (ki (qz (by omega) (by omega))) ?_)
    refine qa rfl (qj (v:=vI ((k + 1 : Nat) : Int)) rfl rfl ?_)
    refine ql (qb ?_)
    refine ⟨_,?_,k + 1,rfl,by omega,(none_take_succ hl2 (by omega) hc17),rfl,rfl,rfl,rfl,hs15.popR⟩
    omega
  ·refine ja (z0 (z0 (ke (qb (qi (qc ?_))))))
   refine qa rfl (qf (v:=vI (-1)) rfl rfl ?_)
   refine ql (qb (zo ?_))
   refine ⟨vI (-1),res1 rfl,?_⟩
   exact ⟨⟨-1,rfl,by rw [List.take_of_length_le (by omega)] at hl2; simpa using hl2⟩,hs3.base⟩

/-- slices.ContainsFunc[[]seizin/api.Share,seizin/api.Share] -/
theorem containsF_share (a : Option Addr) (cap : Nat) (l : List ShareV) (g : FuncId) (caps : List Value) (p : ShareV → Bool) (w : World) (h : (arrI zw 2 a l).φ w) (hl : l.length ≤ 20000) (he : ∀ args w,(callFunc g args).run Try.prog w = .ok (.enter g args) w) (hp : ∀ W,Grow w W → ∀ x,x ∈ l → C Try.prog g (.agg #[vI x.rd,vI x.wr] :: caps) W fun v W'=>v = .bool (p x) ∧ Grow W W') :
  C Try.prog 71 [.slice a l.length cap,.func (.func g) #[] caps.toArray] w fun v w'=>v = .bool (l.any p) ∧ Grow w w':=by
 have hs0 : St w (fun _=>False) w [] [arrI zw 2 a l]:=St.start w _ (by simpa using h)
 refine z8 [.tmp 4] 9 Try.func71 rfl Try.ntmps71 rfl rfl ?_
 refine qi (qc ?_)
 refine qa rfl (qf (v:=.bool false) rfl rfl ?_)
 refine ql (qb (qi (qc ?_)))
 refine qa rfl (qj (v:=.slice a l.length cap) rfl rfl ?_)
 refine qa rfl (qj (v:=.func (.func g) #[] caps.toArray) rfl rfl ?_)
 refine qa rfl (zi (args:=[.slice a l.length cap,.func (.func g) #[] caps.toArray]) rfl rfl rfl en81 (indexF_share a cap l g caps p _ (hs0.getR 0 rfl) hl he (fun W hW=>hp W (hs0.base.trans hW))) ?_)
 rintro _ w1 ⟨⟨i4,rfl,hi5⟩,hk3⟩
 have hs2:=hs0.keep hk3
 refine qa rfl (qt (k:=.i64) (k':=.i64) (a:=i4) (b:=0) rfl rfl rfl b_geq ?_)
 refine qa rfl (qf (v:=.bool (decide (0 ≤ i4))) rfl rfl ?_)
 refine ql (qb (zo ?_))
 refine ⟨.bool (decide (0 ≤ i4)),res1 rfl,?_⟩
 exact ⟨congrArg Value.bool (any_of_iff ‹_›),hs2.base⟩

/-- seizin/image.all[seizin/api.Share]$1 -/
theorem all1_share (x : ShareV) (g : FuncId) (caps : List Value) (p : ShareV → Bool) (b : Nat) (w : World) (h : (blk b [.func (.func g) #[] caps.toArray] 95).φ w) (he : ∀ args w,(callFunc g args).run Try.prog w = .ok (.enter g args) w) (hp : ∀ W,Grow w W → C Try.prog g (.agg #[vI x.rd,vI x.wr] :: caps) W fun v W'=>v = .bool (p x) ∧ Grow W W') :
  C Try.prog 72 [.agg #[vI x.rd,vI x.wr],.pointer (some ⟨b,0,none⟩)] w fun v w'=>v = .bool (!p x) ∧ Grow w w':=by
 have hs0 : St w (fun _=>False) w [] [blk b [.func (.func g) #[] caps.toArray] 95]:=St.start w _ (by simpa using h)
 refine z8 [.tmp 3] 8 Try.func72 rfl Try.ntmps72 rfl rfl ?_
 refine qi (qc ?_)
 refine qa rfl (jw (v:=.agg #[vI x.rd,vI x.wr]) (cs:=[vI x.rd,vI x.wr]) hs0 rfl rfl rfl ?_)
 intro b1 w2 hb4 hs3
 refine qa rfl (qf (v:=.bool false) rfl rfl ?_)
 refine ql (qb (qi (qc ?_)))
 refine qa rfl (qq (v:=.func (.func g) #[] caps.toArray) rfl ag95 (qh (hs3.getR 0 rfl) rfl) rfl ?_)
 refine qa rfl (qw (vs:=[vI x.rd,vI x.wr]) rfl ag70 sz70 (Rd.of_blk (hs3.get 0 rfl) 0 2) rfl rfl ?_)
 refine qa rfl (zi (args:=.agg #[vI x.rd,vI x.wr] :: caps) rfl rfl rfl he (hp _ hs3.base) ?_)
 rintro _ w5 ⟨rfl,hk7⟩
 have hs6:=hs3.keep hk7
 refine qa rfl (j0 (b:=(p x)) rfl rfl ?_)
 refine qa rfl (qf (v:=.bool (!(p x))) rfl rfl ?_)
 refine ql (qb (zo ?_))
 refine ⟨.bool (!(p x)),res1 rfl,?_⟩
 exact ⟨rfl,hs6.base⟩

/-- seizin/image.all[seizin/api.Share] -/
theorem all_share (a : Option Addr) (cap : Nat) (l : List ShareV) (g : FuncId) (caps : List Value) (p : ShareV → Bool) (w : World) (h : (arrI zw 2 a l).φ w) (hl : l.length ≤ 20000) (he : ∀ args w,(callFunc g args).run Try.prog w = .ok (.enter g args) w) (hp : ∀ W,Grow w W → ∀ x,x ∈ l → C Try.prog g (.agg #[vI x.rd,vI x.wr] :: caps) W fun v W'=>v = .bool (p x) ∧ Grow W W') :
  C Try.prog 56 [.slice a l.length cap,.func (.func g) #[] caps.toArray] w fun v w'=>v = .bool (l.all p) ∧ Grow w w':=by
 have hs0 : St w (fun _=>False) w [] [arrI zw 2 a l]:=St.start w _ (by simpa using h)
 refine z8 [.tmp 4] 9 Try.func56 rfl Try.ntmps56 rfl rfl ?_
 refine qi (qc ?_)
 refine qa rfl (jw (v:=.func (.func g) #[] caps.toArray) (cs:=[.func (.func g) #[] caps.toArray]) hs0 rfl rfl rfl ?_)
 intro b1 w2 hb4 hs3
 refine qa rfl (qf (v:=.bool false) rfl rfl ?_)
 refine ql (qb (qi (qc ?_)))
 refine qa rfl (qj (v:=.slice a l.length cap) rfl rfl ?_)
 refine qa rfl (yh (fi:=[]) (cap:=[.pointer (some ⟨b1,0,none⟩)]) rfl rfl rfl ?_)
 refine qa rfl (zi (args:=[.slice a l.length cap,.func (.func 72) #[] #[.pointer (some ⟨b1,0,none⟩)]]) rfl rfl rfl en71 (containsF_share a cap l 72 [.pointer (some ⟨b1,0,none⟩)] (fun x=>!p x) _ (hs3.getR 0 rfl) hl en72 (fun W hW x hx=>all1_share x g caps p b1 W ((hs3.keep hW).get 0 rfl) he (fun W2 h2=>hp W2 (hs3.base.trans (hW.trans h2)) x hx))) ?_)
 rintro _ w5 ⟨rfl,hk7⟩
 have hs6:=hs3.keep hk7
 refine qa rfl (j0 (b:=(l.any fun x=>!p x)) rfl rfl ?_)
 refine qa rfl (qf (v:=.bool (!(l.any fun x=>!p x))) rfl rfl ?_)
 refine ql (qb (zo ?_))
 refine ⟨.bool (!(l.any fun x=>!p x)),res1 rfl,?_⟩
 exact ⟨congrArg Value.bool (not_any_not l p),hs6.base⟩

/-- slices.IndexFunc[[]seizin/api.Ins,seizin/api.Ins] -/
theorem indexF_ins (a : Option Addr) (cap : Nat) (l : List InsV) (g : FuncId) (caps : List Value) (p : InsV → Bool) (w : World) (h : (arrI xi 4 a l).φ w) (hl : l.length ≤ 20000) (he : ∀ args w,(callFunc g args).run Try.prog w = .ok (.enter g args) w) (hp : ∀ W,Grow w W → ∀ x,x ∈ l → C Try.prog g (.agg #[vI x.op,vI x.a,vI x.b,vI x.c] :: caps) W fun v W'=>v = .bool (p x) ∧ Grow W W') :
  C Try.prog 76 [.slice a l.length cap,.func (.func g) #[] caps.toArray] w fun v w'=>(∃ i : Int,v = vI i ∧ (0 ≤ i ↔ l.any p = true)) ∧ Grow w w':=by
 have hs0 : St w (fun _=>False) w [] [arrI xi 4 a l]:=St.start w _ (by simpa using h)
 refine z8 [.tmp 4] 19 Try.func76 rfl Try.ntmps76 rfl rfl ?_
 refine qi (qc ?_)
 refine qa rfl (qf (v:=vI 0) rfl rfl ?_)
 refine ql (qb (qi (qi (qc ?_))))
 refine qa rfl (qj (v:=.slice a l.length cap) rfl rfl ?_)
 refine qa rfl (qx (len:=l.length) rfl un75 rfl ?_)
 refine qa rfl (qj (v:=vI 0) rfl rfl ?_)
 refine ql (qb (zy ?_))
 refine kw (fun m_ f_ w_=>∃ k : Nat,m_ = l.length - k ∧ (k ≤ l.length) ∧ (∀ x ∈ l.take k,p x = false) ∧ f_ 0 = .slice a l.length cap ∧ f_ 1 = .func (.func g) #[] caps.toArray ∧ f_ 7 = vI ((l.length : Nat) : Int) ∧ f_ 8 = vI ((k : Nat) : Int) ∧ St w (fun _=>False) w_ [] [arrI xi 4 a l]) ?_ ?_
 ·exact ⟨_,0,rfl,Nat.zero_le _,by simp,rfl,rfl,rfl,rfl,hs0⟩
 ·intro m4 f1 w2; rintro ⟨k,rfl,hl1,hl2,e5,e6,e7,e8,hs3⟩
  rewrite [qm e5]
  rewrite [qm e6]
  rewrite [qm e7]
  rewrite [qm e8]
  refine qi (qc ?_)
  refine qa rfl (qt (k:=.i64) (k':=.i64) (a:=((k : Nat) : Int)) (b:=((l.length : Nat) : Int)) rfl rfl rfl jg ?_)
  refine ql (qb (qi ?_))
  refine zd rfl (fun hc9=>?_) (fun hc9=>?_)
  ·refine zn (qb (qi (zy (qi (qc ?_)))))
   refine qa rfl (qj (v:=vI ((k : Nat) : Int)) rfl rfl ?_)
   refine qa rfl (qf (v:=vI ((k : Nat) : Int)) rfl rfl ?_)
   refine ql (qb (qi (qc ?_)))
   refine qa rfl (qj (v:=.func (.func g) #[] caps.toArray) rfl rfl ?_)
   refine qa rfl (qj (v:=.slice a l.length cap) rfl rfl ?_)
   refine qa rfl (qj (v:=vI ((k : Nat) : Int)) rfl rfl ?_)
   obtain ⟨b10,o11,ha12,hs13⟩:=hs3.elem 0 rfl k (by omega)
   refine qa rfl (qs rfl ha12 rfl un75 sz79 (by omega) (by omega) (o':=o11 + k * 4) (by omega) rfl ?_)
   refine qa rfl (qw (vs:=[vI ((l[k]'(by omega)).op),vI ((l[k]'(by omega)).a),vI ((l[k]'(by omega)).b),vI ((l[k]'(by omega)).c)]) rfl ag79 sz79 ((hs13.getR 0 rfl).2) rfl rfl ?_)
   refine qa rfl (zi (args:=.agg #[vI ((l[k]'(by omega)).op),vI ((l[k]'(by omega)).a),vI ((l[k]'(by omega)).b),vI ((l[k]'(by omega)).c)] :: caps) rfl rfl rfl he (hp _ hs13.base _ (List.getElem_mem (by omega : k < l.length))) ?_)
   rintro _ w14 ⟨rfl,hk16⟩
   have hs15:=hs13.keep hk16
   refine ql (qb ?_)
   refine k5 (t:=(p (l[k]'(by omega)))) rfl (fun hc17=>?_) (fun hc17=>?_)
   ·try simp only [Bool.and_eq_true,Bool.or_eq_true,Bool.not_eq_true',Bool.and_eq_false_iff,Bool.or_eq_false_iff,Bool.not_eq_false',decide_eq_true_eq,decide_eq_false_iff_not,Bool.and_eq_false_imp] at hc17
    refine qi (qc ?_)
    refine qa rfl (qj (v:=vI ((k : Nat) : Int)) rfl rfl ?_)
    refine qa rfl (qf (v:=vI ((k : Nat) : Int)) rfl rfl ?_)
    refine ql (qb (zo (zk (q9 (q9 (zk (q9 ?_)))))))
    refine ⟨vI ((k : Nat) : Int),res1 rfl,?_⟩
    exact ⟨⟨(k : Int),rfl,by simp only [Int.natCast_nonneg,true_iff]; exact List.any_eq_true.2 ⟨_,List.getElem_mem (by omega),hc17⟩⟩,hs15.base⟩
   ·try simp only [Bool.and_eq_true,Bool.or_eq_true,Bool.not_eq_true',Bool.and_eq_false_iff,Bool.or_eq_false_iff,Bool.not_eq_false',decide_eq_true_eq,decide_eq_false_iff_not,Bool.and_eq_false_imp] at hc17
    refine zn (z7 (qb (qc ?_)))
    refine qa rfl (qt (v:=vI ((k + 1 : Nat) : Int)) rfl rfl rfl (ki (qz (by omega) (by omega))) ?_)
    refine qa rfl (qj (v:=vI ((k + 1 : Nat) : Int)) rfl rfl ?_)
    refine ql (qb ?_)
    refine ⟨_,?_,k + 1,rfl,by omega,(none_take_succ hl2 (by omega) hc17),rfl,rfl,rfl,rfl,hs15.popR⟩
    omega
  ·refine ja (z0 (z0 (ke (qb (qi (qc ?_))))))
   refine qa rfl (qf (v:=vI (-1)) rfl rfl ?_)
   refine ql (qb (zo ?_))
   refine ⟨vI (-1),res1 rfl,?_⟩
   exact ⟨⟨-1,rfl,by rw [List.take_of_length_le (by omega)] at hl2; simpa using hl2⟩,hs3.base⟩

/-- slices.ContainsFunc[[]seizin/api.Ins,seizin/api.Ins] -/
theorem containsF_ins (a : Option Addr) (cap : Nat) (l : List InsV) (g : FuncId) (caps : List Value) (p : InsV → Bool) (w : World) (h : (arrI xi 4 a l).φ w) (hl : l.length ≤ 20000) (he : ∀ args w,(callFunc g args).run Try.prog w = .ok (.enter g args) w) (hp : ∀ W,Grow w W → ∀ x,x ∈ l → C Try.prog g (.agg #[vI x.op,vI x.a,vI x.b,vI x.c] :: caps) W fun v W'=>v = .bool (p x) ∧ Grow W W') :
  C Try.prog 64 [.slice a l.length cap,.func (.func g) #[] caps.toArray] w fun v w'=>v = .bool (l.any p) ∧ Grow w w':=by
 have hs0 : St w (fun _=>False) w [] [arrI xi 4 a l]:=St.start w _ (by simpa using h)
 refine z8 [.tmp 4] 9 Try.func64 rfl Try.ntmps64 rfl rfl ?_
 refine qi (qc ?_)
 refine qa rfl (qf (v:=.bool false) rfl rfl ?_)
 refine ql (qb (qi (qc ?_)))
 refine qa rfl (qj (v:=.slice a l.length cap) rfl rfl ?_)
 refine qa rfl (qj (v:=.func (.func g) #[] caps.toArray) rfl rfl ?_)
 refine qa rfl (zi (args:=[.slice a l.length cap,.func (.func g) #[] caps.toArray]) rfl rfl rfl en76 (indexF_ins a cap l g caps p _ (hs0.getR 0 rfl) hl he (fun W hW=>hp W (hs0.base.trans hW))) ?_)
 rintro _ w1 ⟨⟨i4,rfl,hi5⟩,hk3⟩
 have hs2:=hs0.keep hk3
 refine qa rfl (qt (k:=.i64) (k':=.i64) (a:=i4) (b:=0) rfl rfl rfl b_geq ?_)
 refine qa rfl (qf (v:=.bool (decide (0 ≤ i4))) rfl rfl ?_)
 refine ql (qb (zo ?_))
 refine ⟨.bool (decide (0 ≤ i4)),res1 rfl,?_⟩
 exact ⟨congrArg Value.bool (any_of_iff ‹_›),hs2.base⟩


end Go.Proofs.Ytgddigkdldnmdaa
