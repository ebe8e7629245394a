import Derived.Test.YtgddigkdldnmdaaCWhere7
namespace Go.Proofs.Ytgddigkdldnmdaa
open Go Go.Vg Go.Img
set_option linter.unusedSimpArgs false
set_option maxHeartbeats 4000000
theorem en77 : ∀ args w,(callFunc 77 args).run Try.prog w = .ok (.enter 77 args) w:=fun args w=>qy Try.func77 (by kernel_rfl) rfl args w
theorem en85 : ∀ args w,(callFunc 85 args).run Try.prog w = .ok (.enter 85 args) w:=fun args w=>qy Try.func85 (by kernel_rfl) rfl args w
theorem en78 : ∀ args w,(callFunc 78 args).run Try.prog w = .ok (.enter 78 args) w:=fun args w=>qy Try.func78 (by kernel_rfl) rfl args w
theorem en65 : ∀ args w,(callFunc 65 args).run Try.prog w = .ok (.enter 65 args) w:=fun args w=>qy Try.func65 (by kernel_rfl) rfl args w

theorem and_l {a b : Bool} (h : (a && b) = true) : a = true:=by simp at h; exact h.1
theorem rright_eq (x : InsV) : ((((!decide ((q3 x.op).toList = (⟨#[]⟩ : ByteArray).toList)) && (z4 (zj x.op 0).toNat x.a)) && (z4 (zj x.op 1).toNat x.b)) && (z4 (zj x.op 2).toNat x.c)) = insS x:=by
 rcases kinds_size x.op with h0|h3
 ·have h1 : (q3 x.op).toList = (⟨#[]⟩ : ByteArray).toList:=by
   rw [kindsB_toList,List.eq_nil_of_length_eq_zero (show (kj x.op).length = 0 from h0),yp]
  have h2:=kinds_none.1 h0
  simp only [h1,decide_true,Bool.not_true,Bool.false_and]
  unfold insS
  rcases h2 with h2|h2
  ·rw [decide_eq_false (by omega : ¬ 0 ≤ x.op)]; rfl
  ·rw [decide_eq_false (by omega : ¬ x.op ≤ 29)]; simp
 ·have h1 : ¬ (q3 x.op).toList = (⟨#[]⟩ : ByteArray).toList:=by
   intro h
   rw [kindsB_toList] at h
   have h' : (kj x.op).length = 3:=h3
   rw [h,yp] at h'; revert h'; decide
  have h2 : ¬ (x.op < 0 ∨ 29 < x.op):=fun h=>by have:=kinds_none.2 h; omega
  have e : ∀ i,i < 3 → ((q3 x.op)[i]?.map UInt8.toNat).getD 0 = (zj x.op i).toNat:=by
   intro i hi
   rw [kindsU_get (by omega)]; rfl
  unfold insS
  rw [decide_eq_true (by omega : 0 ≤ x.op),decide_eq_true (by omega : x.op ≤ 29),h3]
  simp only [h1,decide_false,Bool.not_false,Bool.true_and]
  simp only [show List.range 3 = [0,1,2] from rfl,List.all_cons,List.all_nil,Bool.and_true,e 0 (by decide),e 1 (by decide),e 2 (by decide),Bool.and_assoc]
  rfl
theorem getS_none {l : List UInt8} (h : l.length = 4) (hk : (q3 ((l[0].toNat : Nat) : Int)).toList = (⟨#[]⟩ : ByteArray).toList) : getS l = (insZ,151):=by
 rw [xf h]
 have hop : (insOf l[0] l[1] l[2] l[3]).op = ((l[0].toNat : Nat) : Int):=by unfold insOf; split <;> rfl
 have : insS (insOf l[0] l[1] l[2] l[3]) = false:=by rw [← rright_eq,hop,decide_eq_true hk]; rfl
 rw [this]; rfl
theorem wide_of {op : Int} {b : Bool} (hne : ¬ (q3 op).toList = (⟨#[]⟩ : ByteArray).toList) (h : decide (((zj op 1).toNat : Int) = 119) = b) : yc op = b:=by
 rw [← wide_eq,h,decide_eq_false hne]; cases b <;> rfl
theorem rw_thin {b0 b1 b2 b3 : UInt8} (h : yc b0.toNat = false) : (⟨b0.toNat,b1.toNat,b2.toNat,b3.toNat⟩ : InsV) = insOf b0 b1 b2 b3:=(insOf_thin h).symm
theorem rw_big {b0 b1 b2 b3 : UInt8} (h : yc b0.toNat = true) (hb : (32768 : Int) ≤ 256 * (b2.toNat : Int) + (b3.toNat : Int)) : (⟨b0.toNat,b1.toNat,256 * (b2.toNat : Int) + (b3.toNat : Int) - 65536,0⟩ : InsV) = insOf b0 b1 b2 b3:=by
 rw [insOf_wide h]
 unfold jz
 rw [if_pos (by omega)]
 congr 1; omega
theorem rw_small {b0 b1 b2 b3 : UInt8} (h : yc b0.toNat = true) (hb : ¬ (32768 : Int) ≤ 256 * (b2.toNat : Int) + (b3.toNat : Int)) : (⟨b0.toNat,b1.toNat,256 * (b2.toNat : Int) + (b3.toNat : Int),0⟩ : InsV) = insOf b0 b1 b2 b3:=by
 rw [insOf_wide h]
 unfold jz
 rw [if_neg (by omega)]
 congr 1; omega

set_option maxHeartbeats 1000000 in
/-- seizin/seizinref15.Kinds -/
theorem rkinds_c (op : Int) (w : World)  :
  C Try.prog 77 [vI op] w fun v w'=>v = .string (q3 op) ∧ Grow w w':=by
 have hs0 : St w (fun _=>False) w [] []:=St.start w _ (by simp)
 refine z8 [.tmp 2] 41 Try.func77 rfl Try.ntmps77 rfl rfl ?_
 refine qi (qc ?_)
 refine qa rfl (qf (v:=.string (⟨#[]⟩)) rfl rfl ?_)
 refine ql (qb (qi (qi (qc ?_))))
 refine qa rfl (qj (v:=vI op) rfl rfl ?_)
 refine ql (qb (zy (qi (qi (qc ?_)))))
 refine qa rfl (qt (k:=.i64) (k':=.i64) (a:=op) (b:=0) rfl rfl rfl k8 ?_)
 refine qa rfl (qf (v:=.bool (decide (op = 0))) rfl rfl ?_)
 refine ql (qb ?_)
 refine zd rfl (fun hc1=>?_) (fun hc1=>?_)
 ·refine kr 4 (.bool true) (Eq.trans rfl (congrArg Value.bool (decide_eq_true hc1))) ?_
  refine zn (qb ?_)
  refine jj rfl ?_
  refine qi (qc ?_)
  refine qa rfl (qf (v:=.string (⟨#[45,45,45]⟩)) rfl rfl ?_)
  refine ql (qb (zo (zk (q9 ?_))))
  refine ⟨.string (⟨#[45,45,45]⟩),res1 rfl,?_⟩
  exact ⟨congrArg Value.string (z6 (by simp_all [kj])),hs0.base⟩
 ·refine kr 4 (.bool false) (Eq.trans rfl (congrArg Value.bool (decide_eq_false hc1))) ?_
  refine qc ?_
  refine qa rfl (qt (k:=.i64) (k':=.i64) (a:=op) (b:=24) rfl rfl rfl k8 ?_)
  refine qa rfl (qf (v:=.bool (decide (op = 24))) rfl rfl ?_)
  refine ql (qb ?_)
  refine zd rfl (fun hc2=>?_) (fun hc2=>?_)
  ·refine kr 4 (.bool true) (Eq.trans rfl (congrArg Value.bool (decide_eq_true hc2))) ?_
   refine qi (qc ?_)
   refine qa rfl (qf (v:=.string (⟨#[45,45,45]⟩)) rfl rfl ?_)
   refine ql (qb (zo (zk (q9 ?_))))
   refine ⟨.string (⟨#[45,45,45]⟩),res1 rfl,?_⟩
   exact ⟨congrArg Value.string (z6 (by simp_all [kj])),hs0.base⟩
  ·refine kr 4 (.bool false) (Eq.trans rfl (congrArg Value.bool (decide_eq_false hc2))) ?_
   refine qi (qi (qc ?_))
   refine qa rfl (qt (k:=.i64) (k':=.i64) (a:=op) (b:=1) rfl rfl rfl k8 ?_)
   refine qa rfl (qf (v:=.bool (decide (op = 1))) rfl rfl ?_)
   refine ql (qb ?_)
   refine zd rfl (fun hc3=>?_) (fun hc3=>?_)
   ·refine kr 7 (.bool true) (Eq.trans rfl (congrArg Value.bool (decide_eq_true hc3))) ?_
    refine zn (qb ?_)
    refine jj rfl ?_
    refine qi (qc ?_)
    refine qa rfl (qf (v:=.string (⟨#[114,119,118]⟩)) rfl rfl ?_)
    refine ql (qb (zo (zk (q9 ?_))))
    refine ⟨.string (⟨#[114,119,118]⟩),res1 rfl,?_⟩
    exact ⟨congrArg Value.string (z6 (by simp_all [kj])),hs0.base⟩
   ·refine kr 7 (.bool false) (Eq.trans rfl (congrArg Value.bool (decide_eq_false hc3))) ?_
    refine qc ?_
    refine qa rfl (qt (k:=.i64) (k':=.i64) (a:=op) (b:=10) rfl rfl rfl k8 ?_)
    refine qa rfl (qf (v:=.bool (decide (op = 10))) rfl rfl ?_)
    refine ql (qb ?_)
    refine zd rfl (fun hc4=>?_) (fun hc4=>?_)
    ·refine kr 7 (.bool true) (Eq.trans rfl (congrArg Value.bool (decide_eq_true hc4))) ?_
     refine qi (qc ?_)
     refine qa rfl (qf (v:=.string (⟨#[114,119,118]⟩)) rfl rfl ?_)
     refine ql (qb (zo (zk (q9 ?_))))
     refine ⟨.string (⟨#[114,119,118]⟩),res1 rfl,?_⟩
     exact ⟨congrArg Value.string (z6 (by simp_all [kj])),hs0.base⟩
    ·refine kr 7 (.bool false) (Eq.trans rfl (congrArg Value.bool (decide_eq_false hc4))) ?_
     refine qi (qi (qc ?_))
     refine qa rfl (qt (k:=.i64) (k':=.i64) (a:=op) (b:=2) rfl rfl rfl k8 ?_)
     refine qa rfl (qf (v:=.bool (decide (op = 2))) rfl rfl ?_)
     refine ql (qb ?_)
     refine zd rfl (fun hc5=>?_) (fun hc5=>?_)
     ·refine kr 10 (.bool true) (Eq.trans rfl (congrArg Value.bool (decide_eq_true hc5))) ?_
      refine zn (qb ?_)
      refine jj rfl ?_
      refine qi (qc ?_)
      refine qa rfl (qf (v:=.string (⟨#[114,114,45]⟩)) rfl rfl ?_)
      refine ql (qb (zo (zk (q9 ?_))))
      refine ⟨.string (⟨#[114,114,45]⟩),res1 rfl,?_⟩
      exact ⟨congrArg Value.string (z6 (by simp_all [kj])),hs0.base⟩
     ·refine kr 10 (.bool false) (Eq.trans rfl (congrArg Value.bool (decide_eq_false hc5))) ?_
      refine qi (qc ?_)
      refine qa rfl (qt (k:=.i64) (k':=.i64) (a:=op) (b:=22) rfl rfl rfl k8 ?_)
      refine qa rfl (qf (v:=.bool (decide (op = 22))) rfl rfl ?_)
      refine ql (qb ?_)
      refine zd rfl (fun hc6=>?_) (fun hc6=>?_)
      ·refine kr 10 (.bool true) (Eq.trans rfl (congrArg Value.bool (decide_eq_true hc6))) ?_
       refine zn (qb ?_)
       refine jj rfl ?_
       refine qi (qc ?_)
       refine qa rfl (qf (v:=.string (⟨#[114,114,45]⟩)) rfl rfl ?_)
       refine ql (qb (zo (zk (q9 ?_))))
       refine ⟨.string (⟨#[114,114,45]⟩),res1 rfl,?_⟩
       exact ⟨congrArg Value.string (z6 (by simp_all [kj])),hs0.base⟩
      ·refine kr 10 (.bool false) (Eq.trans rfl (congrArg Value.bool (decide_eq_false hc6))) ?_
       refine qi (qc ?_)
       refine qa rfl (qt (k:=.i64) (k':=.i64) (a:=op) (b:=23) rfl rfl rfl k8 ?_)
       refine qa rfl (qf (v:=.bool (decide (op = 23))) rfl rfl ?_)
       refine ql (qb ?_)
       refine zd rfl (fun hc7=>?_) (fun hc7=>?_)
       ·refine kr 10 (.bool true) (Eq.trans rfl (congrArg Value.bool (decide_eq_true hc7))) ?_
        refine zn (qb ?_)
        refine jj rfl ?_
        refine qi (qc ?_)
        refine qa rfl (qf (v:=.string (⟨#[114,114,45]⟩)) rfl rfl ?_)
        refine ql (qb (zo (zk (q9 ?_))))
        refine ⟨.string (⟨#[114,114,45]⟩),res1 rfl,?_⟩
        exact ⟨congrArg Value.string (z6 (by simp_all [kj])),hs0.base⟩
       ·refine kr 10 (.bool false) (Eq.trans rfl (congrArg Value.bool (decide_eq_false hc7))) ?_
        refine qi (qc ?_)
        refine qa rfl (qt (k:=.i64) (k':=.i64) (a:=op) (b:=25) rfl rfl rfl k8 ?_)
        refine qa rfl (qf (v:=.bool (decide (op = 25))) rfl rfl ?_)
        refine ql (qb ?_)
        refine zd rfl (fun hc8=>?_) (fun hc8=>?_)
        ·refine kr 10 (.bool true) (Eq.trans rfl (congrArg Value.bool (decide_eq_true hc8))) ?_
         refine zn (qb ?_)
         refine jj rfl ?_
         refine qi (qc ?_)
         refine qa rfl (qf (v:=.string (⟨#[114,114,45]⟩)) rfl rfl ?_)
         refine ql (qb (zo (zk (q9 ?_))))
         refine ⟨.string (⟨#[114,114,45]⟩),res1 rfl,?_⟩
         exact ⟨congrArg Value.string (z6 (by simp_all [kj])),hs0.base⟩
        ·refine kr 10 (.bool false) (Eq.trans rfl (congrArg Value.bool (decide_eq_false hc8))) ?_
         refine qi (qc ?_)
         refine qa rfl (qt (k:=.i64) (k':=.i64) (a:=op) (b:=26) rfl rfl rfl k8 ?_)
         refine qa rfl (qf (v:=.bool (decide (op = 26))) rfl rfl ?_)
         refine ql (qb ?_)
         refine zd rfl (fun hc9=>?_) (fun hc9=>?_)
         ·refine kr 10 (.bool true) (Eq.trans rfl (congrArg Value.bool (decide_eq_true hc9))) ?_
          refine zn (qb ?_)
          refine jj rfl ?_
          refine qi (qc ?_)
          refine qa rfl (qf (v:=.string (⟨#[114,114,45]⟩)) rfl rfl ?_)
          refine ql (qb (zo (zk (q9 ?_))))
          refine ⟨.string (⟨#[114,114,45]⟩),res1 rfl,?_⟩
          exact ⟨congrArg Value.string (z6 (by simp_all [kj])),hs0.base⟩
         ·refine kr 10 (.bool false) (Eq.trans rfl (congrArg Value.bool (decide_eq_false hc9))) ?_
          refine qi (qc ?_)
          refine qa rfl (qt (k:=.i64) (k':=.i64) (a:=op) (b:=27) rfl rfl rfl k8 ?_)
          refine qa rfl (qf (v:=.bool (decide (op = 27))) rfl rfl ?_)
          refine ql (qb ?_)
          refine zd rfl (fun hc10=>?_) (fun hc10=>?_)
          ·refine kr 10 (.bool true) (Eq.trans rfl (congrArg Value.bool (decide_eq_true hc10))) ?_
           refine zn (qb ?_)
           refine jj rfl ?_
           refine qi (qc ?_)
           refine qa rfl (qf (v:=.string (⟨#[114,114,45]⟩)) rfl rfl ?_)
           refine ql (qb (zo (zk (q9 ?_))))
           refine ⟨.string (⟨#[114,114,45]⟩),res1 rfl,?_⟩
           exact ⟨congrArg Value.string (z6 (by simp_all [kj])),hs0.base⟩
          ·refine kr 10 (.bool false) (Eq.trans rfl (congrArg Value.bool (decide_eq_false hc10))) ?_
           refine qc ?_
           refine qa rfl (qt (k:=.i64) (k':=.i64) (a:=op) (b:=28) rfl rfl rfl k8 ?_)
           refine qa rfl (qf (v:=.bool (decide (op = 28))) rfl rfl ?_)
           refine ql (qb ?_)
           refine zd rfl (fun hc11=>?_) (fun hc11=>?_)
           ·refine kr 10 (.bool true) (Eq.trans rfl (congrArg Value.bool (decide_eq_true hc11))) ?_
            refine qi (qc ?_)
            refine qa rfl (qf (v:=.string (⟨#[114,114,45]⟩)) rfl rfl ?_)
            refine ql (qb (zo (zk (q9 ?_))))
            refine ⟨.string (⟨#[114,114,45]⟩),res1 rfl,?_⟩
            exact ⟨congrArg Value.string (z6 (by simp_all [kj])),hs0.base⟩
           ·refine kr 10 (.bool false) (Eq.trans rfl (congrArg Value.bool (decide_eq_false hc11))) ?_
            refine qi (qi (qc ?_))
            refine qa rfl (qt (k:=.i64) (k':=.i64) (a:=op) (b:=3) rfl rfl rfl k8 ?_)
            refine qa rfl (qf (v:=.bool (decide (op = 3))) rfl rfl ?_)
            refine ql (qb ?_)
            refine zd rfl (fun hc12=>?_) (fun hc12=>?_)
            ·refine kr 18 (.bool true) (Eq.trans rfl (congrArg Value.bool (decide_eq_true hc12))) ?_
             refine zn (qb ?_)
             refine jj rfl ?_
             refine qi (qc ?_)
             refine qa rfl (qf (v:=.string (⟨#[114,114,114]⟩)) rfl rfl ?_)
             refine ql (qb (zo (zk (q9 ?_))))
             refine ⟨.string (⟨#[114,114,114]⟩),res1 rfl,?_⟩
             exact ⟨congrArg Value.string (z6 (by simp_all [kj])),hs0.base⟩
            ·refine kr 18 (.bool false) (Eq.trans rfl (congrArg Value.bool (decide_eq_false hc12))) ?_
             refine qi (qc ?_)
             refine qa rfl (qt (k:=.i64) (k':=.i64) (a:=op) (b:=4) rfl rfl rfl k8 ?_)
             refine qa rfl (qf (v:=.bool (decide (op = 4))) rfl rfl ?_)
             refine ql (qb ?_)
             refine zd rfl (fun hc13=>?_) (fun hc13=>?_)
             ·refine kr 18 (.bool true) (Eq.trans rfl (congrArg Value.bool (decide_eq_true hc13))) ?_
              refine zn (qb ?_)
              refine jj rfl ?_
              refine qi (qc ?_)
              refine qa rfl (qf (v:=.string (⟨#[114,114,114]⟩)) rfl rfl ?_)
              refine ql (qb (zo (zk (q9 ?_))))
              refine ⟨.string (⟨#[114,114,114]⟩),res1 rfl,?_⟩
              exact ⟨congrArg Value.string (z6 (by simp_all [kj])),hs0.base⟩
             ·refine kr 18 (.bool false) (Eq.trans rfl (congrArg Value.bool (decide_eq_false hc13))) ?_
              refine qi (qc ?_)
              refine qa rfl (qt (k:=.i64) (k':=.i64) (a:=op) (b:=5) rfl rfl rfl k8 ?_)
              refine qa rfl (qf (v:=.bool (decide (op = 5))) rfl rfl ?_)
              refine ql (qb ?_)
              refine zd rfl (fun hc14=>?_) (fun hc14=>?_)
              ·refine kr 18 (.bool true) (Eq.trans rfl (congrArg Value.bool (decide_eq_true hc14))) ?_
               refine zn (qb ?_)
               refine jj rfl ?_
               refine qi (qc ?_)
               refine qa rfl (qf (v:=.string (⟨#[114,114,114]⟩)) rfl rfl ?_)
               refine ql (qb (zo (zk (q9 ?_))))
               refine ⟨.string (⟨#[114,114,114]⟩),res1 rfl,?_⟩
               exact ⟨congrArg Value.string (z6 (by simp_all [kj])),hs0.base⟩
              ·refine kr 18 (.bool false) (Eq.trans rfl (congrArg Value.bool (decide_eq_false hc14))) ?_
               refine qi (qc ?_)
               refine qa rfl (qt (k:=.i64) (k':=.i64) (a:=op) (b:=6) rfl rfl rfl k8 ?_)
               refine qa rfl (qf (v:=.bool (decide (op = 6))) rfl rfl ?_)
               refine ql (qb ?_)
               refine zd rfl (fun hc15=>?_) (fun hc15=>?_)
               ·refine kr 18 (.bool true) (Eq.trans rfl (congrArg Value.bool (decide_eq_true hc15))) ?_
                refine zn (qb ?_)
                refine jj rfl ?_
                refine qi (qc ?_)
                refine qa rfl (qf (v:=.string (⟨#[114,114,114]⟩)) rfl rfl ?_)
                refine ql (qb (zo (zk (q9 ?_))))
                refine ⟨.string (⟨#[114,114,114]⟩),res1 rfl,?_⟩
                exact ⟨congrArg Value.string (z6 (by simp_all [kj])),hs0.base⟩
               ·refine kr 18 (.bool false) (Eq.trans rfl (congrArg Value.bool (decide_eq_false hc15))) ?_
                refine qi (qc ?_)
                refine qa rfl (qt (k:=.i64) (k':=.i64) (a:=op) (b:=7) rfl rfl rfl k8 ?_)
                refine qa rfl (qf (v:=.bool (decide (op = 7))) rfl rfl ?_)
                refine ql (qb ?_)
                refine zd rfl (fun hc16=>?_) (fun hc16=>?_)
                ·refine kr 18 (.bool true) (Eq.trans rfl (congrArg Value.bool (decide_eq_true hc16))) ?_
                 refine zn (qb ?_)
                 refine jj rfl ?_
                 refine qi (qc ?_)
                 refine qa rfl (qf (v:=.string (⟨#[114,114,114]⟩)) rfl rfl ?_)
                 refine ql (qb (zo (zk (q9 ?_))))
                 refine ⟨.string (⟨#[114,114,114]⟩),res1 rfl,?_⟩
                 exact ⟨congrArg Value.string (z6 (by simp_all [kj])),hs0.base⟩
                ·refine kr 18 (.bool false) (Eq.trans rfl (congrArg Value.bool (decide_eq_false hc16))) ?_
                 refine qi (qc ?_)
                 refine qa rfl (qt (k:=.i64) (k':=.i64) (a:=op) (b:=8) rfl rfl rfl k8 ?_)
                 refine qa rfl (qf (v:=.bool (decide (op = 8))) rfl rfl ?_)
                 refine ql (qb ?_)
                 refine zd rfl (fun hc17=>?_) (fun hc17=>?_)
                 ·refine kr 18 (.bool true) (Eq.trans rfl (congrArg Value.bool (decide_eq_true hc17))) ?_
                  refine zn (qb ?_)
                  refine jj rfl ?_
                  refine qi (qc ?_)
                  refine qa rfl (qf (v:=.string (⟨#[114,114,114]⟩)) rfl rfl ?_)
                  refine ql (qb (zo (zk (q9 ?_))))
                  refine ⟨.string (⟨#[114,114,114]⟩),res1 rfl,?_⟩
                  exact ⟨congrArg Value.string (z6 (by simp_all [kj])),hs0.base⟩
                 ·refine kr 18 (.bool false) (Eq.trans rfl (congrArg Value.bool (decide_eq_false hc17))) ?_
                  refine qi (qc ?_)
                  refine qa rfl (qt (k:=.i64) (k':=.i64) (a:=op) (b:=17) rfl rfl rfl k8 ?_)
                  refine qa rfl (qf (v:=.bool (decide (op = 17))) rfl rfl ?_)
                  refine ql (qb ?_)
                  refine zd rfl (fun hc18=>?_) (fun hc18=>?_)
                  ·refine kr 18 (.bool true) (Eq.trans rfl (congrArg Value.bool (decide_eq_true hc18))) ?_
                   refine zn (qb ?_)
                   refine jj rfl ?_
                   refine qi (qc ?_)
                   refine qa rfl (qf (v:=.string (⟨#[114,114,114]⟩)) rfl rfl ?_)
                   refine ql (qb (zo (zk (q9 ?_))))
                   refine ⟨.string (⟨#[114,114,114]⟩),res1 rfl,?_⟩
                   exact ⟨congrArg Value.string (z6 (by simp_all [kj])),hs0.base⟩
                  ·refine kr 18 (.bool false) (Eq.trans rfl (congrArg Value.bool (decide_eq_false hc18))) ?_
                   refine qi (qc ?_)
                   refine qa rfl (qt (k:=.i64) (k':=.i64) (a:=op) (b:=18) rfl rfl rfl k8 ?_)
                   refine qa rfl (qf (v:=.bool (decide (op = 18))) rfl rfl ?_)
                   refine ql (qb ?_)
                   refine zd rfl (fun hc19=>?_) (fun hc19=>?_)
                   ·refine kr 18 (.bool true) (Eq.trans rfl (congrArg Value.bool (decide_eq_true hc19))) ?_
                    refine zn (qb ?_)
                    refine jj rfl ?_
                    refine qi (qc ?_)
                    refine qa rfl (qf (v:=.string (⟨#[114,114,114]⟩)) rfl rfl ?_)
                    refine ql (qb (zo (zk (q9 ?_))))
                    refine ⟨.string (⟨#[114,114,114]⟩),res1 rfl,?_⟩
                    exact ⟨congrArg Value.string (z6 (by simp_all [kj])),hs0.base⟩
                   ·refine kr 18 (.bool false) (Eq.trans rfl (congrArg Value.bool (decide_eq_false hc19))) ?_
                    refine qi (qc ?_)
                    refine qa rfl (qt (k:=.i64) (k':=.i64) (a:=op) (b:=20) rfl rfl rfl k8 ?_)
                    refine qa rfl (qf (v:=.bool (decide (op = 20))) rfl rfl ?_)
                    refine ql (qb ?_)
                    refine zd rfl (fun hc20=>?_) (fun hc20=>?_)
                    ·refine kr 18 (.bool true) (Eq.trans rfl (congrArg Value.bool (decide_eq_true hc20))) ?_
                     refine zn (qb ?_)
                     refine jj rfl ?_
                     refine qi (qc ?_)
                     refine qa rfl (qf (v:=.string (⟨#[114,114,114]⟩)) rfl rfl ?_)
                     refine ql (qb (zo (zk (q9 ?_))))
                     refine ⟨.string (⟨#[114,114,114]⟩),res1 rfl,?_⟩
                     exact ⟨congrArg Value.string (z6 (by simp_all [kj])),hs0.base⟩
                    ·refine kr 18 (.bool false) (Eq.trans rfl (congrArg Value.bool (decide_eq_false hc20))) ?_
                     refine qc ?_
                     refine qa rfl (qt (k:=.i64) (k':=.i64) (a:=op) (b:=21) rfl rfl rfl k8 ?_)
                     refine qa rfl (qf (v:=.bool (decide (op = 21))) rfl rfl ?_)
                     refine ql (qb ?_)
                     refine zd rfl (fun hc21=>?_) (fun hc21=>?_)
                     ·refine kr 18 (.bool true) (Eq.trans rfl (congrArg Value.bool (decide_eq_true hc21))) ?_
                      refine qi (qc ?_)
                      refine qa rfl (qf (v:=.string (⟨#[114,114,114]⟩)) rfl rfl ?_)
                      refine ql (qb (zo (zk (q9 ?_))))
                      refine ⟨.string (⟨#[114,114,114]⟩),res1 rfl,?_⟩
                      exact ⟨congrArg Value.string (z6 (by simp_all [kj])),hs0.base⟩
                     ·refine kr 18 (.bool false) (Eq.trans rfl (congrArg Value.bool (decide_eq_false hc21))) ?_
                      refine qi (qc ?_)
                      refine qa rfl (qt (k:=.i64) (k':=.i64) (a:=op) (b:=9) rfl rfl rfl k8 ?_)
                      refine qa rfl (qf (v:=.bool (decide (op = 9))) rfl rfl ?_)
                      refine ql (qb ?_)
                      refine zd rfl (fun hc22=>?_) (fun hc22=>?_)
                      ·refine kr 29 (.bool true) (Eq.trans rfl (congrArg Value.bool (decide_eq_true hc22))) ?_
                       refine qi (qc ?_)
                       refine qa rfl (qf (v:=.string (⟨#[45,119,118]⟩)) rfl rfl ?_)
                       refine ql (qb (zo (zk (q9 ?_))))
                       refine ⟨.string (⟨#[45,119,118]⟩),res1 rfl,?_⟩
                       exact ⟨congrArg Value.string (z6 (by simp_all [kj])),hs0.base⟩
                      ·refine kr 29 (.bool false) (Eq.trans rfl (congrArg Value.bool (decide_eq_false hc22))) ?_
                       refine qi (qi (qc ?_))
                       refine qa rfl (qt (k:=.i64) (k':=.i64) (a:=op) (b:=11) rfl rfl rfl k8 ?_)
                       refine qa rfl (qf (v:=.bool (decide (op = 11))) rfl rfl ?_)
                       refine ql (qb ?_)
                       refine zd rfl (fun hc23=>?_) (fun hc23=>?_)
                       ·refine kr 31 (.bool true) (Eq.trans rfl (congrArg Value.bool (decide_eq_true hc23))) ?_
                        refine zn (qb ?_)
                        refine jj rfl ?_
                        refine qi (qc ?_)
                        refine qa rfl (qf (v:=.string (⟨#[114,114,105]⟩)) rfl rfl ?_)
                        refine ql (qb (zo (zk (q9 ?_))))
                        refine ⟨.string (⟨#[114,114,105]⟩),res1 rfl,?_⟩
                        exact ⟨congrArg Value.string (z6 (by simp_all [kj])),hs0.base⟩
                       ·refine kr 31 (.bool false) (Eq.trans rfl (congrArg Value.bool (decide_eq_false hc23))) ?_
                        refine qi (qc ?_)
                        refine qa rfl (qt (k:=.i64) (k':=.i64) (a:=op) (b:=12) rfl rfl rfl k8 ?_)
                        refine qa rfl (qf (v:=.bool (decide (op = 12))) rfl rfl ?_)
                        refine ql (qb ?_)
                        refine zd rfl (fun hc24=>?_) (fun hc24=>?_)
                        ·refine kr 31 (.bool true) (Eq.trans rfl (congrArg Value.bool (decide_eq_true hc24))) ?_
                         refine zn (qb ?_)
                         refine jj rfl ?_
                         refine qi (qc ?_)
                         refine qa rfl (qf (v:=.string (⟨#[114,114,105]⟩)) rfl rfl ?_)
                         refine ql (qb (zo (zk (q9 ?_))))
                         refine ⟨.string (⟨#[114,114,105]⟩),res1 rfl,?_⟩
                         exact ⟨congrArg Value.string (z6 (by simp_all [kj])),hs0.base⟩
                        ·refine kr 31 (.bool false) (Eq.trans rfl (congrArg Value.bool (decide_eq_false hc24))) ?_
                         refine qi (qc ?_)
                         refine qa rfl (qt (k:=.i64) (k':=.i64) (a:=op) (b:=13) rfl rfl rfl k8 ?_)
                         refine qa rfl (qf (v:=.bool (decide (op = 13))) rfl rfl ?_)
                         refine ql (qb ?_)
                         refine zd rfl (fun hc25=>?_) (fun hc25=>?_)
                         ·refine kr 31 (.bool true) (Eq.trans rfl (congrArg Value.bool (decide_eq_true hc25))) ?_
                          refine zn (qb ?_)
                          refine jj rfl ?_
                          refine qi (qc ?_)
                          refine qa rfl (qf (v:=.string (⟨#[114,114,105]⟩)) rfl rfl ?_)
                          refine ql (qb (zo (zk (q9 ?_))))
                          refine ⟨.string (⟨#[114,114,105]⟩),res1 rfl,?_⟩
                          exact ⟨congrArg Value.string (z6 (by simp_all [kj])),hs0.base⟩
                         ·refine kr 31 (.bool false) (Eq.trans rfl (congrArg Value.bool (decide_eq_false hc25))) ?_
                          refine qi (qc ?_)
                          refine qa rfl (qt (k:=.i64) (k':=.i64) (a:=op) (b:=14) rfl rfl rfl k8 ?_)
                          refine qa rfl (qf (v:=.bool (decide (op = 14))) rfl rfl ?_)
                          refine ql (qb ?_)
                          refine zd rfl (fun hc26=>?_) (fun hc26=>?_)
                          ·refine kr 31 (.bool true) (Eq.trans rfl (congrArg Value.bool (decide_eq_true hc26))) ?_
                           refine zn (qb ?_)
                           refine jj rfl ?_
                           refine qi (qc ?_)
                           refine qa rfl (qf (v:=.string (⟨#[114,114,105]⟩)) rfl rfl ?_)
                           refine ql (qb (zo (zk (q9 ?_))))
                           refine ⟨.string (⟨#[114,114,105]⟩),res1 rfl,?_⟩
                           exact ⟨congrArg Value.string (z6 (by simp_all [kj])),hs0.base⟩
                          ·refine kr 31 (.bool false) (Eq.trans rfl (congrArg Value.bool (decide_eq_false hc26))) ?_
                           refine qi (qc ?_)
                           refine qa rfl (qt (k:=.i64) (k':=.i64) (a:=op) (b:=15) rfl rfl rfl k8 ?_)
                           refine qa rfl (qf (v:=.bool (decide (op = 15))) rfl rfl ?_)
                           refine ql (qb ?_)
                           refine zd rfl (fun hc27=>?_) (fun hc27=>?_)
                           ·refine kr 31 (.bool true) (Eq.trans rfl (congrArg Value.bool (decide_eq_true hc27))) ?_
                            refine zn (qb ?_)
                            refine jj rfl ?_
                            refine qi (qc ?_)
                            refine qa rfl (qf (v:=.string (⟨#[114,114,105]⟩)) rfl rfl ?_)
                            refine ql (qb (zo (zk (q9 ?_))))
                            refine ⟨.string (⟨#[114,114,105]⟩),res1 rfl,?_⟩
                            exact ⟨congrArg Value.string (z6 (by simp_all [kj])),hs0.base⟩
                           ·refine kr 31 (.bool false) (Eq.trans rfl (congrArg Value.bool (decide_eq_false hc27))) ?_
                            refine qi (qc ?_)
                            refine qa rfl (qt (k:=.i64) (k':=.i64) (a:=op) (b:=16) rfl rfl rfl k8 ?_)
                            refine qa rfl (qf (v:=.bool (decide (op = 16))) rfl rfl ?_)
                            refine ql (qb ?_)
                            refine zd rfl (fun hc28=>?_) (fun hc28=>?_)
                            ·refine kr 31 (.bool true) (Eq.trans rfl (congrArg Value.bool (decide_eq_true hc28))) ?_
                             refine zn (qb ?_)
                             refine jj rfl ?_
                             refine qi (qc ?_)
                             refine qa rfl (qf (v:=.string (⟨#[114,114,105]⟩)) rfl rfl ?_)
                             refine ql (qb (zo (zk (q9 ?_))))
                             refine ⟨.string (⟨#[114,114,105]⟩),res1 rfl,?_⟩
                             exact ⟨congrArg Value.string (z6 (by simp_all [kj])),hs0.base⟩
                            ·refine kr 31 (.bool false) (Eq.trans rfl (congrArg Value.bool (decide_eq_false hc28))) ?_
                             refine qc ?_
                             refine qa rfl (qt (k:=.i64) (k':=.i64) (a:=op) (b:=19) rfl rfl rfl k8 ?_)
                             refine qa rfl (qf (v:=.bool (decide (op = 19))) rfl rfl ?_)
                             refine ql (qb ?_)
                             refine zd rfl (fun hc29=>?_) (fun hc29=>?_)
                             ·refine kr 31 (.bool true) (Eq.trans rfl (congrArg Value.bool (decide_eq_true hc29))) ?_
                              refine qi (qc ?_)
                              refine qa rfl (qf (v:=.string (⟨#[114,114,105]⟩)) rfl rfl ?_)
                              refine ql (qb (zo (zk (q9 ?_))))
                              refine ⟨.string (⟨#[114,114,105]⟩),res1 rfl,?_⟩
                              exact ⟨congrArg Value.string (z6 (by simp_all [kj])),hs0.base⟩
                             ·refine kr 31 (.bool false) (Eq.trans rfl (congrArg Value.bool (decide_eq_false hc29))) ?_
                              refine qi (qc ?_)
                              refine qa rfl (qt (k:=.i64) (k':=.i64) (a:=op) (b:=29) rfl rfl rfl k8 ?_)
                              refine qa rfl (qf (v:=.bool (decide (op = 29))) rfl rfl ?_)
                              refine ql (qb ?_)
                              refine zd rfl (fun hc30=>?_) (fun hc30=>?_)
                              ·refine kr 39 (.bool true) (Eq.trans rfl (congrArg Value.bool (decide_eq_true hc30))) ?_
                               refine qi (qc ?_)
                               refine qa rfl (qf (v:=.string (⟨#[105,45,45]⟩)) rfl rfl ?_)
                               refine ql (qb (zo (zk (q9 ?_))))
                               refine ⟨.string (⟨#[105,45,45]⟩),res1 rfl,?_⟩
                               exact ⟨congrArg Value.string (z6 (by simp_all [kj])),hs0.base⟩
                              ·refine kr 39 (.bool false) (Eq.trans rfl (congrArg Value.bool (decide_eq_false hc30))) ?_
                               refine zn (z7 (qb (qi (qc ?_))))
                               refine qa rfl (qf (v:=.string (⟨#[]⟩)) rfl rfl ?_)
                               refine ql (qb (zo ?_))
                               refine ⟨.string (⟨#[]⟩),res1 rfl,?_⟩
                               exact ⟨congrArg Value.string (z6 (by unfold kj; rw [if_pos (by omega)])),hs0.base⟩

/-- seizin/seizinref15.fine -/
theorem rfine_c (c : UInt8) (n : Int) (w : World)  :
  C Try.prog 85 [.int .u8 (c.toNat : Int),vI n] w fun v w'=>v = .bool (z4 c.toNat n) ∧ Grow w w':=by
 have hs0 : St w (fun _=>False) w [] []:=St.start w _ (by simp)
 refine z8 [.tmp 4] 32 Try.func85 rfl Try.ntmps85 rfl rfl ?_
 refine qi (qc ?_)
 refine qa rfl (qf (v:=.bool false) rfl rfl ?_)
 refine ql (qb (qi (qi (qc ?_))))
 refine qa rfl (qj (v:=.int .u8 (c.toNat : Int)) rfl rfl ?_)
 refine ql (qb (zy (qi (qc ?_))))
 refine qa rfl (qt (k:=.u8) (k':=.u8) (a:=(c.toNat : Int)) (b:=114) rfl rfl rfl k8 ?_)
 refine qa rfl (qf (v:=.bool (decide ((c.toNat : Int) = 114))) rfl rfl ?_)
 refine ql (qb ?_)
 refine zd rfl (fun hc1=>?_) (fun hc1=>?_)
 ·refine qi (qc ?_)
  refine qa rfl (qj (v:=vI n) rfl rfl ?_)
  refine qa rfl (qt (k:=.i64) (k':=.i64) (a:=n) (b:=0) rfl rfl rfl b_geq ?_)
  refine qa rfl (qj (v:=.bool (decide (0 ≤ n))) rfl rfl ?_)
  refine kn (v:=vI n) rfl rfl rfl rfl (fun hg2=>qj (v:=vI n) rfl rfl ⟨rfl,rfl⟩) ?_
  refine kn (v:=.bool (decide (n < 8))) rfl rfl rfl rfl (fun hg3=>qt (k:=.i64) (k':=.i64) (a:=n) (b:=8) (show ev _ _ = vI n from if_pos hg3) rfl rfl jg ⟨rfl,rfl⟩) ?_
  refine qa rfl (ka rfl (j1 _ _) rfl ?_)
  refine qa rfl (qf (v:=.bool (decide (0 ≤ n) && decide (n < 8))) rfl rfl ?_)
  refine ql (qb (zo (zk (q9 ?_))))
  refine ⟨.bool (decide (0 ≤ n) && decide (n < 8)),res1 rfl,?_⟩
  exact ⟨congrArg Value.bool (by unfold z4; rw [if_pos (by omega)]),hs0.base⟩
 ·refine qi (qc ?_)
  refine qa rfl (qt (k:=.u8) (k':=.u8) (a:=(c.toNat : Int)) (b:=105) rfl rfl rfl k8 ?_)
  refine qa rfl (qf (v:=.bool (decide ((c.toNat : Int) = 105))) rfl rfl ?_)
  refine ql (qb ?_)
  refine zd rfl (fun hc4=>?_) (fun hc4=>?_)
  ·refine qi (qc ?_)
   refine qa rfl (qj (v:=vI n) rfl rfl ?_)
   refine qa rfl (qt (k:=.i64) (k':=.i64) (a:=n) (b:=0) rfl rfl rfl b_geq ?_)
   refine qa rfl (qj (v:=.bool (decide (0 ≤ n))) rfl rfl ?_)
   refine kn (v:=vI n) rfl rfl rfl rfl (fun hg5=>qj (v:=vI n) rfl rfl ⟨rfl,rfl⟩) ?_
   refine kn (v:=.bool (decide (n ≤ 255))) rfl rfl rfl rfl (fun hg6=>qt (k:=.i64) (k':=.i64) (a:=n) (b:=255) (show ev _ _ = vI n from if_pos hg6) rfl rfl b_leq ⟨rfl,rfl⟩) ?_
   refine qa rfl (ka rfl (j1 _ _) rfl ?_)
   refine qa rfl (qf (v:=.bool (decide (0 ≤ n) && decide (n ≤ 255))) rfl rfl ?_)
   refine ql (qb (zo (zk (q9 ?_))))
   refine ⟨.bool (decide (0 ≤ n) && decide (n ≤ 255)),res1 rfl,?_⟩
   exact ⟨congrArg Value.bool (by unfold z4; rw [if_neg (by omega),if_pos (by omega)]),hs0.base⟩
  ·refine qi (qc ?_)
   refine qa rfl (qt (k:=.u8) (k':=.u8) (a:=(c.toNat : Int)) (b:=119) rfl rfl rfl k8 ?_)
   refine qa rfl (qf (v:=.bool (decide ((c.toNat : Int) = 119))) rfl rfl ?_)
   refine ql (qb ?_)
   refine zd rfl (fun hc7=>?_) (fun hc7=>?_)
   ·refine qi (qc ?_)
    refine qa rfl (qj (v:=vI n) rfl rfl ?_)
    refine qa rfl (qt (k:=.i64) (k':=.i64) (a:=n) (b:=(-32768)) rfl rfl rfl b_geq ?_)
    refine qa rfl (qj (v:=.bool (decide ((-32768) ≤ n))) rfl rfl ?_)
    refine kn (v:=vI n) rfl rfl rfl rfl (fun hg8=>qj (v:=vI n) rfl rfl ⟨rfl,rfl⟩) ?_
    refine kn (v:=.bool (decide (n ≤ 32767))) rfl rfl rfl rfl (fun hg9=>qt (k:=.i64) (k':=.i64) (a:=n) (b:=32767) (show ev _ _ = vI n from if_pos hg9) rfl rfl b_leq ⟨rfl,rfl⟩) ?_
    refine qa rfl (ka rfl (j1 _ _) rfl ?_)
    refine qa rfl (qf (v:=.bool ((decide ((-32768) ≤ n)) && decide (n ≤ 32767))) rfl rfl ?_)
    refine ql (qb (zo (zk (q9 ?_))))
    refine ⟨.bool ((decide ((-32768) ≤ n)) && decide (n ≤ 32767)),res1 rfl,?_⟩
    exact ⟨congrArg Value.bool (by unfold z4; rw [if_neg (by omega),if_neg (by omega),if_pos (by omega)]),hs0.base⟩
   ·refine zn (z7 (qb (qi (qc ?_))))
    refine qa rfl (qj (v:=vI n) rfl rfl ?_)
    refine qa rfl (qt (k:=.i64) (k':=.i64) (a:=n) (b:=0) rfl rfl rfl k8 ?_)
    refine qa rfl (qf (v:=.bool (decide (n = 0))) rfl rfl ?_)
    refine ql (qb (zo ?_))
    refine ⟨.bool (decide (n = 0)),res1 rfl,?_⟩
    exact ⟨congrArg Value.bool (by unfold z4; rw [if_neg (by omega),if_neg (by omega),if_neg (by omega)]),hs0.base⟩

/-- seizin/seizinref15.Right -/
theorem rright_c (x : InsV) (w : World)  :
  C Try.prog 78 [.agg #[vI x.op,vI x.a,vI x.b,vI x.c]] w fun v w'=>v = .bool (insS x) ∧ Grow w w':=by
 have hs0 : St w (fun _=>False) w [] []:=St.start w _ (by simp)
 refine z8 [.tmp 2] 30 Try.func78 rfl Try.ntmps78 rfl rfl ?_
 refine qi (qc ?_)
 refine qa rfl (jw (v:=.agg #[vI x.op,vI x.a,vI x.b,vI x.c]) (cs:=[vI x.op,vI x.a,vI x.b,vI x.c]) hs0 rfl rfl rfl ?_)
 intro b1 w2 hb4 hs3
 refine qa rfl (qf (v:=.bool false) rfl rfl ?_)
 refine ql (qb (qi (qc ?_)))
 refine qa rfl (qg rfl fd79_0 rfl (o':=0) rfl rfl ?_)
 refine qa rfl (qq (v:=vI x.op) rfl ag3 (qh (hs3.get 0 rfl) rfl) rfl ?_)
 refine qa rfl (zi (args:=[vI x.op]) rfl rfl rfl en77 (rkinds_c x.op _) ?_)
 rintro _ w5 ⟨rfl,hk7⟩
 have hs6:=hs3.keep hk7
 refine qa rfl (qf (v:=.string (q3 x.op)) rfl rfl ?_)
 refine ql (qb (qi ?_))
 refine jc js (show St _ _ _ [blk b1 [vI x.op,vI x.a,vI x.b,vI x.c] 79] _ from hs6) (fun i_=>match i_ with|_=>none) (fun i_=>match i_ with|_=>[]) (fun i_=>match i_ with|6=>[24]|13=>[24]|20=>[24]|_=>[]) (fun i_=>match i_ with|1=>[0]|2=>[1]|3=>[2]|4=>[2,3]|5=>[2]|6=>[2,5]|7=>[2,4,6]|8=>[2,7]|9=>[8]|10=>[9]|11=>[9,10]|12=>[9]|13=>[9,12]|14=>[9,11,13]|15=>[9,14]|16=>[15]|17=>[16]|18=>[16,17]|19=>[16]|20=>[16,19]|21=>[16,18,20]|22=>[16,21]|23=>[22]|_=>[]) [24,0,1,2,3,4,5,6,7,8,9,10,11,12,13,14,15,16,17,18,19,20,21,22,23,25,26,27,28,29,30,31,32,33,34,35,36,37,38,39,40,41,42,43,44,45,46,47,48] [23] (fun i_ v_=>match i_ with|0=>v_ = .string (q3 x.op)|1=>v_ = .bool (!decide ((q3 x.op).toList = (⟨#[]⟩ : ByteArray).toList))|2=>v_ = .bool (!decide ((q3 x.op).toList = (⟨#[]⟩ : ByteArray).toList))|3=>v_ = if (!decide ((q3 x.op).toList = (⟨#[]⟩ : ByteArray).toList)) = true then .string (q3 x.op) else undef|4=>v_ = if (!decide ((q3 x.op).toList = (⟨#[]⟩ : ByteArray).toList)) = true then .int .u8 ((zj x.op 0).toNat : Int) else undef|5=>v_ = if (!decide ((q3 x.op).toList = (⟨#[]⟩ : ByteArray).toList)) = true then .pointer (some ⟨b1,1,none⟩) else undef|6=>v_ = if (!decide ((q3 x.op).toList = (⟨#[]⟩ : ByteArray).toList)) = true then vI x.a else undef|7=>v_ = if (!decide ((q3 x.op).toList = (⟨#[]⟩ : ByteArray).toList)) = true then .bool (z4 ((zj x.op 0)).toNat x.a) else undef|8=>v_ = .bool ((!decide ((q3 x.op).toList = (⟨#[]⟩ : ByteArray).toList)) && (z4 ((zj x.op 0)).toNat x.a))|9=>v_ = .bool ((!decide ((q3 x.op).toList = (⟨#[]⟩ : ByteArray).toList)) && (z4 ((zj x.op 0)).toNat x.a))|10=>v_ = if ((!decide ((q3 x.op).toList = (⟨#[]⟩ : ByteArray).toList)) && (z4 ((zj x.op 0)).toNat x.a)) = true then .string (q3 x.op) else undef|11=>v_ = if ((!decide ((q3 x.op).toList = (⟨#[]⟩ : ByteArray).toList)) && (z4 ((zj x.op 0)).toNat x.a)) = true then .int .u8 ((zj x.op 1).toNat : Int) else undef|12=>v_ = if ((!decide ((q3 x.op).toList = (⟨#[]⟩ : ByteArray).toList)) && (z4 ((zj x.op 0)).toNat x.a)) = true then .pointer (some ⟨b1,2,none⟩) else undef|13=>v_ = if ((!decide ((q3 x.op).toList = (⟨#[]⟩ : ByteArray).toList)) && (z4 ((zj x.op 0)).toNat x.a)) = true then vI x.b else undef|14=>v_ = if ((!decide ((q3 x.op).toList = (⟨#[]⟩ : ByteArray).toList)) && (z4 ((zj x.op 0)).toNat x.a)) = true then .bool (z4 ((zj x.op 1)).toNat x.b) else undef|15=>v_ = .bool (((!decide ((q3 x.op).toList = (⟨#[]⟩ : ByteArray).toList)) && (z4 ((zj x.op 0)).toNat x.a)) && (z4 ((zj x.op 1)).toNat x.b))|16=>v_ = .bool (((!decide ((q3 x.op).toList = (⟨#[]⟩ : ByteArray).toList)) && (z4 ((zj x.op 0)).toNat x.a)) && (z4 ((zj x.op 1)).toNat x.b))|17=>v_ = if (((!decide ((q3 x.op).toList = (⟨#[]⟩ : ByteArray).toList)) && (z4 ((zj x.op 0)).toNat x.a)) && (z4 ((zj x.op 1)).toNat x.b)) = true then .string (q3 x.op) else undef|18=>v_ = if (((!decide ((q3 x.op).toList = (⟨#[]⟩ : ByteArray).toList)) && (z4 ((zj x.op 0)).toNat x.a)) && (z4 ((zj x.op 1)).toNat x.b)) = true then .int .u8 ((zj x.op 2).toNat : Int) else undef|19=>v_ = if (((!decide ((q3 x.op).toList = (⟨#[]⟩ : ByteArray).toList)) && (z4 ((zj x.op 0)).toNat x.a)) && (z4 ((zj x.op 1)).toNat x.b)) = true then .pointer (some ⟨b1,3,none⟩) else undef|20=>v_ = if (((!decide ((q3 x.op).toList = (⟨#[]⟩ : ByteArray).toList)) && (z4 ((zj x.op 0)).toNat x.a)) && (z4 ((zj x.op 1)).toNat x.b)) = true then vI x.c else undef|21=>v_ = if (((!decide ((q3 x.op).toList = (⟨#[]⟩ : ByteArray).toList)) && (z4 ((zj x.op 0)).toNat x.a)) && (z4 ((zj x.op 1)).toNat x.b)) = true then .bool (z4 ((zj x.op 2)).toNat x.c) else undef|22=>v_ = .bool ((((!decide ((q3 x.op).toList = (⟨#[]⟩ : ByteArray).toList)) && (z4 ((zj x.op 0)).toNat x.a)) && (z4 ((zj x.op 1)).toNat x.b)) && (z4 ((zj x.op 2)).toNat x.c))|23=>v_ = .bool ((((!decide ((q3 x.op).toList = (⟨#[]⟩ : ByteArray).toList)) && (z4 ((zj x.op 0)).toNat x.a)) && (z4 ((zj x.op 1)).toNat x.b)) && (z4 ((zj x.op 2)).toNat x.c))|_=>True) (by kernel_rfl) (by kernel_rfl) ⟨?_,?_,?_,?_,?_,?_,?_,?_,?_,?_,?_,?_,?_,?_,?_,?_,?_,?_,?_,?_,?_,?_,?_,?_,trivial⟩ ?_
 ·intro f0_ w0_ X0_ qp qo qu qk
  have hb3 : f0_ 3 = .string (q3 x.op):=(qp 3 rfl)
  refine qe rfl (qj (v:=.string (q3 x.op)) hb3 rfl ?_)
  exact ⟨.string (q3 x.op),rfl,rfl,qk⟩
 ·intro f1_ w1_ X1_ qp qo qu qk
  obtain ⟨hu0,-⟩:=qo
  have hu0 : f1_ 7 = .string (q3 x.op):=hu0
  refine qe rfl (O_binv (a:=.string (q3 x.op)) (b:=.string (⟨#[]⟩)) hu0 rfl rfl eg_string b_neq_string ?_)
  exact ⟨.bool (!decide ((q3 x.op).toList = (⟨#[]⟩ : ByteArray).toList)),rfl,rfl,qk⟩
 ·intro f2_ w2_ X2_ qp qo qu qk
  obtain ⟨hu1,-⟩:=qo
  have hu1 : f2_ 8 = .bool (!decide ((q3 x.op).toList = (⟨#[]⟩ : ByteArray).toList)):=hu1
  refine qe rfl (qj (v:=.bool (!decide ((q3 x.op).toList = (⟨#[]⟩ : ByteArray).toList))) hu1 rfl ?_)
  exact ⟨.bool (!decide ((q3 x.op).toList = (⟨#[]⟩ : ByteArray).toList)),rfl,rfl,qk⟩
 ·intro f3_ w3_ X3_ qp qo qu qk
  obtain ⟨hu2,-⟩:=qo
  have hu2 : f3_ 9 = .bool (!decide ((q3 x.op).toList = (⟨#[]⟩ : ByteArray).toList)):=hu2
  have hb3 : f3_ 3 = .string (q3 x.op):=(qp 3 rfl)
  refine ze rfl (c:=(!decide ((q3 x.op).toList = (⟨#[]⟩ : ByteArray).toList))) hu2 (fun hg8=>?_) (fun hg8=>⟨undef,rfl,(if_neg (by rw [hg8]; decide)).symm,qk⟩)
  refine qj (v:=.string (q3 x.op)) hb3 rfl ?_
  exact ⟨.string (q3 x.op),rfl,(if_pos hg8).symm,qk⟩
 ·intro f4_ w4_ X4_ qp qo qu qk
  obtain ⟨hu2,hu3,-⟩:=qo
  have hu2 : f4_ 9 = .bool (!decide ((q3 x.op).toList = (⟨#[]⟩ : ByteArray).toList)):=hu2
  have hu3 : f4_ 10 = if (!decide ((q3 x.op).toList = (⟨#[]⟩ : ByteArray).toList)) = true then .string (q3 x.op) else undef:=hu3
  refine ze rfl (c:=(!decide ((q3 x.op).toList = (⟨#[]⟩ : ByteArray).toList))) hu2 (fun hg9=>?_) (fun hg9=>⟨undef,rfl,(if_neg (by rw [hg9]; decide)).symm,qk⟩)
  refine O_index_str (c:=zj x.op 0) (k:=.i64) (iv:=0) (Eq.trans hu3 (if_pos hg9)) rfl un9 (by decide) (kindsU_get (i:=0) (by have:=kinds_ne hg9; omega)) rfl ?_
  exact ⟨.int .u8 ((zj x.op 0).toNat : Int),rfl,(if_pos hg9).symm,qk⟩
 ·intro f5_ w5_ X5_ qp qo qu qk
  obtain ⟨hu2,-⟩:=qo
  have hu2 : f5_ 9 = .bool (!decide ((q3 x.op).toList = (⟨#[]⟩ : ByteArray).toList)):=hu2
  have hb1 : f5_ 1 = .pointer (some ⟨b1,0,none⟩):=(qp 1 rfl)
  refine ze rfl (c:=(!decide ((q3 x.op).toList = (⟨#[]⟩ : ByteArray).toList))) hu2 (fun hg10=>?_) (fun hg10=>⟨undef,rfl,(if_neg (by rw [hg10]; decide)).symm,qk⟩)
  refine qg hb1 fd79_1 rfl (o':=1) rfl rfl ?_
  exact ⟨.pointer (some ⟨b1,1,none⟩),rfl,(if_pos hg10).symm,qk⟩
 ·intro f6_ w6_ X6_ qp qo qu qk
  obtain ⟨hu2,hu5,-⟩:=qo
  have hu2 : f6_ 9 = .bool (!decide ((q3 x.op).toList = (⟨#[]⟩ : ByteArray).toList)):=hu2
  have hu5 : f6_ 12 = if (!decide ((q3 x.op).toList = (⟨#[]⟩ : ByteArray).toList)) = true then .pointer (some ⟨b1,1,none⟩) else undef:=hu5
  obtain ⟨hr24,-⟩:=qu
  have hr24 : Item.φ (blk b1 [vI x.op,vI x.a,vI x.b,vI x.c] 79) w6_:=hr24
  refine ze rfl (c:=(!decide ((q3 x.op).toList = (⟨#[]⟩ : ByteArray).toList))) hu2 (fun hg11=>?_) (fun hg11=>⟨undef,rfl,(if_neg (by rw [hg11]; decide)).symm,qk⟩)
  refine qq (v:=vI x.a) (Eq.trans hu5 (if_pos hg11)) ag3 (qh (hr24) rfl) rfl ?_
  exact ⟨vI x.a,rfl,(if_pos hg11).symm,qk⟩
 ·intro f7_ w7_ X7_ qp qo qu qk
  obtain ⟨hu2,hu4,hu6,-⟩:=qo
  have hu2 : f7_ 9 = .bool (!decide ((q3 x.op).toList = (⟨#[]⟩ : ByteArray).toList)):=hu2
  have hu4 : f7_ 11 = if (!decide ((q3 x.op).toList = (⟨#[]⟩ : ByteArray).toList)) = true then .int .u8 ((zj x.op 0).toNat : Int) else undef:=hu4
  have hu6 : f7_ 13 = if (!decide ((q3 x.op).toList = (⟨#[]⟩ : ByteArray).toList)) = true then vI x.a else undef:=hu6
  refine ze rfl (c:=(!decide ((q3 x.op).toList = (⟨#[]⟩ : ByteArray).toList))) hu2 (fun hg12=>?_) (fun hg12=>⟨undef,rfl,(if_neg (by rw [hg12]; decide)).symm,qk⟩)
  refine zi (args:=[.int .u8 ((zj x.op 0).toNat : Int),vI x.a]) rfl (by simp only [List.map_cons,List.map_nil,List.nil_append,List.cons_append,List.append_nil,ev,Value.cells,(Eq.trans hu4 (if_pos hg12)),(Eq.trans hu6 (if_pos hg12))]) rfl en85 (rfine_c (zj x.op 0) x.a _) ?_
  rintro _ w13 ⟨rfl,hk15⟩
  have hs14:=qk.keep hk15
  exact ⟨.bool (z4 ((zj x.op 0)).toNat x.a),rfl,(if_pos hg12).symm,hs14⟩
 ·intro f8_ w8_ X8_ qp qo qu qk
  obtain ⟨hu2,hu7,-⟩:=qo
  have hu2 : f8_ 9 = .bool (!decide ((q3 x.op).toList = (⟨#[]⟩ : ByteArray).toList)):=hu2
  have hu7 : f8_ 14 = if (!decide ((q3 x.op).toList = (⟨#[]⟩ : ByteArray).toList)) = true then .bool (z4 ((zj x.op 0)).toNat x.a) else undef:=hu7
  refine qe rfl (ka hu2 (by simp only [ev,hu7]; exact j1 _ _) rfl ?_)
  exact ⟨.bool ((!decide ((q3 x.op).toList = (⟨#[]⟩ : ByteArray).toList)) && (z4 ((zj x.op 0)).toNat x.a)),rfl,rfl,qk⟩
 ·intro f9_ w9_ X9_ qp qo qu qk
  obtain ⟨hu8,-⟩:=qo
  have hu8 : f9_ 15 = .bool ((!decide ((q3 x.op).toList = (⟨#[]⟩ : ByteArray).toList)) && (z4 ((zj x.op 0)).toNat x.a)):=hu8
  refine qe rfl (qj (v:=.bool ((!decide ((q3 x.op).toList = (⟨#[]⟩ : ByteArray).toList)) && (z4 ((zj x.op 0)).toNat x.a))) hu8 rfl ?_)
  exact ⟨.bool ((!decide ((q3 x.op).toList = (⟨#[]⟩ : ByteArray).toList)) && (z4 ((zj x.op 0)).toNat x.a)),rfl,rfl,qk⟩
 ·intro f10_ w10_ X10_ qp qo qu qk
  obtain ⟨hu9,-⟩:=qo
  have hu9 : f10_ 16 = .bool ((!decide ((q3 x.op).toList = (⟨#[]⟩ : ByteArray).toList)) && (z4 ((zj x.op 0)).toNat x.a)):=hu9
  have hb3 : f10_ 3 = .string (q3 x.op):=(qp 3 rfl)
  refine ze rfl (c:=((!decide ((q3 x.op).toList = (⟨#[]⟩ : ByteArray).toList)) && (z4 ((zj x.op 0)).toNat x.a))) hu9 (fun hg16=>?_) (fun hg16=>⟨undef,rfl,(if_neg (by rw [hg16]; decide)).symm,qk⟩)
  refine qj (v:=.string (q3 x.op)) hb3 rfl ?_
  exact ⟨.string (q3 x.op),rfl,(if_pos hg16).symm,qk⟩
 ·intro f11_ w11_ X11_ qp qo qu qk
  obtain ⟨hu9,hu10,-⟩:=qo
  have hu9 : f11_ 16 = .bool ((!decide ((q3 x.op).toList = (⟨#[]⟩ : ByteArray).toList)) && (z4 ((zj x.op 0)).toNat x.a)):=hu9
  have hu10 : f11_ 17 = if ((!decide ((q3 x.op).toList = (⟨#[]⟩ : ByteArray).toList)) && (z4 ((zj x.op 0)).toNat x.a)) = true then .string (q3 x.op) else undef:=hu10
  refine ze rfl (c:=((!decide ((q3 x.op).toList = (⟨#[]⟩ : ByteArray).toList)) && (z4 ((zj x.op 0)).toNat x.a))) hu9 (fun hg17=>?_) (fun hg17=>⟨undef,rfl,(if_neg (by rw [hg17]; decide)).symm,qk⟩)
  refine O_index_str (c:=zj x.op 1) (k:=.i64) (iv:=1) (Eq.trans hu10 (if_pos hg17)) rfl un9 (by decide) (kindsU_get (i:=1) (by have:=kinds_ne (and_l hg17); omega)) rfl ?_
  exact ⟨.int .u8 ((zj x.op 1).toNat : Int),rfl,(if_pos hg17).symm,qk⟩
 ·intro f12_ w12_ X12_ qp qo qu qk
  obtain ⟨hu9,-⟩:=qo
  have hu9 : f12_ 16 = .bool ((!decide ((q3 x.op).toList = (⟨#[]⟩ : ByteArray).toList)) && (z4 ((zj x.op 0)).toNat x.a)):=hu9
  have hb1 : f12_ 1 = .pointer (some ⟨b1,0,none⟩):=(qp 1 rfl)
  refine ze rfl (c:=((!decide ((q3 x.op).toList = (⟨#[]⟩ : ByteArray).toList)) && (z4 ((zj x.op 0)).toNat x.a))) hu9 (fun hg18=>?_) (fun hg18=>⟨undef,rfl,(if_neg (by rw [hg18]; decide)).symm,qk⟩)
  refine qg hb1 fd79_2 rfl (o':=2) rfl rfl ?_
  exact ⟨.pointer (some ⟨b1,2,none⟩),rfl,(if_pos hg18).symm,qk⟩
 ·intro f13_ w13_ X13_ qp qo qu qk
  obtain ⟨hu9,hu12,-⟩:=qo
  have hu9 : f13_ 16 = .bool ((!decide ((q3 x.op).toList = (⟨#[]⟩ : ByteArray).toList)) && (z4 ((zj x.op 0)).toNat x.a)):=hu9
  have hu12 : f13_ 19 = if ((!decide ((q3 x.op).toList = (⟨#[]⟩ : ByteArray).toList)) && (z4 ((zj x.op 0)).toNat x.a)) = true then .pointer (some ⟨b1,2,none⟩) else undef:=hu12
  obtain ⟨hr24,-⟩:=qu
  have hr24 : Item.φ (blk b1 [vI x.op,vI x.a,vI x.b,vI x.c] 79) w13_:=hr24
  refine ze rfl (c:=((!decide ((q3 x.op).toList = (⟨#[]⟩ : ByteArray).toList)) && (z4 ((zj x.op 0)).toNat x.a))) hu9 (fun hg19=>?_) (fun hg19=>⟨undef,rfl,(if_neg (by rw [hg19]; decide)).symm,qk⟩)
  refine qq (v:=vI x.b) (Eq.trans hu12 (if_pos hg19)) ag3 (qh (hr24) rfl) rfl ?_
  exact ⟨vI x.b,rfl,(if_pos hg19).symm,qk⟩
 ·intro f14_ w14_ X14_ qp qo qu qk
  obtain ⟨hu9,hu11,hu13,-⟩:=qo
  have hu9 : f14_ 16 = .bool ((!decide ((q3 x.op).toList = (⟨#[]⟩ : ByteArray).toList)) && (z4 ((zj x.op 0)).toNat x.a)):=hu9
  have hu11 : f14_ 18 = if ((!decide ((q3 x.op).toList = (⟨#[]⟩ : ByteArray).toList)) && (z4 ((zj x.op 0)).toNat x.a)) = true then .int .u8 ((zj x.op 1).toNat : Int) else undef:=hu11
  have hu13 : f14_ 20 = if ((!decide ((q3 x.op).toList = (⟨#[]⟩ : ByteArray).toList)) && (z4 ((zj x.op 0)).toNat x.a)) = true then vI x.b else undef:=hu13
  refine ze rfl (c:=((!decide ((q3 x.op).toList = (⟨#[]⟩ : ByteArray).toList)) && (z4 ((zj x.op 0)).toNat x.a))) hu9 (fun hg20=>?_) (fun hg20=>⟨undef,rfl,(if_neg (by rw [hg20]; decide)).symm,qk⟩)
  refine zi (args:=[.int .u8 ((zj x.op 1).toNat : Int),vI x.b]) rfl (by simp only [List.map_cons,List.map_nil,List.nil_append,List.cons_append,List.append_nil,ev,Value.cells,(Eq.trans hu11 (if_pos hg20)),(Eq.trans hu13 (if_pos hg20))]) rfl en85 (rfine_c (zj x.op 1) x.b _) ?_
  rintro _ w21 ⟨rfl,hk23⟩
  have hs22:=qk.keep hk23
  exact ⟨.bool (z4 ((zj x.op 1)).toNat x.b),rfl,(if_pos hg20).symm,hs22⟩
 ·intro f15_ w15_ X15_ qp qo qu qk
  obtain ⟨hu9,hu14,-⟩:=qo
  have hu9 : f15_ 16 = .bool ((!decide ((q3 x.op).toList = (⟨#[]⟩ : ByteArray).toList)) && (z4 ((zj x.op 0)).toNat x.a)):=hu9
  have hu14 : f15_ 21 = if ((!decide ((q3 x.op).toList = (⟨#[]⟩ : ByteArray).toList)) && (z4 ((zj x.op 0)).toNat x.a)) = true then .bool (z4 ((zj x.op 1)).toNat x.b) else undef:=hu14
  refine qe rfl (ka hu9 (by simp only [ev,hu14]; exact j1 _ _) rfl ?_)
  exact ⟨.bool (((!decide ((q3 x.op).toList = (⟨#[]⟩ : ByteArray).toList)) && (z4 ((zj x.op 0)).toNat x.a)) && (z4 ((zj x.op 1)).toNat x.b)),rfl,rfl,qk⟩
 ·intro f16_ w16_ X16_ qp qo qu qk
  obtain ⟨hu15,-⟩:=qo
  have hu15 : f16_ 22 = .bool (((!decide ((q3 x.op).toList = (⟨#[]⟩ : ByteArray).toList)) && (z4 ((zj x.op 0)).toNat x.a)) && (z4 ((zj x.op 1)).toNat x.b)):=hu15
  refine qe rfl (qj (v:=.bool (((!decide ((q3 x.op).toList = (⟨#[]⟩ : ByteArray).toList)) && (z4 ((zj x.op 0)).toNat x.a)) && (z4 ((zj x.op 1)).toNat x.b))) hu15 rfl ?_)
  exact ⟨.bool (((!decide ((q3 x.op).toList = (⟨#[]⟩ : ByteArray).toList)) && (z4 ((zj x.op 0)).toNat x.a)) && (z4 ((zj x.op 1)).toNat x.b)),rfl,rfl,qk⟩
 ·intro f17_ w17_ X17_ qp qo qu qk
  obtain ⟨hu16,-⟩:=qo
  have hu16 : f17_ 23 = .bool (((!decide ((q3 x.op).toList = (⟨#[]⟩ : ByteArray).toList)) && (z4 ((zj x.op 0)).toNat x.a)) && (z4 ((zj x.op 1)).toNat x.b)):=hu16
  have hb3 : f17_ 3 = .string (q3 x.op):=(qp 3 rfl)
  refine ze rfl (c:=(((!decide ((q3 x.op).toList = (⟨#[]⟩ : ByteArray).toList)) && (z4 ((zj x.op 0)).toNat x.a)) && (z4 ((zj x.op 1)).toNat x.b))) hu16 (fun hg24=>?_) (fun hg24=>⟨undef,rfl,(if_neg (by rw [hg24]; decide)).symm,qk⟩)
  refine qj (v:=.string (q3 x.op)) hb3 rfl ?_
  exact ⟨.string (q3 x.op),rfl,(if_pos hg24).symm,qk⟩
 ·intro f18_ w18_ X18_ qp qo qu qk
  obtain ⟨hu16,hu17,-⟩:=qo
  have hu16 : f18_ 23 = .bool (((!decide ((q3 x.op).toList = (⟨#[]⟩ : ByteArray).toList)) && (z4 ((zj x.op 0)).toNat x.a)) && (z4 ((zj x.op 1)).toNat x.b)):=hu16
  have hu17 : f18_ 24 = if (((!decide ((q3 x.op).toList = (⟨#[]⟩ : ByteArray).toList)) && (z4 ((zj x.op 0)).toNat x.a)) && (z4 ((zj x.op 1)).toNat x.b)) = true then .string (q3 x.op) else undef:=hu17
  refine ze rfl (c:=(((!decide ((q3 x.op).toList = (⟨#[]⟩ : ByteArray).toList)) && (z4 ((zj x.op 0)).toNat x.a)) && (z4 ((zj x.op 1)).toNat x.b))) hu16 (fun hg25=>?_) (fun hg25=>⟨undef,rfl,(if_neg (by rw [hg25]; decide)).symm,qk⟩)
  refine O_index_str (c:=zj x.op 2) (k:=.i64) (iv:=2) (Eq.trans hu17 (if_pos hg25)) rfl un9 (by decide) (kindsU_get (i:=2) (by have:=kinds_ne (and_l (and_l hg25)); omega)) rfl ?_
  exact ⟨.int .u8 ((zj x.op 2).toNat : Int),rfl,(if_pos hg25).symm,qk⟩
 ·intro f19_ w19_ X19_ qp qo qu qk
  obtain ⟨hu16,-⟩:=qo
  have hu16 : f19_ 23 = .bool (((!decide ((q3 x.op).toList = (⟨#[]⟩ : ByteArray).toList)) && (z4 ((zj x.op 0)).toNat x.a)) && (z4 ((zj x.op 1)).toNat x.b)):=hu16
  have hb1 : f19_ 1 = .pointer (some ⟨b1,0,none⟩):=(qp 1 rfl)
  refine ze rfl (c:=(((!decide ((q3 x.op).toList = (⟨#[]⟩ : ByteArray).toList)) && (z4 ((zj x.op 0)).toNat x.a)) && (z4 ((zj x.op 1)).toNat x.b))) hu16 (fun hg26=>?_) (fun hg26=>⟨undef,rfl,(if_neg (by rw [hg26]; decide)).symm,qk⟩)
  refine qg hb1 fd79_3 rfl (o':=3) rfl rfl ?_
  exact ⟨.pointer (some ⟨b1,3,none⟩),rfl,(if_pos hg26).symm,qk⟩
 ·intro f20_ w20_ X20_ qp qo qu qk
  obtain ⟨hu16,hu19,-⟩:=qo
  have hu16 : f20_ 23 = .bool (((!decide ((q3 x.op).toList = (⟨#[]⟩ : ByteArray).toList)) && (z4 ((zj x.op 0)).toNat x.a)) && (z4 ((zj x.op 1)).toNat x.b)):=hu16
  have hu19 : f20_ 26 = if (((!decide ((q3 x.op).toList = (⟨#[]⟩ : ByteArray).toList)) && (z4 ((zj x.op 0)).toNat x.a)) && (z4 ((zj x.op 1)).toNat x.b)) = true then .pointer (some ⟨b1,3,none⟩) else undef:=hu19
  obtain ⟨hr24,-⟩:=qu
  have hr24 : Item.φ (blk b1 [vI x.op,vI x.a,vI x.b,vI x.c] 79) w20_:=hr24
  refine ze rfl (c:=(((!decide ((q3 x.op).toList = (⟨#[]⟩ : ByteArray).toList)) && (z4 ((zj x.op 0)).toNat x.a)) && (z4 ((zj x.op 1)).toNat x.b))) hu16 (fun hg27=>?_) (fun hg27=>⟨undef,rfl,(if_neg (by rw [hg27]; decide)).symm,qk⟩)
  refine qq (v:=vI x.c) (Eq.trans hu19 (if_pos hg27)) ag3 (qh (hr24) rfl) rfl ?_
  exact ⟨vI x.c,rfl,(if_pos hg27).symm,qk⟩
 ·intro f21_ w21_ X21_ qp qo qu qk
  obtain ⟨hu16,hu18,hu20,-⟩:=qo
  have hu16 : f21_ 23 = .bool (((!decide ((q3 x.op).toList = (⟨#[]⟩ : ByteArray).toList)) && (z4 ((zj x.op 0)).toNat x.a)) && (z4 ((zj x.op 1)).toNat x.b)):=hu16
  have hu18 : f21_ 25 = if (((!decide ((q3 x.op).toList = (⟨#[]⟩ : ByteArray).toList)) && (z4 ((zj x.op 0)).toNat x.a)) && (z4 ((zj x.op 1)).toNat x.b)) = true then .int .u8 ((zj x.op 2).toNat : Int) else undef:=hu18
  have hu20 : f21_ 27 = if (((!decide ((q3 x.op).toList = (⟨#[]⟩ : ByteArray).toList)) && (z4 ((zj x.op 0)).toNat x.a)) && (z4 ((zj x.op 1)).toNat x.b)) = true then vI x.c else undef:=hu20
  refine ze rfl (c:=(((!decide ((q3 x.op).toList = (⟨#[]⟩ : ByteArray).toList)) && (z4 ((zj x.op 0)).toNat x.a)) && (z4 ((zj x.op 1)).toNat x.b))) hu16 (fun hg28=>?_) (fun hg28=>⟨undef,rfl,(if_neg (by rw [hg28]; decide)).symm,qk⟩)
  refine zi (args:=[.int .u8 ((zj x.op 2).toNat : Int),vI x.c]) rfl (by simp only [List.map_cons,List.map_nil,List.nil_append,List.cons_append,List.append_nil,ev,Value.cells,(Eq.trans hu18 (if_pos hg28)),(Eq.trans hu20 (if_pos hg28))]) rfl en85 (rfine_c (zj x.op 2) x.c _) ?_
  rintro _ w29 ⟨rfl,hk31⟩
  have hs30:=qk.keep hk31
  exact ⟨.bool (z4 ((zj x.op 2)).toNat x.c),rfl,(if_pos hg28).symm,hs30⟩
 ·intro f22_ w22_ X22_ qp qo qu qk
  obtain ⟨hu16,hu21,-⟩:=qo
  have hu16 : f22_ 23 = .bool (((!decide ((q3 x.op).toList = (⟨#[]⟩ : ByteArray).toList)) && (z4 ((zj x.op 0)).toNat x.a)) && (z4 ((zj x.op 1)).toNat x.b)):=hu16
  have hu21 : f22_ 28 = if (((!decide ((q3 x.op).toList = (⟨#[]⟩ : ByteArray).toList)) && (z4 ((zj x.op 0)).toNat x.a)) && (z4 ((zj x.op 1)).toNat x.b)) = true then .bool (z4 ((zj x.op 2)).toNat x.c) else undef:=hu21
  refine qe rfl (ka hu16 (by simp only [ev,hu21]; exact j1 _ _) rfl ?_)
  exact ⟨.bool ((((!decide ((q3 x.op).toList = (⟨#[]⟩ : ByteArray).toList)) && (z4 ((zj x.op 0)).toNat x.a)) && (z4 ((zj x.op 1)).toNat x.b)) && (z4 ((zj x.op 2)).toNat x.c)),rfl,rfl,qk⟩
 ·intro f23_ w23_ X23_ qp qo qu qk
  obtain ⟨hu22,-⟩:=qo
  have hu22 : f23_ 29 = .bool ((((!decide ((q3 x.op).toList = (⟨#[]⟩ : ByteArray).toList)) && (z4 ((zj x.op 0)).toNat x.a)) && (z4 ((zj x.op 1)).toNat x.b)) && (z4 ((zj x.op 2)).toNat x.c)):=hu22
  refine qe rfl (qf (v:=.bool ((((!decide ((q3 x.op).toList = (⟨#[]⟩ : ByteArray).toList)) && (z4 ((zj x.op 0)).toNat x.a)) && (z4 ((zj x.op 1)).toNat x.b)) && (z4 ((zj x.op 2)).toNat x.c))) hu22 rfl ?_)
  exact ⟨.bool ((((!decide ((q3 x.op).toList = (⟨#[]⟩ : ByteArray).toList)) && (z4 ((zj x.op 0)).toNat x.a)) && (z4 ((zj x.op 1)).toNat x.b)) && (z4 ((zj x.op 2)).toNat x.c)),rfl,rfl,qk⟩
 intro f32 w33 qp qo hs34
 obtain ⟨hu23,-⟩:=qo
 have hu23 : f32 2 = .bool ((((!decide ((q3 x.op).toList = (⟨#[]⟩ : ByteArray).toList)) && (z4 ((zj x.op 0)).toNat x.a)) && (z4 ((zj x.op 1)).toNat x.b)) && (z4 ((zj x.op 2)).toNat x.c)):=hu23
 have hs34 : St _ _ _ [blk b1 [vI x.op,vI x.a,vI x.b,vI x.c] 79] _:=hs34
 rewrite [qm hu23]
 refine qb (zo ?_)
 refine ⟨.bool ((((!decide ((q3 x.op).toList = (⟨#[]⟩ : ByteArray).toList)) && (z4 ((zj x.op 0)).toNat x.a)) && (z4 ((zj x.op 1)).toNat x.b)) && (z4 ((zj x.op 2)).toNat x.c)),res1 rfl,?_⟩
 exact ⟨congrArg Value.bool (rright_eq x),hs34.base⟩

set_option maxHeartbeats 1000000 in
/-- seizin/seizinref15.Get -/
theorem rget_c (a : Option Addr) (cap n : Nat) (l : List UInt8) (w : World) (h : (arrI encB 1 a l).φ w) (hn : l.length = n) (hl : l.length ≤ 20000) :
  C Try.prog 65 [.slice a n cap] w fun v w'=>v = .tuple #[.agg (insCells (getS l).1),vI (getS l).2] ∧ Grow w w':=by
 have hs0 : St w (fun _=>False) w [] [arrI encB 1 a l]:=St.start w _ (by simpa using h)
 refine z8 [.cell 2 79,.tmp 3] 56 Try.func65 rfl Try.ntmps65 rfl rfl ?_
 refine qi (qc ?_)
 refine qa rfl (kk (cs:=[vI 0,vI 0,vI 0,vI 0]) hs0 zv79 rfl rfl ?_)
 intro b1 w2 hb4 hs3
 refine qa rfl (qf (v:=vI 0) rfl rfl ?_)
 refine ql (qb (qi (qi (qc ?_))))
 refine qa rfl (qj (v:=.slice a n cap) rfl rfl ?_)
 refine qa rfl (qx (len:=n) rfl un27 rfl ?_)
 refine qa rfl (qt (k:=.i64) (k':=.i64) (a:=((n : Nat) : Int)) (b:=4) rfl rfl rfl yd ?_)
 refine ql (qb ?_)
 refine zd rfl (fun hc5=>?_) (fun hc5=>?_)
 ·refine qi (qc ?_)
  refine qa rfl (jl (ps:=[]) (cells:=[vI 0,vI 0,vI 0,vI 0]) bt79 rfl rfl rfl ?_)
  refine qa rfl (zx (v:=.agg #[vI 0,vI 0,vI 0,vI 0]) (vs:=[vI 0,vI 0,vI 0,vI 0]) (cs':=[vI 0,vI 0,vI 0,vI 0]) hs3 0 rfl rfl rfl sz79 rfl rfl rfl rfl rfl ?_)
  intro w6 hs7
  refine qa rfl (qf (v:=vI 1) rfl rfl ?_)
  refine ql (qb (zo (q9 ?_)))
  refine ⟨.tuple #[.agg #[vI 0,vI 0,vI 0,vI 0],vI 1],resn [.agg #[vI 0,vI 0,vI 0,vI 0],vI 1] ⟨(xc rfl ag79 sz79 (vs:=[vI 0,vI 0,vI 0,vI 0]) (Rd.of_blk (hs7.get 0 rfl) 0 4) rfl),(rv_tmp rfl),trivial⟩ rfl,?_⟩
  exact ⟨by rw [getS_other (by omega)]; rfl,hs7.base⟩
 ·refine zn (qb (qi ?_))
  have h4 : l.length = 4:=by omega
  have hlt0:=((l[0]'(by omega))).toNat_lt
  have hlt1:=((l[1]'(by omega))).toNat_lt
  have hlt2:=((l[2]'(by omega))).toNat_lt
  have hlt3:=((l[3]'(by omega))).toNat_lt
  obtain ⟨b8,o9,ha10,hs11⟩:=hs3.elem 0 rfl 0 (by omega)
  obtain ⟨b12,o13,ha14,hs15⟩:=hs11.elem 1 rfl 1 (by omega)
  obtain ⟨b16,o17,ha18,hs19⟩:=hs15.elem 2 rfl 2 (by omega)
  obtain ⟨b20,o21,ha22,hs23⟩:=hs19.elem 3 rfl 3 (by omega)
  refine jc js (show St _ _ _ [blk b1 [vI 0,vI 0,vI 0,vI 0] 79] _ from hs23) (fun i_=>match i_ with|17=>some ([4],fun vs_=>match vs_ with|[x4]=>blk (vblk x4) [vI 0,vI 0,vI 0,vI 0] 79|_=>emp)|18=>some ([4],fun vs_=>match vs_ with|[x4]=>blk (vblk x4) [vI ((l[0]'(by omega)).toNat : Int),vI ((l[1]'(by omega)).toNat : Int),vI ((l[2]'(by omega)).toNat : Int),vI ((l[3]'(by omega)).toNat : Int)] 79|_=>emp)|_=>none) (fun i_=>match i_ with|18=>[17]|_=>[]) (fun i_=>match i_ with|_=>[]) (fun i_=>match i_ with|1=>[0]|2=>[1]|3=>[2]|5=>[4]|6=>[5]|7=>[6]|9=>[8]|10=>[9]|11=>[10]|13=>[12]|14=>[13]|15=>[14]|16=>[3,7,11,15]|18=>[17,16]|_=>[]) [18,19,0,1,2,3,4,5,6,7,8,9,10,11,12,13,14,15,16,20,21,22,23,24,25,26,27,28,29,30,31,32,33,34,35,36,37,38] [17] (fun i_ v_=>match i_ with|0=>v_ = .slice a n cap|1=>v_ = .pointer (some ⟨b8,o9 + 0 * 1,none⟩)|2=>v_ = .int .u8 ((l[0]'(by omega)).toNat : Int)|3=>v_ = vI ((l[0]'(by omega)).toNat : Int)|4=>v_ = .slice a n cap|5=>v_ = .pointer (some ⟨b12,o13 + 1 * 1,none⟩)|6=>v_ = .int .u8 ((l[1]'(by omega)).toNat : Int)|7=>v_ = vI ((l[1]'(by omega)).toNat : Int)|8=>v_ = .slice a n cap|9=>v_ = .pointer (some ⟨b16,o17 + 2 * 1,none⟩)|10=>v_ = .int .u8 ((l[2]'(by omega)).toNat : Int)|11=>v_ = vI ((l[2]'(by omega)).toNat : Int)|12=>v_ = .slice a n cap|13=>v_ = .pointer (some ⟨b20,o21 + 3 * 1,none⟩)|14=>v_ = .int .u8 ((l[3]'(by omega)).toNat : Int)|15=>v_ = vI ((l[3]'(by omega)).toNat : Int)|16=>v_ = .agg #[vI ((l[0]'(by omega)).toNat : Int),vI ((l[1]'(by omega)).toNat : Int),vI ((l[2]'(by omega)).toNat : Int),vI ((l[3]'(by omega)).toNat : Int)]|17=>∃ b24 : Nat,v_ = .pointer (some ⟨b24,0,none⟩)|_=>True) (by kernel_rfl) (by kernel_rfl) ⟨?_,?_,?_,?_,?_,?_,?_,?_,?_,?_,?_,?_,?_,?_,?_,?_,?_,?_,?_,trivial⟩ ?_
  ·intro f0_ w0_ X0_ qp qo qu qk
   have hb0 : f0_ 0 = .slice a n cap:=(qp 0 rfl)
   refine qe rfl (qj (v:=.slice a n cap) hb0 rfl ?_)
   exact ⟨.slice a n cap,rfl,rfl,qk⟩
  ·intro f1_ w1_ X1_ qp qo qu qk
   obtain ⟨hu0,-⟩:=qo
   have hu0 : f1_ 9 = .slice a n cap:=hu0
   refine qe rfl (qs hu0 ha10 rfl un27 sz5 (by omega) (by omega) (o':=o9 + 0 * 1) (by omega) rfl ?_)
   exact ⟨.pointer (some ⟨b8,o9 + 0 * 1,none⟩),rfl,rfl,qk⟩
  ·intro f2_ w2_ X2_ qp qo qu qk
   obtain ⟨hu1,-⟩:=qo
   have hu1 : f2_ 10 = .pointer (some ⟨b8,o9 + 0 * 1,none⟩):=hu1
   refine qe rfl (qq (v:=.int .u8 ((l[0]'(by omega)).toNat : Int)) hu1 ag5 ((qk.getR 3 rfl).2 0 _ rfl) rfl ?_)
   exact ⟨.int .u8 ((l[0]'(by omega)).toNat : Int),rfl,rfl,qk⟩
  ·intro f3_ w3_ X3_ qp qo qu qk
   obtain ⟨hu2,-⟩:=qo
   have hu2 : f3_ 11 = .int .u8 ((l[0]'(by omega)).toNat : Int):=hu2
   refine qe rfl (ky hu2 un5 un3 rfl (c:=((l[0]'(by omega)).toNat : Int)) (j6 _) ?_)
   exact ⟨vI ((l[0]'(by omega)).toNat : Int),rfl,rfl,qk⟩
  ·intro f4_ w4_ X4_ qp qo qu qk
   have hb0 : f4_ 0 = .slice a n cap:=(qp 0 rfl)
   refine qe rfl (qj (v:=.slice a n cap) hb0 rfl ?_)
   exact ⟨.slice a n cap,rfl,rfl,qk⟩
  ·intro f5_ w5_ X5_ qp qo qu qk
   obtain ⟨hu4,-⟩:=qo
   have hu4 : f5_ 13 = .slice a n cap:=hu4
   refine qe rfl (qs hu4 ha14 rfl un27 sz5 (by omega) (by omega) (o':=o13 + 1 * 1) (by omega) rfl ?_)
   exact ⟨.pointer (some ⟨b12,o13 + 1 * 1,none⟩),rfl,rfl,qk⟩
  ·intro f6_ w6_ X6_ qp qo qu qk
   obtain ⟨hu5,-⟩:=qo
   have hu5 : f6_ 14 = .pointer (some ⟨b12,o13 + 1 * 1,none⟩):=hu5
   refine qe rfl (qq (v:=.int .u8 ((l[1]'(by omega)).toNat : Int)) hu5 ag5 ((qk.getR 2 rfl).2 0 _ rfl) rfl ?_)
   exact ⟨.int .u8 ((l[1]'(by omega)).toNat : Int),rfl,rfl,qk⟩
  ·intro f7_ w7_ X7_ qp qo qu qk
   obtain ⟨hu6,-⟩:=qo
   have hu6 : f7_ 15 = .int .u8 ((l[1]'(by omega)).toNat : Int):=hu6
   refine qe rfl (ky hu6 un5 un3 rfl (c:=((l[1]'(by omega)).toNat : Int)) (j6 _) ?_)
   exact ⟨vI ((l[1]'(by omega)).toNat : Int),rfl,rfl,qk⟩
  ·intro f8_ w8_ X8_ qp qo qu qk
   have hb0 : f8_ 0 = .slice a n cap:=(qp 0 rfl)
   refine qe rfl (qj (v:=.slice a n cap) hb0 rfl ?_)
   exact ⟨.slice a n cap,rfl,rfl,qk⟩
  ·intro f9_ w9_ X9_ qp qo qu qk
   obtain ⟨hu8,-⟩:=qo
   have hu8 : f9_ 17 = .slice a n cap:=hu8
   refine qe rfl (qs hu8 ha18 rfl un27 sz5 (by omega) (by omega) (o':=o17 + 2 * 1) (by omega) rfl ?_)
   exact ⟨.pointer (some ⟨b16,o17 + 2 * 1,none⟩),rfl,rfl,qk⟩
  ·intro f10_ w10_ X10_ qp qo qu qk
   obtain ⟨hu9,-⟩:=qo
   have hu9 : f10_ 18 = .pointer (some ⟨b16,o17 + 2 * 1,none⟩):=hu9
   refine qe rfl (qq (v:=.int .u8 ((l[2]'(by omega)).toNat : Int)) hu9 ag5 ((qk.getR 1 rfl).2 0 _ rfl) rfl ?_)
   exact ⟨.int .u8 ((l[2]'(by omega)).toNat : Int),rfl,rfl,qk⟩
  ·intro f11_ w11_ X11_ qp qo qu qk
   obtain ⟨hu10,-⟩:=qo
   have hu10 : f11_ 19 = .int .u8 ((l[2]'(by omega)).toNat : Int):=hu10
   refine qe rfl (ky hu10 un5 un3 rfl (c:=((l[2]'(by omega)).toNat : Int)) (j6 _) ?_)
   exact ⟨vI ((l[2]'(by omega)).toNat : Int),rfl,rfl,qk⟩
  ·intro f12_ w12_ X12_ qp qo qu qk
   have hb0 : f12_ 0 = .slice a n cap:=(qp 0 rfl)
   refine qe rfl (qj (v:=.slice a n cap) hb0 rfl ?_)
   exact ⟨.slice a n cap,rfl,rfl,qk⟩
  ·intro f13_ w13_ X13_ qp qo qu qk
   obtain ⟨hu12,-⟩:=qo
   have hu12 : f13_ 21 = .slice a n cap:=hu12
   refine qe rfl (qs hu12 ha22 rfl un27 sz5 (by omega) (by omega) (o':=o21 + 3 * 1) (by omega) rfl ?_)
   exact ⟨.pointer (some ⟨b20,o21 + 3 * 1,none⟩),rfl,rfl,qk⟩
  ·intro f14_ w14_ X14_ qp qo qu qk
   obtain ⟨hu13,-⟩:=qo
   have hu13 : f14_ 22 = .pointer (some ⟨b20,o21 + 3 * 1,none⟩):=hu13
   refine qe rfl (qq (v:=.int .u8 ((l[3]'(by omega)).toNat : Int)) hu13 ag5 ((qk.getR 0 rfl).2 0 _ rfl) rfl ?_)
   exact ⟨.int .u8 ((l[3]'(by omega)).toNat : Int),rfl,rfl,qk⟩
  ·intro f15_ w15_ X15_ qp qo qu qk
   obtain ⟨hu14,-⟩:=qo
   have hu14 : f15_ 23 = .int .u8 ((l[3]'(by omega)).toNat : Int):=hu14
   refine qe rfl (ky hu14 un5 un3 rfl (c:=((l[3]'(by omega)).toNat : Int)) (j6 _) ?_)
   exact ⟨vI ((l[3]'(by omega)).toNat : Int),rfl,rfl,qk⟩
  ·intro f16_ w16_ X16_ qp qo qu qk
   obtain ⟨hu3,hu7,hu11,hu15,-⟩:=qo
   have hu3 : f16_ 12 = vI ((l[0]'(by omega)).toNat : Int):=hu3
   have hu7 : f16_ 16 = vI ((l[1]'(by omega)).toNat : Int):=hu7
   have hu11 : f16_ 20 = vI ((l[2]'(by omega)).toNat : Int):=hu11
   have hu15 : f16_ 24 = vI ((l[3]'(by omega)).toNat : Int):=hu15
   refine qe rfl (jl (ps:=[(0,[vI ((l[0]'(by omega)).toNat : Int)]),(1,[vI ((l[1]'(by omega)).toNat : Int)]),(2,[vI ((l[2]'(by omega)).toNat : Int)]),(3,[vI ((l[3]'(by omega)).toNat : Int)])]) (cells:=[vI ((l[0]'(by omega)).toNat : Int),vI ((l[1]'(by omega)).toNat : Int),vI ((l[2]'(by omega)).toNat : Int),vI ((l[3]'(by omega)).toNat : Int)]) bt79 (by simp only [List.map_cons,List.map_nil,List.nil_append,List.cons_append,List.append_nil,ev,Value.cells,hu3,hu7,hu11,hu15]) rfl rfl ?_)
   exact ⟨.agg #[vI ((l[0]'(by omega)).toNat : Int),vI ((l[1]'(by omega)).toNat : Int),vI ((l[2]'(by omega)).toNat : Int),vI ((l[3]'(by omega)).toNat : Int)],rfl,rfl,qk⟩
  ·intro f17_ w17_ X17_ qp qo qu qk
   refine qe rfl (kk (cs:=[vI 0,vI 0,vI 0,vI 0]) qk zv79 rfl rfl ?_)
   intro b24 w25 hb27 hs26
   refine ⟨.pointer (some ⟨b24,0,none⟩),rfl,⟨_,rfl⟩,?_⟩
   show St _ _ _ ((blk (vblk ((upd f17_ 4 (.pointer (some ⟨b24,0,none⟩))) 4)) [vI 0,vI 0,vI 0,vI 0] 79) :: X17_) _
   exact hs26
  ·intro f18_ w18_ X18_ qp qo qu qk
   obtain ⟨hu17,hu16,-⟩:=qo
   obtain ⟨b24,hu17⟩:=(show ∃ b24 : Nat,f18_ 4 = .pointer (some ⟨b24,0,none⟩) from hu17)
   have hu16 : f18_ 25 = .agg #[vI ((l[0]'(by omega)).toNat : Int),vI ((l[1]'(by omega)).toNat : Int),vI ((l[2]'(by omega)).toNat : Int),vI ((l[3]'(by omega)).toNat : Int)]:=hu16
   have qk : St _ _ _ ((blk (vblk (f18_ 4)) [vI 0,vI 0,vI 0,vI 0] 79) :: X18_) _:=qk
   rw [hu17] at qk; simp only [vblk,zf,vcap,z3] at qk
   refine qe rfl (zx (v:=.agg #[vI ((l[0]'(by omega)).toNat : Int),vI ((l[1]'(by omega)).toNat : Int),vI ((l[2]'(by omega)).toNat : Int),vI ((l[3]'(by omega)).toNat : Int)]) (vs:=[vI ((l[0]'(by omega)).toNat : Int),vI ((l[1]'(by omega)).toNat : Int),vI ((l[2]'(by omega)).toNat : Int),vI ((l[3]'(by omega)).toNat : Int)]) (cs':=[vI ((l[0]'(by omega)).toNat : Int),vI ((l[1]'(by omega)).toNat : Int),vI ((l[2]'(by omega)).toNat : Int),vI ((l[3]'(by omega)).toNat : Int)]) qk 0 rfl hu17 hu16 sz79 rfl rfl rfl rfl rfl ?_)
   intro w28 hs29
   refine ⟨undef,rfl,trivial,?_⟩
   show St _ _ _ ((blk (vblk (f18_ 4)) [vI ((l[0]'(by omega)).toNat : Int),vI ((l[1]'(by omega)).toNat : Int),vI ((l[2]'(by omega)).toNat : Int),vI ((l[3]'(by omega)).toNat : Int)] 79) :: X18_) _
   rw [show (f18_) 4 = _ from hu17]
   exact hs29
  intro f30 w31 qp qo hs32
  obtain ⟨hu17,-⟩:=qo
  obtain ⟨b24,hu17⟩:=(show ∃ b24 : Nat,f30 4 = .pointer (some ⟨b24,0,none⟩) from hu17)
  have hs32 : St _ _ _ [blk (vblk (f30 4)) [vI ((l[0]'(by omega)).toNat : Int),vI ((l[1]'(by omega)).toNat : Int),vI ((l[2]'(by omega)).toNat : Int),vI ((l[3]'(by omega)).toNat : Int)] 79,blk b1 [vI 0,vI 0,vI 0,vI 0] 79] _:=hs32
  simp only [hu17,vblk,zf,vcap,z3] at hs32
  have hs32 : St _ _ _ [blk b24 [vI ((l[0]'(by omega)).toNat : Int),vI ((l[1]'(by omega)).toNat : Int),vI ((l[2]'(by omega)).toNat : Int),vI ((l[3]'(by omega)).toNat : Int)] 79,blk b1 [vI 0,vI 0,vI 0,vI 0] 79] _:=hs32
  have e33 : f30 2 = .pointer (some ⟨b1,0,none⟩):=(qp 2 rfl)
  rewrite [qm e33]
  rewrite [qm hu17]
  refine qb (qi (qi (qc ?_)))
  refine qa rfl (qg rfl fd79_0 rfl (o':=0) rfl rfl ?_)
  refine qa rfl (qq (v:=vI ((l[0]'(by omega)).toNat : Int)) rfl ag3 (qh (hs32.get 0 rfl) rfl) rfl ?_)
  refine qa rfl (zi (args:=[vI ((l[0]'(by omega)).toNat : Int)]) rfl rfl rfl en77 (rkinds_c ((l[0]'(by omega)).toNat : Int) _) ?_)
  rintro _ w34 ⟨rfl,hk36⟩
  have hs35:=hs32.keep hk36
  refine qa rfl (O_binv (a:=.string (q3 ((l[0]'(by omega)).toNat : Int))) (b:=.string (⟨#[]⟩)) rfl rfl rfl eg_string b_eql_string ?_)
  refine ql (qb ?_)
  refine zd rfl (fun hc37=>?_) (fun hc37=>?_)
  ·refine qi (qc ?_)
   refine qa rfl (jl (ps:=[]) (cells:=[vI 0,vI 0,vI 0,vI 0]) bt79 rfl rfl rfl ?_)
   refine qa rfl (zx (v:=.agg #[vI 0,vI 0,vI 0,vI 0]) (vs:=[vI 0,vI 0,vI 0,vI 0]) (cs':=[vI 0,vI 0,vI 0,vI 0]) hs35 1 rfl rfl rfl sz79 rfl rfl rfl rfl rfl ?_)
   intro w38 hs39
   refine qa rfl (qf (v:=vI 151) rfl rfl ?_)
   refine ql (qb (zo (q9 ?_)))
   refine ⟨.tuple #[.agg #[vI 0,vI 0,vI 0,vI 0],vI 151],resn [.agg #[vI 0,vI 0,vI 0,vI 0],vI 151] ⟨(xc rfl ag79 sz79 (vs:=[vI 0,vI 0,vI 0,vI 0]) (Rd.of_blk (hs39.get 1 rfl) 0 4) rfl),(rv_tmp rfl),trivial⟩ rfl,?_⟩
   exact ⟨by rw [getS_none h4 hc37]; rfl,hs39.base⟩
  ·refine zn (qb (qi (qi ?_)))
   have hne:=hc37
   refine qc ?_
   refine qa rfl (qg rfl fd79_0 rfl (o':=0) rfl rfl ?_)
   refine qa rfl (qq (v:=vI ((l[0]'(by omega)).toNat : Int)) rfl ag3 (qh (hs35.get 0 rfl) rfl) rfl ?_)
   refine qa rfl (zi (args:=[vI ((l[0]'(by omega)).toNat : Int)]) rfl rfl rfl en77 (rkinds_c ((l[0]'(by omega)).toNat : Int) _) ?_)
   rintro _ w40 ⟨rfl,hk42⟩
   have hs41:=hs35.keep hk42
   refine qa rfl (O_index_str (c:=zj ((l[0]'(by omega)).toNat : Int) 1) (k:=.i64) (iv:=1) rfl rfl un9 (by decide) (kindsU_get (i:=1) (by have:=kinds_ne (by simpa using hne); omega)) rfl ?_)
   refine qa rfl (qt (k:=.u8) (k':=.u8) (a:=((zj ((l[0]'(by omega)).toNat : Int) 1).toNat : Int)) (b:=119) rfl rfl rfl k8 ?_)
   refine ql (qb ?_)
   refine zd rfl (fun hc43=>?_) (fun hc43=>?_)
   ·refine qi (qc ?_)
    refine qa rfl (qg rfl fd79_2 rfl (o':=2) rfl rfl ?_)
    refine qa rfl (qq (v:=vI ((l[2]'(by omega)).toNat : Int)) rfl ag3 (qh (hs41.get 0 rfl) rfl) rfl ?_)
    refine qa rfl (qt (v:=vI (256 * ((l[2]'(by omega)).toNat : Int))) rfl rfl rfl (b_mul (qz (by omega) (by omega))) ?_)
    refine qa rfl (qg rfl fd79_3 rfl (o':=3) rfl rfl ?_)
    refine qa rfl (qq (v:=vI ((l[3]'(by omega)).toNat : Int)) rfl ag3 (qh (hs41.get 0 rfl) rfl) rfl ?_)
    refine qa rfl (qt (v:=vI ((256 * ((l[2]'(by omega)).toNat : Int)) + ((l[3]'(by omega)).toNat : Int))) rfl rfl rfl (ki (qz (by omega) (by omega))) ?_)
    refine qa rfl (qg rfl fd79_2 rfl (o':=2) rfl rfl ?_)
    refine qa rfl (zx (v:=vI ((256 * ((l[2]'(by omega)).toNat : Int)) + ((l[3]'(by omega)).toNat : Int))) (vs:=[vI ((256 * ((l[2]'(by omega)).toNat : Int)) + ((l[3]'(by omega)).toNat : Int))]) (cs':=[vI ((l[0]'(by omega)).toNat : Int),vI ((l[1]'(by omega)).toNat : Int),vI ((256 * ((l[2]'(by omega)).toNat : Int)) + ((l[3]'(by omega)).toNat : Int)),vI ((l[3]'(by omega)).toNat : Int)]) hs41 0 rfl rfl rfl sz3 rfl rfl rfl rfl rfl ?_)
    intro w44 hs45
    refine ql (qb (qi (qc ?_)))
    refine qa rfl (qg rfl fd79_3 rfl (o':=3) rfl rfl ?_)
    refine qa rfl (zx (v:=vI 0) (vs:=[vI 0]) (cs':=[vI ((l[0]'(by omega)).toNat : Int),vI ((l[1]'(by omega)).toNat : Int),vI ((256 * ((l[2]'(by omega)).toNat : Int)) + ((l[3]'(by omega)).toNat : Int)),vI 0]) hs45 0 rfl rfl rfl sz3 rfl rfl rfl rfl rfl ?_)
    intro w46 hs47
    refine ql (qb (qi (qc ?_)))
    refine qa rfl (qg rfl fd79_2 rfl (o':=2) rfl rfl ?_)
    refine qa rfl (qq (v:=vI ((256 * ((l[2]'(by omega)).toNat : Int)) + ((l[3]'(by omega)).toNat : Int))) rfl ag3 (qh (hs47.get 0 rfl) rfl) rfl ?_)
    refine qa rfl (qt (k:=.i64) (k':=.i64) (a:=((256 * ((l[2]'(by omega)).toNat : Int)) + ((l[3]'(by omega)).toNat : Int))) (b:=32768) rfl rfl rfl b_geq ?_)
    refine ql (qb ?_)
    refine zd rfl (fun hc48=>?_) (fun hc48=>?_)
    ·refine qc ?_
     refine qa rfl (qg rfl fd79_2 rfl (o':=2) rfl rfl ?_)
     refine qa rfl (qq (v:=vI ((256 * ((l[2]'(by omega)).toNat : Int)) + ((l[3]'(by omega)).toNat : Int))) rfl ag3 (qh (hs47.get 0 rfl) rfl) rfl ?_)
     refine qa rfl (qt (v:=vI (((256 * ((l[2]'(by omega)).toNat : Int)) + ((l[3]'(by omega)).toNat : Int)) - 65536)) rfl rfl rfl (b_sub (qz (by omega) (by omega))) ?_)
     refine qa rfl (qg rfl fd79_2 rfl (o':=2) rfl rfl ?_)
     refine qa rfl (zx (v:=vI (((256 * ((l[2]'(by omega)).toNat : Int)) + ((l[3]'(by omega)).toNat : Int)) - 65536)) (vs:=[vI (((256 * ((l[2]'(by omega)).toNat : Int)) + ((l[3]'(by omega)).toNat : Int)) - 65536)]) (cs':=[vI ((l[0]'(by omega)).toNat : Int),vI ((l[1]'(by omega)).toNat : Int),vI (((256 * ((l[2]'(by omega)).toNat : Int)) + ((l[3]'(by omega)).toNat : Int)) - 65536),vI 0]) hs47 0 rfl rfl rfl sz3 rfl rfl rfl rfl rfl ?_)
     intro w49 hs50
     refine ql (qb (qi (qi (qc ?_))))
     refine qa rfl (qw (vs:=[vI ((l[0]'(by omega)).toNat : Int),vI ((l[1]'(by omega)).toNat : Int),vI (((256 * ((l[2]'(by omega)).toNat : Int)) + ((l[3]'(by omega)).toNat : Int)) - 65536),vI 0]) rfl ag79 sz79 (Rd.of_blk (hs50.get 0 rfl) 0 4) rfl rfl ?_)
     refine qa rfl (zi (args:=[.agg #[vI ((l[0]'(by omega)).toNat : Int),vI ((l[1]'(by omega)).toNat : Int),vI (((256 * ((l[2]'(by omega)).toNat : Int)) + ((l[3]'(by omega)).toNat : Int)) - 65536),vI 0]]) rfl rfl rfl en78 (rright_c (⟨((l[0]'(by omega)).toNat : Int),((l[1]'(by omega)).toNat : Int),((256 * ((l[2]'(by omega)).toNat : Int)) + ((l[3]'(by omega)).toNat : Int)) - 65536,0⟩) _) ?_)
     rintro _ w51 ⟨rfl,hk53⟩
     have hs52:=hs50.keep hk53
     refine qa rfl (j0 (b:=(insS (⟨((l[0]'(by omega)).toNat : Int),((l[1]'(by omega)).toNat : Int),((256 * ((l[2]'(by omega)).toNat : Int)) + ((l[3]'(by omega)).toNat : Int)) - 65536,0⟩))) rfl rfl ?_)
     refine ql (qb ?_)
     refine k5 (t:=(!(insS (⟨((l[0]'(by omega)).toNat : Int),((l[1]'(by omega)).toNat : Int),((256 * ((l[2]'(by omega)).toNat : Int)) + ((l[3]'(by omega)).toNat : Int)) - 65536,0⟩)))) rfl (fun hc54=>?_) (fun hc54=>?_)
     ·try simp only [Bool.and_eq_true,Bool.or_eq_true,Bool.not_eq_true',Bool.and_eq_false_iff,Bool.or_eq_false_iff,Bool.not_eq_false',decide_eq_true_eq,decide_eq_false_iff_not,Bool.and_eq_false_imp] at hc54
      refine qi (qc ?_)
      refine qa rfl (jl (ps:=[]) (cells:=[vI 0,vI 0,vI 0,vI 0]) bt79 rfl rfl rfl ?_)
      refine qa rfl (zx (v:=.agg #[vI 0,vI 0,vI 0,vI 0]) (vs:=[vI 0,vI 0,vI 0,vI 0]) (cs':=[vI 0,vI 0,vI 0,vI 0]) hs52 1 rfl rfl rfl sz79 rfl rfl rfl rfl rfl ?_)
      intro w55 hs56
      refine qa rfl (qf (v:=vI 151) rfl rfl ?_)
      refine ql (qb (zo (q9 ?_)))
      refine ⟨.tuple #[.agg #[vI 0,vI 0,vI 0,vI 0],vI 151],resn [.agg #[vI 0,vI 0,vI 0,vI 0],vI 151] ⟨(xc rfl ag79 sz79 (vs:=[vI 0,vI 0,vI 0,vI 0]) (Rd.of_blk (hs56.get 1 rfl) 0 4) rfl),(rv_tmp rfl),trivial⟩ rfl,?_⟩
      have h4 : l.length = 4:=by omega
      have hwd : yc (l[0].toNat : Int) = true:=wide_of hne (by first|exact decide_eq_true ‹_›|exact decide_eq_false ‹_›)
      have hq:=(rw_big (b0:=l[0]) (b1:=l[1]) (b2:=l[2]) (b3:=l[3]) hwd ‹_›)
      exact ⟨by rw [xf h4,← hq,if_neg (by simpa using hc54)]; rfl,hs56.base⟩
     ·try simp only [Bool.and_eq_true,Bool.or_eq_true,Bool.not_eq_true',Bool.and_eq_false_iff,Bool.or_eq_false_iff,Bool.not_eq_false',decide_eq_true_eq,decide_eq_false_iff_not,Bool.and_eq_false_imp] at hc54
      refine zn (qb (qi (qc ?_)))
      refine qa rfl (qw (vs:=[vI ((l[0]'(by omega)).toNat : Int),vI ((l[1]'(by omega)).toNat : Int),vI (((256 * ((l[2]'(by omega)).toNat : Int)) + ((l[3]'(by omega)).toNat : Int)) - 65536),vI 0]) rfl ag79 sz79 (Rd.of_blk (hs52.get 0 rfl) 0 4) rfl rfl ?_)
      refine qa rfl (zx (v:=.agg #[vI ((l[0]'(by omega)).toNat : Int),vI ((l[1]'(by omega)).toNat : Int),vI (((256 * ((l[2]'(by omega)).toNat : Int)) + ((l[3]'(by omega)).toNat : Int)) - 65536),vI 0]) (vs:=[vI ((l[0]'(by omega)).toNat : Int),vI ((l[1]'(by omega)).toNat : Int),vI (((256 * ((l[2]'(by omega)).toNat : Int)) + ((l[3]'(by omega)).toNat : Int)) - 65536),vI 0]) (cs':=[vI ((l[0]'(by omega)).toNat : Int),vI ((l[1]'(by omega)).toNat : Int),vI (((256 * ((l[2]'(by omega)).toNat : Int)) + ((l[3]'(by omega)).toNat : Int)) - 65536),vI 0]) hs52 1 rfl rfl rfl sz79 rfl rfl rfl rfl rfl ?_)
      intro w57 hs58
      refine qa rfl (qf (v:=vI 0) rfl rfl ?_)
      refine ql (qb (zo ?_))
      refine ⟨.tuple #[.agg #[vI ((l[0]'(by omega)).toNat : Int),vI ((l[1]'(by omega)).toNat : Int),vI (((256 * ((l[2]'(by omega)).toNat : Int)) + ((l[3]'(by omega)).toNat : Int)) - 65536),vI 0],vI 0],resn [.agg #[vI ((l[0]'(by omega)).toNat : Int),vI ((l[1]'(by omega)).toNat : Int),vI (((256 * ((l[2]'(by omega)).toNat : Int)) + ((l[3]'(by omega)).toNat : Int)) - 65536),vI 0],vI 0] ⟨(xc rfl ag79 sz79 (vs:=[vI ((l[0]'(by omega)).toNat : Int),vI ((l[1]'(by omega)).toNat : Int),vI (((256 * ((l[2]'(by omega)).toNat : Int)) + ((l[3]'(by omega)).toNat : Int)) - 65536),vI 0]) (Rd.of_blk (hs58.get 1 rfl) 0 4) rfl),(rv_tmp rfl),trivial⟩ rfl,?_⟩
      have h4 : l.length = 4:=by omega
      have hwd : yc (l[0].toNat : Int) = true:=wide_of hne (by first|exact decide_eq_true ‹_›|exact decide_eq_false ‹_›)
      have hq:=(rw_big (b0:=l[0]) (b1:=l[1]) (b2:=l[2]) (b3:=l[3]) hwd ‹_›)
      exact ⟨by rw [xf h4,← hq,if_pos (by simpa using hc54)]; rfl,hs58.base⟩
    ·refine zn (qb (qi (qi (qc ?_))))
     refine qa rfl (qw (vs:=[vI ((l[0]'(by omega)).toNat : Int),vI ((l[1]'(by omega)).toNat : Int),vI ((256 * ((l[2]'(by omega)).toNat : Int)) + ((l[3]'(by omega)).toNat : Int)),vI 0]) rfl ag79 sz79 (Rd.of_blk (hs47.get 0 rfl) 0 4) rfl rfl ?_)
     refine qa rfl (zi (args:=[.agg #[vI ((l[0]'(by omega)).toNat : Int),vI ((l[1]'(by omega)).toNat : Int),vI ((256 * ((l[2]'(by omega)).toNat : Int)) + ((l[3]'(by omega)).toNat : Int)),vI 0]]) rfl rfl rfl en78 (rright_c (⟨((l[0]'(by omega)).toNat : Int),((l[1]'(by omega)).toNat : Int),(256 * ((l[2]'(by omega)).toNat : Int)) + ((l[3]'(by omega)).toNat : Int),0⟩) _) ?_)
     rintro _ w59 ⟨rfl,hk61⟩
     have hs60:=hs47.keep hk61
     refine qa rfl (j0 (b:=(insS (⟨((l[0]'(by omega)).toNat : Int),((l[1]'(by omega)).toNat : Int),(256 * ((l[2]'(by omega)).toNat : Int)) + ((l[3]'(by omega)).toNat : Int),0⟩))) rfl rfl ?_)
     refine ql (qb ?_)
     refine k5 (t:=(!(insS (⟨((l[0]'(by omega)).toNat : Int),((l[1]'(by omega)).toNat : Int),(256 * ((l[2]'(by omega)).toNat : Int)) + ((l[3]'(by omega)).toNat : Int),0⟩)))) rfl (fun hc62=>?_) (fun hc62=>?_)
     ·try simp only [Bool.and_eq_true,Bool.or_eq_true,Bool.not_eq_true',Bool.and_eq_false_iff,Bool.or_eq_false_iff,Bool.not_eq_false',decide_eq_true_eq,decide_eq_false_iff_not,Bool.and_eq_false_imp] at hc62
      refine qi (qc ?_)
      refine qa rfl (jl (ps:=[]) (cells:=[vI 0,vI 0,vI 0,vI 0]) bt79 rfl rfl rfl ?_)
      refine qa rfl (zx (v:=.agg #[vI 0,vI 0,vI 0,vI 0]) (vs:=[vI 0,vI 0,vI 0,vI 0]) (cs':=[vI 0,vI 0,vI 0,vI 0]) hs60 1 rfl rfl rfl sz79 rfl rfl rfl rfl rfl ?_)
      intro w63 hs64
      refine qa rfl (qf (v:=vI 151) rfl rfl ?_)
      refine ql (qb (zo (q9 ?_)))
      refine ⟨.tuple #[.agg #[vI 0,vI 0,vI 0,vI 0],vI 151],resn [.agg #[vI 0,vI 0,vI 0,vI 0],vI 151] ⟨(xc rfl ag79 sz79 (vs:=[vI 0,vI 0,vI 0,vI 0]) (Rd.of_blk (hs64.get 1 rfl) 0 4) rfl),(rv_tmp rfl),trivial⟩ rfl,?_⟩
      have h4 : l.length = 4:=by omega
      have hwd : yc (l[0].toNat : Int) = true:=wide_of hne (by first|exact decide_eq_true ‹_›|exact decide_eq_false ‹_›)
      have hq:=(rw_small (b0:=l[0]) (b1:=l[1]) (b2:=l[2]) (b3:=l[3]) hwd ‹_›)
      exact ⟨by rw [xf h4,← hq,if_neg (by simpa using hc62)]; rfl,hs64.base⟩
     ·try simp only [Bool.and_eq_true,Bool.or_eq_true,Bool.not_eq_true',Bool.and_eq_false_iff,Bool.or_eq_false_iff,Bool.not_eq_false',decide_eq_true_eq,decide_eq_false_iff_not,Bool.and_eq_false_imp] at hc62
      refine zn (qb (qi (qc ?_)))
      refine qa rfl (qw (vs:=[vI ((l[0]'(by omega)).toNat : Int),vI ((l[1]'(by omega)).toNat : Int),vI ((256 * ((l[2]'(by omega)).toNat : Int)) + ((l[3]'(by omega)).toNat : Int)),vI 0]) rfl ag79 sz79 (Rd.of_blk (hs60.get 0 rfl) 0 4) rfl rfl ?_)
      refine qa rfl (zx (v:=.agg #[vI ((l[0]'(by omega)).toNat : Int),vI ((l[1]'(by omega)).toNat : Int),vI ((256 * ((l[2]'(by omega)).toNat : Int)) + ((l[3]'(by omega)).toNat : Int)),vI 0]) (vs:=[vI ((l[0]'(by omega)).toNat : Int),vI ((l[1]'(by omega)).toNat : Int),vI ((256 * ((l[2]'(by omega)).toNat : Int)) + ((l[3]'(by omega)).toNat : Int)),vI 0]) (cs':=[vI ((l[0]'(by omega)).toNat : Int),vI ((l[1]'(by omega)).toNat : Int),vI ((256 * ((l[2]'(by omega)).toNat : Int)) + ((l[3]'(by omega)).toNat : Int)),vI 0]) hs60 1 rfl rfl rfl sz79 rfl rfl rfl rfl rfl ?_)
      intro w65 hs66
      refine qa rfl (qf (v:=vI 0) rfl rfl ?_)
      refine ql (qb (zo ?_))
      refine ⟨.tuple #[.agg #[vI ((l[0]'(by omega)).toNat : Int),vI ((l[1]'(by omega)).toNat : Int),vI ((256 * ((l[2]'(by omega)).toNat : Int)) + ((l[3]'(by omega)).toNat : Int)),vI 0],vI 0],resn [.agg #[vI ((l[0]'(by omega)).toNat : Int),vI ((l[1]'(by omega)).toNat : Int),vI ((256 * ((l[2]'(by omega)).toNat : Int)) + ((l[3]'(by omega)).toNat : Int)),vI 0],vI 0] ⟨(xc rfl ag79 sz79 (vs:=[vI ((l[0]'(by omega)).toNat : Int),vI ((l[1]'(by omega)).toNat : Int),vI ((256 * ((l[2]'(by omega)).toNat : Int)) + ((l[3]'(by omega)).toNat : Int)),vI 0]) (Rd.of_blk (hs66.get 1 rfl) 0 4) rfl),(rv_tmp rfl),trivial⟩ rfl,?_⟩
      have h4 : l.length = 4:=by omega
      have hwd : yc (l[0].toNat : Int) = true:=wide_of hne (by first|exact decide_eq_true ‹_›|exact decide_eq_false ‹_›)
      have hq:=(rw_small (b0:=l[0]) (b1:=l[1]) (b2:=l[2]) (b3:=l[3]) hwd ‹_›)
      exact ⟨by rw [xf h4,← hq,if_pos (by simpa using hc62)]; rfl,hs66.base⟩
   ·refine zn (qb (qi (qi (qc ?_))))
    refine qa rfl (qw (vs:=[vI ((l[0]'(by omega)).toNat : Int),vI ((l[1]'(by omega)).toNat : Int),vI ((l[2]'(by omega)).toNat : Int),vI ((l[3]'(by omega)).toNat : Int)]) rfl ag79 sz79 (Rd.of_blk (hs41.get 0 rfl) 0 4) rfl rfl ?_)
    refine qa rfl (zi (args:=[.agg #[vI ((l[0]'(by omega)).toNat : Int),vI ((l[1]'(by omega)).toNat : Int),vI ((l[2]'(by omega)).toNat : Int),vI ((l[3]'(by omega)).toNat : Int)]]) rfl rfl rfl en78 (rright_c (⟨((l[0]'(by omega)).toNat : Int),((l[1]'(by omega)).toNat : Int),((l[2]'(by omega)).toNat : Int),((l[3]'(by omega)).toNat : Int)⟩) _) ?_)
    rintro _ w67 ⟨rfl,hk69⟩
    have hs68:=hs41.keep hk69
    refine qa rfl (j0 (b:=(insS (⟨((l[0]'(by omega)).toNat : Int),((l[1]'(by omega)).toNat : Int),((l[2]'(by omega)).toNat : Int),((l[3]'(by omega)).toNat : Int)⟩))) rfl rfl ?_)
    refine ql (qb ?_)
    refine k5 (t:=(!(insS (⟨((l[0]'(by omega)).toNat : Int),((l[1]'(by omega)).toNat : Int),((l[2]'(by omega)).toNat : Int),((l[3]'(by omega)).toNat : Int)⟩)))) rfl (fun hc70=>?_) (fun hc70=>?_)
    ·try simp only [Bool.and_eq_true,Bool.or_eq_true,Bool.not_eq_true',Bool.and_eq_false_iff,Bool.or_eq_false_iff,Bool.not_eq_false',decide_eq_true_eq,decide_eq_false_iff_not,Bool.and_eq_false_imp] at hc70
     refine qi (qc ?_)
     refine qa rfl (jl (ps:=[]) (cells:=[vI 0,vI 0,vI 0,vI 0]) bt79 rfl rfl rfl ?_)
     refine qa rfl (zx (v:=.agg #[vI 0,vI 0,vI 0,vI 0]) (vs:=[vI 0,vI 0,vI 0,vI 0]) (cs':=[vI 0,vI 0,vI 0,vI 0]) hs68 1 rfl rfl rfl sz79 rfl rfl rfl rfl rfl ?_)
     intro w71 hs72
     refine qa rfl (qf (v:=vI 151) rfl rfl ?_)
     refine ql (qb (zo (q9 ?_)))
     refine ⟨.tuple #[.agg #[vI 0,vI 0,vI 0,vI 0],vI 151],resn [.agg #[vI 0,vI 0,vI 0,vI 0],vI 151] ⟨(xc rfl ag79 sz79 (vs:=[vI 0,vI 0,vI 0,vI 0]) (Rd.of_blk (hs72.get 1 rfl) 0 4) rfl),(rv_tmp rfl),trivial⟩ rfl,?_⟩
     have h4 : l.length = 4:=by omega
     have hwd : yc (l[0].toNat : Int) = false:=wide_of hne (by first|exact decide_eq_true ‹_›|exact decide_eq_false ‹_›)
     have hq:=(rw_thin (b0:=l[0]) (b1:=l[1]) (b2:=l[2]) (b3:=l[3]) hwd)
     exact ⟨by rw [xf h4,← hq,if_neg (by simpa using hc70)]; rfl,hs72.base⟩
    ·try simp only [Bool.and_eq_true,Bool.or_eq_true,Bool.not_eq_true',Bool.and_eq_false_iff,Bool.or_eq_false_iff,Bool.not_eq_false',decide_eq_true_eq,decide_eq_false_iff_not,Bool.and_eq_false_imp] at hc70
     refine zn (qb (qi (qc ?_)))
     refine qa rfl (qw (vs:=[vI ((l[0]'(by omega)).toNat : Int),vI ((l[1]'(by omega)).toNat : Int),vI ((l[2]'(by omega)).toNat : Int),vI ((l[3]'(by omega)).toNat : Int)]) rfl ag79 sz79 (Rd.of_blk (hs68.get 0 rfl) 0 4) rfl rfl ?_)
     refine qa rfl (zx (v:=.agg #[vI ((l[0]'(by omega)).toNat : Int),vI ((l[1]'(by omega)).toNat : Int),vI ((l[2]'(by omega)).toNat : Int),vI ((l[3]'(by omega)).toNat : Int)]) (vs:=[vI ((l[0]'(by omega)).toNat : Int),vI ((l[1]'(by omega)).toNat : Int),vI ((l[2]'(by omega)).toNat : Int),vI ((l[3]'(by omega)).toNat : Int)]) (cs':=[vI ((l[0]'(by omega)).toNat : Int),vI ((l[1]'(by omega)).toNat : Int),vI ((l[2]'(by omega)).toNat : Int),vI ((l[3]'(by omega)).toNat : Int)]) hs68 1 rfl rfl rfl sz79 rfl rfl rfl rfl rfl ?_)
     intro w73 hs74
     refine qa rfl (qf (v:=vI 0) rfl rfl ?_)
     refine ql (qb (zo ?_))
     refine ⟨.tuple #[.agg #[vI ((l[0]'(by omega)).toNat : Int),vI ((l[1]'(by omega)).toNat : Int),vI ((l[2]'(by omega)).toNat : Int),vI ((l[3]'(by omega)).toNat : Int)],vI 0],resn [.agg #[vI ((l[0]'(by omega)).toNat : Int),vI ((l[1]'(by omega)).toNat : Int),vI ((l[2]'(by omega)).toNat : Int),vI ((l[3]'(by omega)).toNat : Int)],vI 0] ⟨(xc rfl ag79 sz79 (vs:=[vI ((l[0]'(by omega)).toNat : Int),vI ((l[1]'(by omega)).toNat : Int),vI ((l[2]'(by omega)).toNat : Int),vI ((l[3]'(by omega)).toNat : Int)]) (Rd.of_blk (hs74.get 1 rfl) 0 4) rfl),(rv_tmp rfl),trivial⟩ rfl,?_⟩
     have h4 : l.length = 4:=by omega
     have hwd : yc (l[0].toNat : Int) = false:=wide_of hne (by first|exact decide_eq_true ‹_›|exact decide_eq_false ‹_›)
     have hq:=(rw_thin (b0:=l[0]) (b1:=l[1]) (b2:=l[2]) (b3:=l[3]) hwd)
     exact ⟨by rw [xf h4,← hq,if_pos (by simpa using hc70)]; rfl,hs74.base⟩

/-- seizin/seizinref15.All -/
theorem rall_c (a : Option Addr) (cap : Nat) (l : List UInt8) (w : World) (h : (arrI encB 1 a l).φ w) (hl : l.length ≤ 20000) (hcap : l.length ≤ cap) :
  C Try.prog 40 [.slice a l.length cap] w fun v w'=>(∃ a2 c2 n,v = .tuple #[.slice a2 (allS l).1.length c2,vI n,vI (allS l).2.2] ∧ (arrI xi 4 a2 (allS l).1).φ w' ∧ ∀ b,(arrI xi 4 a2 (allS l).1).fp b → w.heap.size ≤ b) ∧ Grow w w':=by
 have hs0 : St w (fun _=>False) w [] [arrI encB 1 a l]:=St.start w _ (by simpa using h)
 refine z8 [.tmp 2,.tmp 3,.tmp 4] 38 Try.func40 rfl Try.ntmps40 rfl rfl ?_
 refine qi (qc ?_)
 refine qa rfl (qf (v:=.slice none 0 0) rfl rfl ?_)
 refine qa rfl (qf (v:=vI 0) rfl rfl ?_)
 refine qa rfl (qf (v:=vI 0) rfl rfl ?_)
 refine ql (qb (qi (qc ?_)))
 refine qa rfl (qf (v:=.slice none 0 0) rfl rfl ?_)
 refine ql (qb (qi (qi (qc ?_))))
 refine qa rfl (qf (v:=vI 0) rfl rfl ?_)
 refine ql (qb (zy ?_))
 have hs1:=hs0.ownNil 79 4
 refine kw (fun m_ f_ w_=>∃ k : Nat,∃ a5 : Option Addr,∃ c5 : Nat,m_ = l.length + 4 - 4 * k ∧ (∀ i,i < k → j7 l i = 0) ∧ (4 * k < l.length + 4) ∧ f_ 0 = .slice a l.length cap ∧ f_ 5 = .slice a5 k c5 ∧ f_ 6 = vI ((4 * k : Nat) : Int) ∧ St w (fun _=>False) w_ [ownI 79 4 a5 c5 k (((List.range k).map (k9 l)).flatMap xi)] [arrI encB 1 a l]) ?_ ?_
 ·exact ⟨_,0,none,0,rfl,(fun _ h=>by omega),by omega,rfl,rfl,rfl,hs1⟩
 ·intro m5 f2 w3; rintro ⟨k,a5,c5,rfl,hb,hk,e6,e7,e8,hs4⟩
  rewrite [qm e6]
  rewrite [qm e7]
  rewrite [qm e8]
  refine qi (qi (qc ?_))
  refine qa rfl (qj (v:=vI ((4 * k : Nat) : Int)) rfl rfl ?_)
  refine qa rfl (qj (v:=.slice a l.length cap) rfl rfl ?_)
  refine qa rfl (qx (len:=l.length) rfl un27 rfl ?_)
  refine qa rfl (qt (k:=.i64) (k':=.i64) (a:=((4 * k : Nat) : Int)) (b:=((l.length : Nat) : Int)) rfl rfl rfl jg ?_)
  refine ql (qb ?_)
  refine zd rfl (fun hc9=>?_) (fun hc9=>?_)
  ·refine zn (qb (qi (zy (qi ?_))))
   have hck:=chunkN_le l.length k
   have hs10:=hs4.arrSub 0 rfl (4 * k) (kz l.length k) cap (by omega)
   refine qc ?_
   refine qa rfl (qj (v:=.slice a l.length cap) rfl rfl ?_)
   refine qa rfl (qj (v:=vI ((4 * k : Nat) : Int)) rfl rfl ?_)
   refine qa rfl (qj (v:=vI ((4 * k : Nat) : Int)) rfl rfl ?_)
   refine qa rfl (qt (v:=vI ((4 * k + 4 : Nat) : Int)) rfl rfl rfl (ki (qz (by omega) (by omega))) ?_)
   refine qa rfl (qj (v:=.slice a l.length cap) rfl rfl ?_)
   refine qa rfl (qx (len:=l.length) rfl un27 rfl ?_)
   refine qa rfl (O_minE (c:=((4 * k + kz l.length k : Nat) : Int)) rfl rfl (by unfold kz; split <;> split <;> omega) rfl ?_)
   refine qa rfl (O_slice (n':=kz l.length k) (c':=cap - (4 * k)) rfl un27 sz5 (Bds.lh rfl (rfl) rfl (rfl) (by omega) (by omega)) (by omega) (by omega) rfl ?_)
   refine qa rfl (zi (args:=[.slice (subA a (4 * k) cap 1) (kz l.length k) (cap - (4 * k))]) rfl rfl rfl en65 (rget_c (subA a (4 * k) cap 1) (cap - (4 * k)) (kz l.length k) (kg l k) _ (hs10.getR 0 rfl) (by exact yj l k) (by rw [yj]; have:=chunkN_le l.length k; omega)) ?_)
   rintro _ w11 ⟨rfl,hk13⟩
   have hs12:=hs10.keep hk13
   refine qa rfl (qj (v:=.tuple #[.agg #[vI ((getS (kg l k)).1.op),vI ((getS (kg l k)).1.a),vI ((getS (kg l k)).1.b),vI ((getS (kg l k)).1.c)],vI ((getS (kg l k)).2)]) rfl rfl ?_)
   refine qa rfl (jh (v:=.agg #[vI ((getS (kg l k)).1.op),vI ((getS (kg l k)).1.a),vI ((getS (kg l k)).1.b),vI ((getS (kg l k)).1.c)]) rfl rfl rfl ?_)
   refine qa rfl (jh (v:=vI ((getS (kg l k)).2)) rfl rfl rfl ?_)
   refine qa rfl (kk (cs:=[vI 0,vI 0,vI 0,vI 0]) hs12 zv79 rfl rfl ?_)
   intro b14 w15 hb17 hs16
   refine qa rfl (zx (v:=.agg #[vI ((getS (kg l k)).1.op),vI ((getS (kg l k)).1.a),vI ((getS (kg l k)).1.b),vI ((getS (kg l k)).1.c)]) (vs:=[vI ((getS (kg l k)).1.op),vI ((getS (kg l k)).1.a),vI ((getS (kg l k)).1.b),vI ((getS (kg l k)).1.c)]) (cs':=[vI ((getS (kg l k)).1.op),vI ((getS (kg l k)).1.a),vI ((getS (kg l k)).1.b),vI ((getS (kg l k)).1.c)]) hs16 0 rfl rfl rfl sz79 rfl rfl rfl rfl rfl ?_)
   intro w18 hs19
   refine qa rfl (qf (v:=vI ((getS (kg l k)).2)) rfl rfl ?_)
   refine ql (qb (qi (qi (qc ?_))))
   refine qa rfl (qj (v:=vI ((getS (kg l k)).2)) rfl rfl ?_)
   refine qa rfl (qt (k:=.i64) (k':=.i64) (a:=((getS (kg l k)).2)) (b:=0) rfl rfl rfl yd ?_)
   refine ql (qb ?_)
   refine zd rfl (fun hc20=>?_) (fun hc20=>?_)
   ·refine qi (qc ?_)
    refine qa rfl (qj (v:=vI ((4 * k : Nat) : Int)) rfl rfl ?_)
    refine qa rfl (qj (v:=vI ((getS (kg l k)).2)) rfl rfl ?_)
    refine qa rfl (qf (v:=.slice none 0 0) rfl rfl ?_)
    refine qa rfl (qf (v:=vI ((4 * k : Nat) : Int)) rfl rfl ?_)
    refine qa rfl (qf (v:=vI ((getS (kg l k)).2)) rfl rfl ?_)
    refine ql (qb (zo (q9 (zk (q9 (q9 (zk (q9 ?_))))))))
    refine ⟨.tuple #[.slice none 0 0,vI ((4 * k : Nat) : Int),vI ((getS (kg l k)).2)],res3 rfl rfl rfl,?_⟩
    have he:=allS_bad hb (by omega) hc20
    exact ⟨⟨none,0,((4 * k : Nat) : Int),by rw [he]; rfl,by rw [he]; exact (fun i h=>by cases h),by rw [he]; exact fun b h=>absurd rfl h.1⟩,hs19.base⟩
   ·refine zn (qb (qc ?_))
    refine qa rfl (qj (v:=.slice a5 k c5) rfl rfl ?_)
    refine qa rfl (qw (vs:=[vI ((getS (kg l k)).1.op),vI ((getS (kg l k)).1.a),vI ((getS (kg l k)).1.b),vI ((getS (kg l k)).1.c)]) rfl ag79 sz79 (Rd.of_blk (hs19.get 0 rfl) 0 4) rfl rfl ?_)
    refine qa rfl (zz (zs:=[vI 0,vI 0,vI 0,vI 0]) (ps:=[(0,[vI ((getS (kg l k)).1.op),vI ((getS (kg l k)).1.a),vI ((getS (kg l k)).1.b),vI ((getS (kg l k)).1.c)])]) (cs:=[vI ((getS (kg l k)).1.op),vI ((getS (kg l k)).1.a),vI ((getS (kg l k)).1.b),vI ((getS (kg l k)).1.c)]) hs19 un75 sz79 zv79 rfl rfl rfl rfl rfl ?_)
    intro b21 w22 hb24 hs23
    refine qa rfl (k7 (n2:=k + 1) (xs2:=((List.range (k + 1)).map (k9 l)).flatMap xi) hs23 2 rfl rfl rfl un75 ni75 inf79 rfl (Src.rd (news:=[vI ((getS (kg l k)).1.op),vI ((getS (kg l k)).1.a),vI ((getS (kg l k)).1.b),vI ((getS (kg l k)).1.c)]) (Rd.of_blk (hs23.get 0 rfl) 0 4) rfl rfl) (rfl) (ins_flat l k) (by omega) (by omega) rfl ?_)
    intro a25 c26 w27 hs28
    refine qa rfl (qf (v:=.slice a25 (k + 1) c26) rfl rfl ?_)
    refine ql (z7 (qb (qc ?_)))
    refine qa rfl (qj (v:=vI ((4 * k : Nat) : Int)) rfl rfl ?_)
    refine qa rfl (qt (v:=vI ((4 * (k + 1) : Nat) : Int)) rfl rfl rfl (ki (qz (by omega) (by omega))) ?_)
    refine qa rfl (qf (v:=vI ((4 * (k + 1) : Nat) : Int)) rfl rfl ?_)
    refine ql (qb ?_)
    refine ⟨_,?_,k + 1,a25,c26,rfl,bad_succ hb hc20,by omega,rfl,rfl,rfl,hs28.popR.popM.popM⟩
    omega
  ·refine ja (z0 (z0 (ke (qb (qi (qc ?_))))))
   refine qa rfl (qj (v:=.slice a5 k c5) rfl rfl ?_)
   refine qa rfl (qj (v:=.slice a l.length cap) rfl rfl ?_)
   refine qa rfl (qx (len:=l.length) rfl un27 rfl ?_)
   refine qa rfl (qf (v:=.slice a5 k c5) rfl rfl ?_)
   refine qa rfl (qf (v:=vI ((l.length : Nat) : Int)) rfl rfl ?_)
   refine qa rfl (qf (v:=vI 0) rfl rfl ?_)
   refine ql (qb (zo ?_))
   refine ⟨.tuple #[.slice a5 k c5,vI ((l.length : Nat) : Int),vI 0],res3 rfl rfl rfl,?_⟩
   have he:=allS_good hb (by omega) hk
   exact ⟨⟨a5,c5,((l.length : Nat) : Int),by rw [he]; simp,by rw [he]; exact jp (m:=4) (fun _=>rfl) (by decide) (hs4.get 0 rfl),by rw [he]; exact fun b h=>hs4.newB 0 rfl b h.2⟩,hs4.base⟩


end Go.Proofs.Ytgddigkdldnmdaa
