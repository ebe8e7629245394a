/- ImageWhere: whatever the input,it returns true; the input reads as it did. -/
import Derived.Test.YtgddigkdldnmdaaRows
import Derived.Test.YtgddigkdldnmdaaCWhere12
import Derived.WalkKit
import Derived.ProofKit
import Derived.OpenShut
import Derived.ShutString
import Derived.ChangeOld
import Derived.Below
import Derived.SizedLaws
namespace Go.Proofs.Ytgddigkdldnmdaa.imageWhere
open Go Go.Vg Go.Img Go.ChangeShapes Go.WideShapes Go.ChangeAt Go.RowKit
open Go.ChangeMaps (open_string shut_string)
set_option linter.unusedVariables false

theorem bo5 : Try.prog.bytesOf 5 = 1:=by kernel_rfl
theorem bo53 : Try.prog.bytesOf 53 = 32:=by kernel_rfl
theorem bo68 : Try.prog.bytesOf 68 = 24:=by kernel_rfl
theorem bo70 : Try.prog.bytesOf 70 = 16:=by kernel_rfl
theorem wf64 {n : Int} (h : (Lit.int .i64 n).wf = true) : -9223372036854775808 ≤ n ∧ n ≤ 9223372036854775807:=by
  simp [Lit.wf,IntKind.min,IntKind.max,IntKind.signed,IntKind.bits] at h; omega
theorem dcBytes : Dc Try.prog 27 1 (fun x : Option Addr × Nat × List UInt8=>[.slice x.1 x.2.2.length x.2.1]) (fun w x=>(arrI encB 1 x.1 x.2.2).φ w ∧ x.2.2.length ≤ x.2.1 ∧ (x.1 = none → x.2.1 = 0) ∧ x.2.2.length ≤ 200000000000000) :=
  ((Dc.slice Try.underlying27 (by decide) (by kernel_rfl) (Dc.u8 Try.underlying5))).to id (fun _=>rfl) (fun w x h=>⟨h.1,h.2.2.1,h.2.2.2.1,by
    have h1:=h.2.2.2.2; have h2:=h.2.2.1
    rw [bo5] at h1
    have : reachBytes = 140737488351232:=rfl
    show x.2.2.length ≤ _; omega⟩)
theorem dcComp : Dc Try.prog 53 2 zu (fun w c=>(arrI encB 1 c.a c.code).φ w ∧ c.code.length ≤ c.cap ∧ (c.a = none → c.cap = 0)) :=
  ((Dc.struct Try.underlying53 (by kernel_rfl) (DcF.cons rfl (by kernel_rfl) dcBytes (DcF.cons rfl (by kernel_rfl) (Dc.int Try.underlying3) DcF.nil)))).to (fun x=>(⟨x.1.1,x.1.2.1,x.1.2.2,x.2.1⟩ : CompV)) (fun _=>rfl) (fun w x h=>⟨h.1.1,h.1.2.1,h.1.2.2.1⟩)
theorem dcLink : Dc Try.prog 68 3 z1 (fun _ _=>True) :=
  ((Dc.struct Try.underlying68 (by kernel_rfl) (DcF.cons rfl (by kernel_rfl) (Dc.int Try.underlying3) (DcF.cons rfl (by kernel_rfl) (Dc.int Try.underlying3) (DcF.cons rfl (by kernel_rfl) (Dc.int Try.underlying3) DcF.nil))))).to (fun x=>(⟨x.1,x.2.1,x.2.2.1⟩ : LinkV)) (fun _=>rfl) (fun _ _ _=>trivial)
theorem dcShare : Dc Try.prog 70 2 zw (fun _ s=>s.wr ≤ 9223372036854775807) :=
  ((Dc.struct Try.underlying70 (by kernel_rfl) (DcF.cons rfl (by kernel_rfl) (Dc.int Try.underlying3) (DcF.cons rfl (by kernel_rfl) (Dc.int Try.underlying3) DcF.nil)))).to (fun x=>(⟨x.1,x.2.1⟩ : ShareV)) (fun _=>rfl) (fun _ x h=>(wf64 h.2.1).2)
theorem dcImage : Dc Try.prog 26 6 qn (fun w m=>(∀ i ∈ kh m,i.φ w) ∧ ImgI m) :=
  ((Dc.struct Try.underlying26 (by kernel_rfl) (DcF.cons rfl (by kernel_rfl) (Dc.bool Try.underlying4) (DcF.cons rfl (by kernel_rfl) (Dc.int Try.underlying3) (DcF.cons rfl (by kernel_rfl) (Dc.int Try.underlying3) (DcF.cons rfl (by kernel_rfl) (Dc.slice Try.underlying22 (by decide) (by kernel_rfl) dcComp) (DcF.cons rfl (by kernel_rfl) (Dc.slice Try.underlying23 (by decide) (by kernel_rfl) dcLink) (DcF.cons rfl (by kernel_rfl) (Dc.slice Try.underlying24 (by decide) (by kernel_rfl) dcShare) DcF.nil)))))))).to (fun x=>(⟨x.1,x.2.1,x.2.2.1,x.2.2.2.1.1,x.2.2.2.1.2.1,x.2.2.2.1.2.2,x.2.2.2.2.1.1,x.2.2.2.2.1.2.1,x.2.2.2.2.1.2.2,x.2.2.2.2.2.1.1,x.2.2.2.2.2.1.2.1,x.2.2.2.2.2.1.2.2⟩ : ImageV)) (fun _=>rfl) (fun w x h=>by
    obtain ⟨_,_,_,⟨c1,c2,c3,c4,c5⟩,⟨l1,l2,l3,l4,l5⟩,⟨s1,s2,s3,s4,s5⟩,_⟩:=h
    rw [bo53] at c5; rw [bo68] at l5; rw [bo70] at s5
    have hr : reachBytes = 140737488351232:=rfl
    refine ⟨?_,⟨?_,?_,?_,c3,l3,s3,c4,l4,s4,fun c hc=>(c2 c hc).2,s2⟩⟩
    · intro i hi
      simp only [kh,List.mem_cons,List.not_mem_nil,or_false] at hi
      rcases hi with rfl|rfl|rfl|rfl
      · exact c1
      · exact l1
      · exact s1
      · exact fun c hc=>(c2 c hc).1
    · show x.2.2.2.1.2.2.length ≤ _; omega
    · show x.2.2.2.2.1.2.2.length ≤ _; omega
    · show x.2.2.2.2.2.1.2.2.length ≤ _; omega)

theorem own : ownKnob Try.prog.godebug = none:=by kernel_rfl
theorem laidOut : laidOutB Try.prog = true:=by kernel_rfl
set_option maxRecDepth 100000 in
theorem lifted (os : Os) (started : os.Started) (H : Type) (enc : TypeId × Value → H) :
    ReturnsInHanded {} Try.checked os 4 .any (Rows.imageWhereSpec.pre6 enc Try.prog Try.f4 Rows.imageWhereRow.domain false) (Rows.imageWhereSpec.post enc Try.prog Try.f4 false true false false):=by
  refine returnsInHanded_of_change_sized (C:=Try.checked) own started (by kernel_rfl) Try.func4
    (ChangeSpec.witness6 (enc:=enc) (C:=Try.checked) false ⟨#[],#[.agg #[.bool false,.int .i64 0,.int .i64 0,.slice none 0 0,.slice none 0 0,.slice none 0 0],.int .i64 0],[]⟩ 8 (by kernel_rfl) (by kernel_rfl) (by kernel_rfl) (by kernel_rfl)) ?_
  intro W base args ds gs before hval0 hW hcnd hsz0 _
  have hsz : (DataW.weightsEach Try.prog (Try.f4.params.toList ++ Rows.imageWhereSpec.plain.varTypes Try.prog) (ds ++ gs)).all (· ≤ reachBytes) = true:=hsz0
  have hval : ∀ (j : Nat) t v,Try.f4.params[j]? = some t → args[j]? = some v → Value.okWide Try.prog W .any base t v:=hval0
  have hW':=hW
  obtain ⟨p,q,hA0,hV,rfl,hfz,hnd⟩:=hW
  have hA : DataW.TrodAll enc Try.prog W 0 (fun _=>true) true Try.f4.params.toList args.toList ds p:=hA0
  rw [Try.params4] at hA hval hsz
  obtain ⟨v0,vs0,d0,ds0,p0,q0,hargs,rfl,rfl,h0,r0⟩:=trodAll_cons hA
  obtain ⟨v1,vs1,d1,ds1,p1,q1,rfl,rfl,rfl,h1,r1⟩:=trodAll_cons r0
  obtain ⟨rfl,rfl,rfl⟩:=trodAll_nil r1
  obtain rfl : args = #[v0,v1]:=by cases args; simp_all
  obtain ⟨rfl,rfl⟩:=trodVars_none hV
  have k0:=h0
  have lt0:=trod_places h0
  have ok0:=hval 0 26 v0 rfl rfl
  obtain ⟨x0,e0,Q0⟩:=Dc.arg dcImage h0 (j:=0) hsz rfl rfl
  obtain ⟨cs0,rfl,_⟩:=okWide_struct Try.underlying26 ok0
  obtain rfl:=Value.agg.inj (agg_of e0)
  obtain ⟨hm,hI⟩:=Q0
  have k1:=h1
  have lt1:=trod_places h1
  have ok1:=hval 1 3 v1 rfl rfl
  obtain ⟨x1,e1,Q1⟩:=Dc.arg (Dc.int Try.underlying3) h1 (j:=1) hsz rfl rfl
  obtain ⟨n1,rfl⟩:=okWide_int Try.underlying3 ok1
  obtain ⟨-,rfl⟩:=Value.int.inj (show Value.int .i64 n1 = .int .i64 x1 from (List.cons.inj e1).1)
  clear hA0 hval0 hsz0 hsz
  refine (C.fin (iwhere_c x0 n1 W hm hI)).mono fun e W' ⟨he,bel⟩=>?_
  subst he
  exact ⟨_,rfl,_,_,_,[],_,[],hW',trodAll_mk1 (shut_bool Try.underlying4 _),(trodAll_cons_mk (Below.trod laidOut (by kernel_rfl) (of_decide_eq_true (by kernel_rfl)) k0 bel lt0) (trodAll_cons_mk (Below.trod laidOut (by kernel_rfl) (of_decide_eq_true (by kernel_rfl)) k1 bel lt1) trodAll_mk0)),rfl,bel.frame _,fun h=>by cases h⟩
theorem over : Rows.imageWhereRow.holds Try.pinned (OpenSpec.ofChange Rows.imageWhereSpec) :=
  OpenClaim.holds_of_wide 4 Try.f4 rfl rfl rfl rfl rfl rfl rfl ⟨rfl,rfl,rfl,rfl,rfl⟩ rfl rfl rfl rfl rfl (by kernel_rfl) Try.func4 (by kernel_rfl)
    (of_decide_eq_true (by kernel_rfl)) (by unfold Func.isWrapper; first|(rw [if_pos (by decide +kernel)]; kernel_rfl)|(rw [if_neg (by decide +kernel)]; exact ⟨rfl,rfl⟩))
    (fun os started H enc _=>lifted os started H enc)
theorem proved : Rows.ImageWhereSaid:=over
end Go.Proofs.Ytgddigkdldnmdaa.imageWhere
namespace Go.Proofs.Ytgddigkdldnmdaa
/-- The row,under a short name,for the claim. -/
theorem imageWhere_holds : Rows.ImageWhereSaid:=imageWhere.proved
#print axioms imageWhere_holds
end Go.Proofs.Ytgddigkdldnmdaa
