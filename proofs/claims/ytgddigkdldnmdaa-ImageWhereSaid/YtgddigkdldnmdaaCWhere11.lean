import Derived.Test.YtgddigkdldnmdaaCWhere10
namespace Go.Proofs.Ytgddigkdldnmdaa
open Go Go.Vg Go.Img
set_option linter.unusedSimpArgs false
set_option maxHeartbeats 4000000
theorem stood68 : Try.prog.stoodInHeld 68 = false:=by kernel_rfl
theorem eqg68 : Try.prog.eqGuardType Try.prog.depth 68 = false:=by kernel_rfl
theorem stood70 : Try.prog.stoodInHeld 70 = false:=by kernel_rfl
theorem eqg70 : Try.prog.eqGuardType Try.prog.depth 70 = false:=by kernel_rfl
theorem eqg51 : Try.prog.eqGuardType Try.prog.depth 51 = false:=by kernel_rfl
theorem stood39 : Try.prog.stoodInHeld 39 = false:=by kernel_rfl
theorem eqg39 : Try.prog.eqGuardType Try.prog.depth 39 = false:=by kernel_rfl
theorem en43 : ∀ args w,(callFunc 43 args).run Try.prog w = .ok (.enter 43 args) w:=fun args w=>qy Try.func43 (by kernel_rfl) rfl args w
theorem en47 : ∀ args w,(callFunc 47 args).run Try.prog w = .ok (.enter 47 args) w:=fun args w=>qy Try.func47 (by kernel_rfl) rfl args w
theorem fd39_2 : FdAt Try.prog 39 2 2 1 false:=FdAt.mk' _ _ Try.underlying39 rfl rfl (fun _=>by kernel_rfl) (fun _=>by kernel_rfl)
theorem fd39_4 : FdAt Try.prog 39 4 4 1 false:=FdAt.mk' _ _ Try.underlying39 rfl rfl (fun _=>by kernel_rfl) (fun _=>by kernel_rfl)
theorem en48 : ∀ args w,(callFunc 48 args).run Try.prog w = .ok (.enter 48 args) w:=fun args w=>qy Try.func48 (by kernel_rfl) rfl args w
theorem fd39_0 : FdAt Try.prog 39 0 0 1 false:=FdAt.mk' _ _ Try.underlying39 rfl rfl (fun _=>by kernel_rfl) (fun _=>by kernel_rfl)

theorem sl_snoc {α : Type} {l l2 : List α} {k : Nat} (h : l.take k = l2.take k) (h1 : k < l.length) (h2 : k < l2.length) (hx : l[k] = l2[k]) : l.take (k + 1) = l2.take (k + 1):=by
 rw [List.take_succ_eq_append_getElem h1,List.take_succ_eq_append_getElem h2,h,hx]
theorem sl_snocM {α β : Type} {g : α → β} {l l2 : List α} {k : Nat} (h : (l.take k).map g = (l2.take k).map g) (h1 : k < l.length) (h2 : k < l2.length) (hx : g l[k] = g l2[k]) : (l.take (k + 1)).map g = (l2.take (k + 1)).map g:=by
 rw [List.take_succ_eq_append_getElem h1,List.take_succ_eq_append_getElem h2,List.map_append,List.map_append,h,List.map_singleton,List.map_singleton,hx]
theorem sl_eq {α : Type} {l l2 : List α} {k : Nat} (h : l.take k = l2.take k) (h1 : l.length ≤ k) (h2 : l2.length ≤ k) : l = l2:=by rw [List.take_of_length_le h1,List.take_of_length_le h2] at h; exact h
theorem sl_allM {α β : Type} {g : α → β} {l l2 : List α} {k : Nat} (h : (l.take k).map g = (l2.take k).map g) (h1 : l.length ≤ k) (h2 : l2.length ≤ k) : l.map g = l2.map g:=by rw [List.take_of_length_le h1,List.take_of_length_le h2] at h; exact h
theorem sl_ne {α : Type} {l l2 : List α} {k : Nat} (h1 : k < l.length) (h2 : k < l2.length) (h : ¬ l[k] = l2[k]) : ¬ l = l2:=by rintro rfl; exact h rfl
theorem eq_pair (x y : Int × Int) : (decide (x.1 = y.1) && (decide (x.2 = y.2) && true)) = decide (x = y):=by
 rw [Bool.eq_iff_iff]; simp only [Bool.and_eq_true,decide_eq_true_eq,and_true,Prod.ext_iff]
theorem eq_cap (x y : CapV) : (decide (x.tag = y.tag) && (decide (x.base = y.base) && (decide (x.top = y.top) && (decide (x.pos = y.pos) && (decide (x.perms = y.perms) && (decide (x.ty = y.ty) && true)))))) = decide (x = y):=by
 rw [Bool.eq_iff_iff]; cases x; cases y; simp
theorem eq_link (x y : LinkV) : (decide (x.fr = y.fr) && (decide (x.to = y.to) && (decide (x.ad = y.ad) && true))) = decide (x = y):=by
 rw [Bool.eq_iff_iff]; cases x; cases y; simp
theorem eq_share (x y : ShareV) : (decide (x.rd = y.rd) && (decide (x.wr = y.wr) && true)) = decide (x = y):=by
 rw [Bool.eq_iff_iff]; cases x; cases y; simp
theorem comp_canon (c c2 : CompV) : c.canon = c2.canon ↔ c.code = c2.code ∧ c.data = c2.data:=by cases c; cases c2; simp [CompV.canon]
theorem same_compT {c c2 : CompV} (h : ((!decide ((⟨c.code.toArray⟩ : ByteArray).toList = (⟨c2.code.toArray⟩ : ByteArray).toList)) || decide (c.data ≠ c2.data)) = true) : ¬ c.canon = c2.canon:=by
 intro e
 obtain ⟨e1,e2⟩:=(comp_canon c c2).1 e
 rw [e1,e2] at h; simp at h
theorem same_compF {c c2 : CompV} (h : ((!decide ((⟨c.code.toArray⟩ : ByteArray).toList = (⟨c2.code.toArray⟩ : ByteArray).toList)) || decide (c.data ≠ c2.data)) = false) : c.canon = c2.canon:=by
 rw [yp,yp] at h
 simp at h
 exact (comp_canon c c2).2 h
def SE (m m2 : ImageV) : Bool:=(((((!decide (m.strict = m2.strict)) || decide (m.heap ≠ m2.heap)) || decide (m.full ≠ m2.full)) || decide (((m.comps.length : Nat) : Int) ≠ ((m2.comps.length : Nat) : Int))) || decide (((m.links.length : Nat) : Int) ≠ ((m2.links.length : Nat) : Int))) || decide (((m.shares.length : Nat) : Int) ≠ ((m2.shares.length : Nat) : Int))
structure SameE (m m2 : ImageV) : Prop where
 st : m.strict = m2.strict
 hp : m.heap = m2.heap
 fu : m.full = m2.full
 l1 : m.comps.length = m2.comps.length
 l2 : m.links.length = m2.links.length
 l3 : m.shares.length = m2.shares.length
theorem SE_iff (m m2 : ImageV) : SE m m2 = false ↔ SameE m m2:=by
 unfold SE
 simp only [Bool.or_eq_false_iff,Bool.not_eq_false',decide_eq_true_eq,decide_eq_false_iff_not,ne_eq,Decidable.not_not]
 constructor
 ·rintro ⟨⟨⟨⟨⟨h1,h2⟩,h3⟩,h4⟩,h5⟩,h6⟩
  exact ⟨h1,h2,h3,by omega,by omega,by omega⟩
 ·rintro ⟨h1,h2,h3,h4,h5,h6⟩
  exact ⟨⟨⟨⟨⟨h1,h2⟩,h3⟩,by omega⟩,by omega⟩,by omega⟩
theorem same_E {m m2 : ImageV} (h : SE m m2 = false) : SameE m m2:=(SE_iff m m2).1 h
theorem canon_E {m m2 : ImageV} (h : m.canon = m2.canon) : SameE m m2 ∧ m.comps.map CompV.canon = m2.comps.map CompV.canon ∧ m.links = m2.links ∧ m.shares = m2.shares:=by
 simp only [ImageV.canon,ImageV.mk.injEq,true_and] at h
 obtain ⟨h1,h2,h3,h4,h5,h6⟩:=h
 exact ⟨⟨h1,h2,h3,by have:=congrArg List.length h4; simpa using this,by rw [h5],by rw [h6]⟩,h4,h5,h6⟩
theorem same_0 {m m2 : ImageV} (h : SE m m2 = true) : ¬ m.canon = m2.canon:=by
 intro e
 rw [(SE_iff m m2).2 (canon_E e).1] at h; cases h
theorem same_yes {m m2 : ImageV} (hE : SameE m m2) (h1 : m.comps.map CompV.canon = m2.comps.map CompV.canon) (h2 : m.links = m2.links) (h3 : m.shares = m2.shares) : m.canon = m2.canon:=by
 unfold ImageV.canon
 rw [h1,h2,h3,hE.st,hE.hp,hE.fu]
theorem same_n1 {m m2 : ImageV} {k : Nat} (h1 : k < m.comps.length) (h2 : k < m2.comps.length) (h : ¬ (m.comps[k]).canon = (m2.comps[k]).canon) : ¬ m.canon = m2.canon:=by
 intro e
 have e1:=(canon_E e).2.1
 have e2 : (m.comps.map CompV.canon)[k]? = (m2.comps.map CompV.canon)[k]?:=by rw [e1]
 rw [List.getElem?_map,List.getElem?_map,List.getElem?_eq_getElem h1,List.getElem?_eq_getElem h2] at e2
 exact h (by simpa using e2)
theorem same_n2 {m m2 : ImageV} {k : Nat} (h1 : k < m.links.length) (h2 : k < m2.links.length) (h : ¬ m.links[k] = m2.links[k]) : ¬ m.canon = m2.canon:=by
 intro e
 exact sl_ne h1 h2 h (canon_E e).2.2.1
theorem same_n3 {m m2 : ImageV} {k : Nat} (h1 : k < m.shares.length) (h2 : k < m2.shares.length) (h : ¬ m.shares[k] = m2.shares[k]) : ¬ m.canon = m2.canon:=by
 intro e
 exact sl_ne h1 h2 h (canon_E e).2.2.2
instance : DecidableEq LayV:=fun a b=>by
 cases a; cases b
 simp only [LayV.mk.injEq]
 infer_instance
def LE0 (L L2 : LayV) : Bool:=((((!decide (L.codes = L2.codes)) || (!decide (L.datas = L2.datas))) || (!decide (L.heaps = L2.heaps))) || decide (((L.shs.length : Nat) : Int) ≠ ((L2.shs.length : Nat) : Int))) || decide (L.pages ≠ L2.pages)
theorem lay_iff (L L2 : LayV) : LE0 L L2 = false ↔ L.codes = L2.codes ∧ L.datas = L2.datas ∧ L.heaps = L2.heaps ∧ L.shs.length = L2.shs.length ∧ L.pages = L2.pages:=by
 unfold LE0
 simp only [Bool.or_eq_false_iff,Bool.not_eq_false',decide_eq_true_eq,decide_eq_false_iff_not,ne_eq,Decidable.not_not,Int.ofNat_inj,and_assoc]
theorem lay_E {L L2 : LayV} (h : LE0 L L2 = false) : L.codes = L2.codes ∧ L.datas = L2.datas ∧ L.heaps = L2.heaps ∧ L.shs.length = L2.shs.length ∧ L.pages = L2.pages:=(lay_iff L L2).1 h
theorem lay_no {L L2 : LayV} (h : LE0 L L2 = true) : decide (L = L2) = false:=by
 apply decide_eq_false
 rintro rfl
 rw [(lay_iff L L).2 ⟨rfl,rfl,rfl,rfl,rfl⟩] at h; cases h
theorem lay_yes {L L2 : LayV} (h : L.codes = L2.codes ∧ L.datas = L2.datas ∧ L.heaps = L2.heaps ∧ L.shs.length = L2.shs.length ∧ L.pages = L2.pages) (h4 : L.shs = L2.shs) : decide (L = L2) = true:=by
 apply decide_eq_true
 cases L; cases L2
 simp only [LayV.mk.injEq]
 exact ⟨h.1,h.2.1,h.2.2.1,h4,h.2.2.2.2⟩
theorem lay_no4 {L L2 : LayV} (h : ¬ L.shs = L2.shs) : decide (L = L2) = false:=decide_eq_false fun e=>h (by rw [e])
/-- is a capability right? -/
def capA (c : CapV) : Bool:=(((((!(decide (0 ≤ c.base) && decide (c.base ≤ 4294967295))) || (!(decide (0 ≤ c.top) && decide (c.top ≤ 4294967295)))) || (!(decide (0 ≤ c.pos) && decide (c.pos ≤ 4294967295)))) || (!(decide (0 ≤ c.perms) && decide (c.perms ≤ 127)))) || decide (c.ty < 0)) || decide (255 < c.ty)
def capR (c : CapV) : Bool:=!capA c && (!c.tag || (decide (c.base ≤ c.top) && decide (c.top ≤ 16777216)))
theorem capR_no {tag : Bool} {base top pos perms ty : Int} (h : capA ⟨tag,base,top,pos,perms,ty⟩ = true) : capR ⟨tag,base,top,pos,perms,ty⟩ = false:=by unfold capR; rw [h]; rfl
theorem capR_f {base top pos perms ty : Int} (h : capA ⟨false,base,top,pos,perms,ty⟩ = false) : capR ⟨false,base,top,pos,perms,ty⟩ = true:=by unfold capR; rw [h]; rfl
theorem capR_t {base top pos perms ty : Int} (h : capA ⟨true,base,top,pos,perms,ty⟩ = false) : capR ⟨true,base,top,pos,perms,ty⟩ = (decide (base ≤ top) && decide (top ≤ 16777216)):=by unfold capR; rw [h]; rfl
def capIn (c : CapV) (a n : Int) : Bool:=(((decide (0 ≤ a) && decide (0 ≤ n)) && decide (c.base ≤ a)) && decide (a ≤ c.top)) && decide (n ≤ c.top - a)
theorem capIn_eq (c : CapV) (a n : Int) : ((((decide (0 ≤ a) && decide (0 ≤ n)) && decide (c.base ≤ a)) && decide (a ≤ c.top)) && decide (n ≤ c.top - a)) = capIn c a n:=rfl
theorem capin_max {a n b t : Int} (h : (((decide (0 ≤ a) && decide (0 ≤ n)) && decide (b ≤ a)) && decide (a ≤ t)) = true) : (if a < 0 then 0 else a) = a:=by
 simp only [Bool.and_eq_true,decide_eq_true_eq] at h
 rw [if_neg (by omega)]
theorem capin_sub {a n b t : Int} (h : (((decide (0 ≤ a) && decide (0 ≤ n)) && decide (b ≤ a)) && decide (a ≤ t)) = true) (ht : -9223372036854775808 ≤ t ∧ t ≤ 9223372036854775807) (_ha : a ≤ 9223372036854775807) : -9223372036854775808 ≤ t - a ∧ t - a ≤ 9223372036854775807:=by
 simp only [Bool.and_eq_true,decide_eq_true_eq] at h
 omega
structure GreatOk (m : ImageV) : Prop where
 c : m.comps.length ≤ 900
 l : m.links.length ≤ 20000
 s : m.shares.length ≤ 20000
 code : ∀ c ∈ m.comps,c.code.length ≤ 20000
theorem min_nat (n : Nat) : (if (20000 : Int) < ((n : Nat) : Int) then (20000 : Int) else ((n : Nat) : Int)) = ((min n 20000 : Nat) : Int):=by split <;> omega
theorem great_snoc {m : ImageV} {k : Nat} (h : ∀ c ∈ m.comps.take k,c.code.length ≤ 20000) (hk : k < m.comps.length) (hc : (m.comps[k]).code.length ≤ 20000) : ∀ c ∈ m.comps.take (k + 1),c.code.length ≤ 20000:=by
 intro c hm
 rw [List.take_succ_eq_append_getElem hk,List.mem_append,List.mem_singleton] at hm
 rcases hm with hm|rfl
 ·exact h c hm
 ·exact hc
theorem great_end {m : ImageV} {k n : Nat} (h1 : m.comps.length + m.links.length + m.shares.length ≤ n) (hg : n < 20000 → ∀ c ∈ m.comps.take k,c.code.length ≤ 20000) (hk : k ≤ m.comps.length) (hc : (decide (((k : Nat) : Int) < ((m.comps.length : Nat) : Int)) && decide (((n : Nat) : Int) < 20000)) = false)
  (hb : ((decide ((20000 : Int) ≤ ((n : Nat) : Int))) || decide ((900 : Int) < ((m.comps.length : Nat) : Int))) = false) : GreatOk m:=by
 simp only [Bool.or_eq_false_iff,decide_eq_false_iff_not] at hb
 have hn : n < 20000:=by omega
 simp only [Bool.and_eq_false_iff,decide_eq_false_iff_not] at hc
 have hk' : m.comps.length ≤ k:=by rcases hc with hc|hc <;> omega
 have:=hg hn
 rw [List.take_of_length_le hk'] at this
 exact ⟨by omega,by omega,by omega,this⟩

set_option maxHeartbeats 3000000 in
/-- seizin/seizinref17.Same -/
theorem same_c (m m2 : ImageV) (w : World) (hm : ∀ i ∈ kh m ++ kh m2,i.φ w) (hb : ImgB m) (hb2 : ImgB m2) :
  C Try.prog 18 [.agg (qn m).toArray,.agg #[.bool m2.strict,vI m2.heap,vI m2.full,.slice m2.ca m2.comps.length m2.ccap,.slice m2.la m2.links.length m2.lcap,.slice m2.sa m2.shares.length m2.scap]] w fun v w'=>(∃ b,v = .bool b ∧ (b = true ↔ m.canon = m2.canon)) ∧ Grow w w':=by
 have hs0 : St w (fun _=>False) w [] [arrI zu 2 m.ca m.comps,arrI z1 3 m.la m.links,arrI zw 2 m.sa m.shares,ko m.comps,arrI zu 2 m2.ca m2.comps,arrI z1 3 m2.la m2.links,arrI zw 2 m2.sa m2.shares,ko m2.comps]:=St.start w _ hm
 refine z8 [.tmp 4] 127 Try.func18 rfl Try.ntmps18 rfl rfl ?_
 refine qi (qc ?_)
 refine qa rfl (jw (v:=.agg (qn m).toArray) (cs:=(qn m)) hs0 rfl rfl rfl ?_)
 intro b1 w2 hb4 hs3
 refine qa rfl (jw (v:=.agg #[.bool m2.strict,vI m2.heap,vI m2.full,.slice m2.ca m2.comps.length m2.ccap,.slice m2.la m2.links.length m2.lcap,.slice m2.sa m2.shares.length m2.scap]) (cs:=[.bool m2.strict,vI m2.heap,vI m2.full,.slice m2.ca m2.comps.length m2.ccap,.slice m2.la m2.links.length m2.lcap,.slice m2.sa m2.shares.length m2.scap]) hs3 rfl rfl rfl ?_)
 intro b5 w6 hb8 hs7
 refine qa rfl (qf (v:=.bool false) rfl rfl ?_)
 refine ql (qb (qi (qi (qc ?_))))
 refine qa rfl (qg rfl fd26_0 rfl (o':=0) rfl rfl ?_)
 refine qa rfl (qq (v:=.bool m.strict) rfl ag4 (qh (hs7.get 1 rfl) rfl) rfl ?_)
 refine qa rfl (qg rfl fd26_0 rfl (o':=0) rfl rfl ?_)
 refine qa rfl (qq (v:=.bool m2.strict) rfl ag4 (qh (hs7.get 0 rfl) rfl) rfl ?_)
 refine qa rfl (O_binv (a:=.bool m.strict) (b:=.bool m2.strict) rfl rfl rfl eg_bool (b_neq_bool un4) ?_)
 refine qa rfl (qj (v:=.bool (!decide (m.strict = m2.strict))) rfl rfl ?_)
 refine q4 (v:=.pointer (some ⟨b1,1,none⟩)) rfl rfl rfl rfl (fun hg9=>qg rfl fd26_1 rfl (o':=1) rfl rfl ⟨rfl,rfl⟩) ?_
 refine q4 (v:=vI m.heap) rfl rfl rfl rfl (fun hg10=>qq (v:=vI m.heap) (show ev _ _ = .pointer (some ⟨b1,1,none⟩) from if_pos hg10) ag3 (qh (hs7.get 1 rfl) rfl) rfl ⟨rfl,rfl⟩) ?_
 refine q4 (v:=.pointer (some ⟨b5,1,none⟩)) rfl rfl rfl rfl (fun hg11=>qg rfl fd26_1 rfl (o':=1) rfl rfl ⟨rfl,rfl⟩) ?_
 refine q4 (v:=vI m2.heap) rfl rfl rfl rfl (fun hg12=>qq (v:=vI m2.heap) (show ev _ _ = .pointer (some ⟨b5,1,none⟩) from if_pos hg12) ag3 (qh (hs7.get 0 rfl) rfl) rfl ⟨rfl,rfl⟩) ?_
 refine q4 (v:=.bool (decide (m.heap ≠ m2.heap))) rfl rfl rfl rfl (fun hg13=>qt (k:=.i64) (k':=.i64) (a:=m.heap) (b:=m2.heap) (show ev _ _ = vI m.heap from if_pos hg13) (show ev _ _ = vI m2.heap from if_pos hg13) rfl yd ⟨rfl,rfl⟩) ?_
 obtain ⟨B14,hB14⟩ : ∃ b : Bool,b = ((!decide (m.strict = m2.strict)) || decide (m.heap ≠ m2.heap)):=⟨_,rfl⟩
 refine qa rfl (ka (v:=.bool B14) rfl (Eq.trans (jk _ _) (congrArg Value.bool hB14.symm)) rfl ?_)
 refine qa rfl (qj (v:=.bool B14) rfl rfl ?_)
 refine q4 (v:=.pointer (some ⟨b1,2,none⟩)) rfl rfl rfl rfl (fun hg15=>qg rfl fd26_2 rfl (o':=2) rfl rfl ⟨rfl,rfl⟩) ?_
 refine q4 (v:=vI m.full) rfl rfl rfl rfl (fun hg16=>qq (v:=vI m.full) (show ev _ _ = .pointer (some ⟨b1,2,none⟩) from if_pos hg16) ag3 (qh (hs7.get 1 rfl) rfl) rfl ⟨rfl,rfl⟩) ?_
 refine q4 (v:=.pointer (some ⟨b5,2,none⟩)) rfl rfl rfl rfl (fun hg17=>qg rfl fd26_2 rfl (o':=2) rfl rfl ⟨rfl,rfl⟩) ?_
 refine q4 (v:=vI m2.full) rfl rfl rfl rfl (fun hg18=>qq (v:=vI m2.full) (show ev _ _ = .pointer (some ⟨b5,2,none⟩) from if_pos hg18) ag3 (qh (hs7.get 0 rfl) rfl) rfl ⟨rfl,rfl⟩) ?_
 refine q4 (v:=.bool (decide (m.full ≠ m2.full))) rfl rfl rfl rfl (fun hg19=>qt (k:=.i64) (k':=.i64) (a:=m.full) (b:=m2.full) (show ev _ _ = vI m.full from if_pos hg19) (show ev _ _ = vI m2.full from if_pos hg19) rfl yd ⟨rfl,rfl⟩) ?_
 obtain ⟨B20,hB20⟩ : ∃ b : Bool,b = (B14 || decide (m.full ≠ m2.full)):=⟨_,rfl⟩
 refine qa rfl (ka (v:=.bool B20) rfl (Eq.trans (jk _ _) (congrArg Value.bool hB20.symm)) rfl ?_)
 refine qa rfl (qj (v:=.bool B20) rfl rfl ?_)
 refine q4 (v:=.pointer (some ⟨b1,3,none⟩)) rfl rfl rfl rfl (fun hg21=>qg rfl jq rfl (o':=3) rfl rfl ⟨rfl,rfl⟩) ?_
 refine q4 (v:=.slice m.ca m.comps.length m.ccap) rfl rfl rfl rfl (fun hg22=>qq (v:=.slice m.ca m.comps.length m.ccap) (show ev _ _ = .pointer (some ⟨b1,3,none⟩) from if_pos hg22) ag22 (qh (hs7.get 1 rfl) rfl) rfl ⟨rfl,rfl⟩) ?_
 refine q4 (v:=vI ((m.comps.length : Nat) : Int)) rfl rfl rfl rfl (fun hg23=>qx (len:=m.comps.length) (show ev _ _ = .slice m.ca m.comps.length m.ccap from if_pos hg23) un22 rfl ⟨rfl,rfl⟩) ?_
 refine q4 (v:=.pointer (some ⟨b5,3,none⟩)) rfl rfl rfl rfl (fun hg24=>qg rfl jq rfl (o':=3) rfl rfl ⟨rfl,rfl⟩) ?_
 refine q4 (v:=.slice m2.ca m2.comps.length m2.ccap) rfl rfl rfl rfl (fun hg25=>qq (v:=.slice m2.ca m2.comps.length m2.ccap) (show ev _ _ = .pointer (some ⟨b5,3,none⟩) from if_pos hg25) ag22 (qh (hs7.get 0 rfl) rfl) rfl ⟨rfl,rfl⟩) ?_
 refine q4 (v:=vI ((m2.comps.length : Nat) : Int)) rfl rfl rfl rfl (fun hg26=>qx (len:=m2.comps.length) (show ev _ _ = .slice m2.ca m2.comps.length m2.ccap from if_pos hg26) un22 rfl ⟨rfl,rfl⟩) ?_
 refine q4 (v:=.bool (decide (((m.comps.length : Nat) : Int) ≠ ((m2.comps.length : Nat) : Int)))) rfl rfl rfl rfl (fun hg27=>qt (k:=.i64) (k':=.i64) (a:=((m.comps.length : Nat) : Int)) (b:=((m2.comps.length : Nat) : Int)) (show ev _ _ = vI ((m.comps.length : Nat) : Int) from if_pos hg27) (show ev _ _ = vI ((m2.comps.length : Nat) : Int) from if_pos hg27) rfl yd ⟨rfl,rfl⟩) ?_
 obtain ⟨B28,hB28⟩ : ∃ b : Bool,b = (B20 || (decide (((m.comps.length : Nat) : Int) ≠ ((m2.comps.length : Nat) : Int)))):=⟨_,rfl⟩
 refine qa rfl (ka (v:=.bool B28) rfl (Eq.trans (jk _ _) (congrArg Value.bool hB28.symm)) rfl ?_)
 refine qa rfl (qj (v:=.bool B28) rfl rfl ?_)
 refine q4 (v:=.pointer (some ⟨b1,4,none⟩)) rfl rfl rfl rfl (fun hg29=>qg rfl xx rfl (o':=4) rfl rfl ⟨rfl,rfl⟩) ?_
 refine q4 (v:=.slice m.la m.links.length m.lcap) rfl rfl rfl rfl (fun hg30=>qq (v:=.slice m.la m.links.length m.lcap) (show ev _ _ = .pointer (some ⟨b1,4,none⟩) from if_pos hg30) ag23 (qh (hs7.get 1 rfl) rfl) rfl ⟨rfl,rfl⟩) ?_
 refine q4 (v:=vI ((m.links.length : Nat) : Int)) rfl rfl rfl rfl (fun hg31=>qx (len:=m.links.length) (show ev _ _ = .slice m.la m.links.length m.lcap from if_pos hg31) un23 rfl ⟨rfl,rfl⟩) ?_
 refine q4 (v:=.pointer (some ⟨b5,4,none⟩)) rfl rfl rfl rfl (fun hg32=>qg rfl xx rfl (o':=4) rfl rfl ⟨rfl,rfl⟩) ?_
 refine q4 (v:=.slice m2.la m2.links.length m2.lcap) rfl rfl rfl rfl (fun hg33=>qq (v:=.slice m2.la m2.links.length m2.lcap) (show ev _ _ = .pointer (some ⟨b5,4,none⟩) from if_pos hg33) ag23 (qh (hs7.get 0 rfl) rfl) rfl ⟨rfl,rfl⟩) ?_
 refine q4 (v:=vI ((m2.links.length : Nat) : Int)) rfl rfl rfl rfl (fun hg34=>qx (len:=m2.links.length) (show ev _ _ = .slice m2.la m2.links.length m2.lcap from if_pos hg34) un23 rfl ⟨rfl,rfl⟩) ?_
 refine q4 (v:=.bool (decide (((m.links.length : Nat) : Int) ≠ ((m2.links.length : Nat) : Int)))) rfl rfl rfl rfl (fun hg35=>qt (k:=.i64) (k':=.i64) (a:=((m.links.length : Nat) : Int)) (b:=((m2.links.length : Nat) : Int)) (show ev _ _ = vI ((m.links.length : Nat) : Int) from if_pos hg35) (show ev _ _ = vI ((m2.links.length : Nat) : Int) from if_pos hg35) rfl yd ⟨rfl,rfl⟩) ?_
 obtain ⟨B36,hB36⟩ : ∃ b : Bool,b = (B28 || (decide (((m.links.length : Nat) : Int) ≠ ((m2.links.length : Nat) : Int)))):=⟨_,rfl⟩
 refine qa rfl (ka (v:=.bool B36) rfl (Eq.trans (jk _ _) (congrArg Value.bool hB36.symm)) rfl ?_)
 refine qa rfl (qj (v:=.bool B36) rfl rfl ?_)
 refine q4 (v:=.pointer (some ⟨b1,5,none⟩)) rfl rfl rfl rfl (fun hg37=>qg rfl xo rfl (o':=5) rfl rfl ⟨rfl,rfl⟩) ?_
 refine q4 (v:=.slice m.sa m.shares.length m.scap) rfl rfl rfl rfl (fun hg38=>qq (v:=.slice m.sa m.shares.length m.scap) (show ev _ _ = .pointer (some ⟨b1,5,none⟩) from if_pos hg38) ag24 (qh (hs7.get 1 rfl) rfl) rfl ⟨rfl,rfl⟩) ?_
 refine q4 (v:=vI ((m.shares.length : Nat) : Int)) rfl rfl rfl rfl (fun hg39=>qx (len:=m.shares.length) (show ev _ _ = .slice m.sa m.shares.length m.scap from if_pos hg39) un24 rfl ⟨rfl,rfl⟩) ?_
 refine q4 (v:=.pointer (some ⟨b5,5,none⟩)) rfl rfl rfl rfl (fun hg40=>qg rfl xo rfl (o':=5) rfl rfl ⟨rfl,rfl⟩) ?_
 refine q4 (v:=.slice m2.sa m2.shares.length m2.scap) rfl rfl rfl rfl (fun hg41=>qq (v:=.slice m2.sa m2.shares.length m2.scap) (show ev _ _ = .pointer (some ⟨b5,5,none⟩) from if_pos hg41) ag24 (qh (hs7.get 0 rfl) rfl) rfl ⟨rfl,rfl⟩) ?_
 refine q4 (v:=vI ((m2.shares.length : Nat) : Int)) rfl rfl rfl rfl (fun hg42=>qx (len:=m2.shares.length) (show ev _ _ = .slice m2.sa m2.shares.length m2.scap from if_pos hg42) un24 rfl ⟨rfl,rfl⟩) ?_
 refine q4 (v:=.bool (decide (((m.shares.length : Nat) : Int) ≠ ((m2.shares.length : Nat) : Int)))) rfl rfl rfl rfl (fun hg43=>qt (k:=.i64) (k':=.i64) (a:=((m.shares.length : Nat) : Int)) (b:=((m2.shares.length : Nat) : Int)) (show ev _ _ = vI ((m.shares.length : Nat) : Int) from if_pos hg43) (show ev _ _ = vI ((m2.shares.length : Nat) : Int) from if_pos hg43) rfl yd ⟨rfl,rfl⟩) ?_
 obtain ⟨B44,hB44⟩ : ∃ b : Bool,b = (B36 || (decide (((m.shares.length : Nat) : Int) ≠ ((m2.shares.length : Nat) : Int)))):=⟨_,rfl⟩
 refine qa rfl (ka (v:=.bool B44) rfl (Eq.trans (jk _ _) (congrArg Value.bool hB44.symm)) rfl ?_)
 subst hB44
 subst hB36
 subst hB28
 subst hB20
 subst hB14
 refine ql (qb ?_)
 refine k5 (t:=((((((!decide (m.strict = m2.strict)) || decide (m.heap ≠ m2.heap)) || decide (m.full ≠ m2.full)) || (decide (((m.comps.length : Nat) : Int) ≠ ((m2.comps.length : Nat) : Int)))) || (decide (((m.links.length : Nat) : Int) ≠ ((m2.links.length : Nat) : Int)))) || (decide (((m.shares.length : Nat) : Int) ≠ ((m2.shares.length : Nat) : Int))))) rfl (fun hc45=>?_) (fun hc45=>?_)
 ·refine qi (qc ?_)
  refine qa rfl (qf (v:=.bool false) rfl rfl ?_)
  refine ql (qb (zo (q9 ?_)))
  refine ⟨.bool false,res1 rfl,?_⟩
  exact ⟨⟨false,rfl,⟨fun h=>(Bool.false_ne_true h).elim,fun h=>absurd h (same_0 hc45)⟩⟩,hs7.base⟩
 ·refine zn (qb (qi (qi ?_)))
  have hE:=same_E hc45
  have hq1:=hE.l1; have hq2:=hE.l2; have hq3:=hE.l3; have:=hb.cl; have:=hb.ll; have:=hb.sl
  refine qc ?_
  refine qa rfl (qf (v:=vI 0) rfl rfl ?_)
  refine ql (qb (zy ?_))
  refine kw (fun m_ f_ w_=>∃ k : Nat,m_ = m.comps.length - k ∧ (k ≤ m.comps.length) ∧ ((m.comps.take k).map CompV.canon = (m2.comps.take k).map CompV.canon) ∧ f_ 2 = .pointer (some ⟨b1,0,none⟩) ∧ f_ 3 = .pointer (some ⟨b5,0,none⟩) ∧ f_ 5 = vI ((k : Nat) : Int) ∧ St w (fun _=>False) w_ [blk b5 [.bool m2.strict,vI m2.heap,vI m2.full,.slice m2.ca m2.comps.length m2.ccap,.slice m2.la m2.links.length m2.lcap,.slice m2.sa m2.shares.length m2.scap] 26,blk b1 (qn m) 26] [arrI zu 2 m.ca m.comps,arrI z1 3 m.la m.links,arrI zw 2 m.sa m.shares,ko m.comps,arrI zu 2 m2.ca m2.comps,arrI z1 3 m2.la m2.links,arrI zw 2 m2.sa m2.shares,ko m2.comps]) ?_ ?_
  ·exact ⟨_,0,rfl,Nat.zero_le _,rfl,rfl,rfl,rfl,hs7⟩
  ·intro m49 f46 w47; rintro ⟨k,rfl,hk,ha,e50,e51,e52,hs48⟩
   rewrite [qm e50]
   rewrite [qm e51]
   rewrite [qm e52]
   refine qi (qi (qc ?_))
   refine qa rfl (qj (v:=vI ((k : Nat) : Int)) rfl rfl ?_)
   refine qa rfl (qg rfl jq rfl (o':=3) rfl rfl ?_)
   refine qa rfl (qq (v:=.slice m.ca m.comps.length m.ccap) rfl ag22 (qh (hs48.get 1 rfl) rfl) rfl ?_)
   refine qa rfl (qx (len:=m.comps.length) rfl un22 rfl ?_)
   refine qa rfl (qt (k:=.i64) (k':=.i64) (a:=((k : Nat) : Int)) (b:=((m.comps.length : Nat) : Int)) rfl rfl rfl jg ?_)
   refine ql (qb ?_)
   refine zd rfl (fun hc53=>?_) (fun hc53=>?_)
   ·refine zn (qb (qi (zy (qi ?_))))
    have hs54:=hs48.addRsub 3 rfl (arrI encB 1 ((m.comps[k]'(by omega)).a) ((m.comps[k]'(by omega)).code)) (hs48.getR 3 rfl _ (List.getElem_mem (by omega))) (fun b hb=>⟨_,List.getElem_mem (by omega),hb⟩)
    have hs55:=hs54.addRsub 8 rfl (arrI encB 1 ((m2.comps[k]'(by omega)).a) ((m2.comps[k]'(by omega)).code)) (hs54.getR 8 rfl _ (List.getElem_mem (by omega))) (fun b hb=>⟨_,List.getElem_mem (by omega),hb⟩)
    obtain ⟨b56,o57,ha58,hs59⟩:=hs55.elem 2 rfl k (by omega)
    obtain ⟨b60,o61,ha62,hs63⟩:=hs59.elem 7 rfl k (by omega)
    obtain ⟨B77,hB77⟩ : ∃ b : Bool,b = ((!decide ((⟨((m.comps[k]'(by omega)).code).toArray⟩ : ByteArray).toList = (⟨((m2.comps[k]'(by omega)).code).toArray⟩ : ByteArray).toList)) || (decide (((m.comps[k]'(by omega)).data) ≠ ((m2.comps[k]'(by omega)).data)))):=⟨_,rfl⟩
    refine jc js (show St _ _ _ [blk b5 [.bool m2.strict,vI m2.heap,vI m2.full,.slice m2.ca m2.comps.length m2.ccap,.slice m2.la m2.links.length m2.lcap,.slice m2.sa m2.shares.length m2.scap] 26,blk b1 (qn m) 26] _ from hs63) (fun i_=>match i_ with|_=>none) (fun i_=>match i_ with|_=>[]) (fun i_=>match i_ with|1=>[31]|8=>[30]|17=>[31]|23=>[30]|_=>[]) (fun i_=>match i_ with|1=>[0]|3=>[1,2]|4=>[3]|5=>[4]|6=>[5]|8=>[7]|10=>[8,9]|11=>[10]|12=>[11]|13=>[12]|14=>[6,13]|15=>[14]|16=>[15]|17=>[15,16]|18=>[15]|19=>[15,17,18]|20=>[15,19]|21=>[15,20]|22=>[15]|23=>[15,22]|24=>[15]|25=>[15,23,24]|26=>[15,25]|27=>[15,26]|28=>[15,21,27]|29=>[15,28]|_=>[]) [30,31,0,1,2,3,4,5,6,7,8,9,10,11,12,13,14,15,16,17,18,19,20,21,22,23,24,25,26,27,28,29,32,33,34,35,36,37,38,39,40,41,42,43,44,45,46,47,48,49,50,51,52,53,54,55,56,57,58,59,60,61] [29] (fun i_ v_=>match i_ with|0=>v_ = .pointer (some ⟨b1,3,none⟩)|1=>v_ = .slice m.ca m.comps.length m.ccap|2=>v_ = vI ((k : Nat) : Int)|3=>v_ = .pointer (some ⟨b56,o57 + k * 2,none⟩)|4=>v_ = .pointer (some ⟨b56,o57 + k * 2,none⟩)|5=>v_ = .slice ((m.comps[k]'(by omega)).a) ((m.comps[k]'(by omega)).code.length) ((m.comps[k]'(by omega)).cap)|6=>v_ = .string (⟨((m.comps[k]'(by omega)).code).toArray⟩)|7=>v_ = .pointer (some ⟨b5,3,none⟩)|8=>v_ = .slice m2.ca m2.comps.length m2.ccap|9=>v_ = vI ((k : Nat) : Int)|10=>v_ = .pointer (some ⟨b60,o61 + k * 2,none⟩)|11=>v_ = .pointer (some ⟨b60,o61 + k * 2,none⟩)|12=>v_ = .slice ((m2.comps[k]'(by omega)).a) ((m2.comps[k]'(by omega)).code.length) ((m2.comps[k]'(by omega)).cap)|13=>v_ = .string (⟨((m2.comps[k]'(by omega)).code).toArray⟩)|14=>v_ = .bool (!decide ((⟨((m.comps[k]'(by omega)).code).toArray⟩ : ByteArray).toList = (⟨((m2.comps[k]'(by omega)).code).toArray⟩ : ByteArray).toList))|15=>v_ = .bool (!decide ((⟨((m.comps[k]'(by omega)).code).toArray⟩ : ByteArray).toList = (⟨((m2.comps[k]'(by omega)).code).toArray⟩ : ByteArray).toList))|16=>v_ = if (!decide ((⟨((m.comps[k]'(by omega)).code).toArray⟩ : ByteArray).toList = (⟨((m2.comps[k]'(by omega)).code).toArray⟩ : ByteArray).toList)) = false then .pointer (some ⟨b1,3,none⟩) else undef|17=>v_ = if (!decide ((⟨((m.comps[k]'(by omega)).code).toArray⟩ : ByteArray).toList = (⟨((m2.comps[k]'(by omega)).code).toArray⟩ : ByteArray).toList)) = false then .slice m.ca m.comps.length m.ccap else undef|18=>v_ = if (!decide ((⟨((m.comps[k]'(by omega)).code).toArray⟩ : ByteArray).toList = (⟨((m2.comps[k]'(by omega)).code).toArray⟩ : ByteArray).toList)) = false then vI ((k : Nat) : Int) else undef|19=>v_ = if (!decide ((⟨((m.comps[k]'(by omega)).code).toArray⟩ : ByteArray).toList = (⟨((m2.comps[k]'(by omega)).code).toArray⟩ : ByteArray).toList)) = false then .pointer (some ⟨b56,o57 + k * 2,none⟩) else undef|20=>v_ = if (!decide ((⟨((m.comps[k]'(by omega)).code).toArray⟩ : ByteArray).toList = (⟨((m2.comps[k]'(by omega)).code).toArray⟩ : ByteArray).toList)) = false then .pointer (some ⟨b56,o57 + k * 2 + 1,none⟩) else undef|21=>v_ = if (!decide ((⟨((m.comps[k]'(by omega)).code).toArray⟩ : ByteArray).toList = (⟨((m2.comps[k]'(by omega)).code).toArray⟩ : ByteArray).toList)) = false then vI ((m.comps[k]'(by omega)).data) else undef|22=>v_ = if (!decide ((⟨((m.comps[k]'(by omega)).code).toArray⟩ : ByteArray).toList = (⟨((m2.comps[k]'(by omega)).code).toArray⟩ : ByteArray).toList)) = false then .pointer (some ⟨b5,3,none⟩) else undef|23=>v_ = if (!decide ((⟨((m.comps[k]'(by omega)).code).toArray⟩ : ByteArray).toList = (⟨((m2.comps[k]'(by omega)).code).toArray⟩ : ByteArray).toList)) = false then .slice m2.ca m2.comps.length m2.ccap else undef|24=>v_ = if (!decide ((⟨((m.comps[k]'(by omega)).code).toArray⟩ : ByteArray).toList = (⟨((m2.comps[k]'(by omega)).code).toArray⟩ : ByteArray).toList)) = false then vI ((k : Nat) : Int) else undef|25=>v_ = if (!decide ((⟨((m.comps[k]'(by omega)).code).toArray⟩ : ByteArray).toList = (⟨((m2.comps[k]'(by omega)).code).toArray⟩ : ByteArray).toList)) = false then .pointer (some ⟨b60,o61 + k * 2,none⟩) else undef|26=>v_ = if (!decide ((⟨((m.comps[k]'(by omega)).code).toArray⟩ : ByteArray).toList = (⟨((m2.comps[k]'(by omega)).code).toArray⟩ : ByteArray).toList)) = false then .pointer (some ⟨b60,o61 + k * 2 + 1,none⟩) else undef|27=>v_ = if (!decide ((⟨((m.comps[k]'(by omega)).code).toArray⟩ : ByteArray).toList = (⟨((m2.comps[k]'(by omega)).code).toArray⟩ : ByteArray).toList)) = false then vI ((m2.comps[k]'(by omega)).data) else undef|28=>v_ = if (!decide ((⟨((m.comps[k]'(by omega)).code).toArray⟩ : ByteArray).toList = (⟨((m2.comps[k]'(by omega)).code).toArray⟩ : ByteArray).toList)) = false then .bool (decide (((m.comps[k]'(by omega)).data) ≠ ((m2.comps[k]'(by omega)).data))) else undef|29=>v_ = .bool B77|_=>True) (by kernel_rfl) (by kernel_rfl) ⟨?_,?_,?_,?_,?_,?_,?_,?_,?_,?_,?_,?_,?_,?_,?_,?_,?_,?_,?_,?_,?_,?_,?_,?_,?_,?_,?_,?_,?_,?_,trivial⟩ ?_
    ·intro f0_ w0_ X0_ qp qo qu qk
     have hb2 : f0_ 2 = .pointer (some ⟨b1,0,none⟩):=(qp 2 rfl)
     refine qe rfl (qg hb2 jq rfl (o':=3) rfl rfl ?_)
     exact ⟨.pointer (some ⟨b1,3,none⟩),rfl,rfl,qk⟩
    ·intro f1_ w1_ X1_ qp qo qu qk
     obtain ⟨hu0,-⟩:=qo
     have hu0 : f1_ 61 = .pointer (some ⟨b1,3,none⟩):=hu0
     obtain ⟨hr31,-⟩:=qu
     have hr31 : Item.φ (blk b1 (qn m) 26) w1_:=hr31
     refine qe rfl (qq (v:=.slice m.ca m.comps.length m.ccap) hu0 ag22 (qh (hr31) rfl) rfl ?_)
     exact ⟨.slice m.ca m.comps.length m.ccap,rfl,rfl,qk⟩
    ·intro f2_ w2_ X2_ qp qo qu qk
     have hb5 : f2_ 5 = vI ((k : Nat) : Int):=(qp 5 rfl)
     refine qe rfl (qj (v:=vI ((k : Nat) : Int)) hb5 rfl ?_)
     exact ⟨vI ((k : Nat) : Int),rfl,rfl,qk⟩
    ·intro f3_ w3_ X3_ qp qo qu qk
     obtain ⟨hu1,hu2,-⟩:=qo
     have hu1 : f3_ 62 = .slice m.ca m.comps.length m.ccap:=hu1
     have hu2 : f3_ 63 = vI ((k : Nat) : Int):=hu2
     refine qe rfl (qs hu1 ha58 hu2 un22 sz53 (by omega) (by omega) (o':=o57 + k * 2) (by omega) rfl ?_)
     exact ⟨.pointer (some ⟨b56,o57 + k * 2,none⟩),rfl,rfl,qk⟩
    ·intro f4_ w4_ X4_ qp qo qu qk
     obtain ⟨hu3,-⟩:=qo
     have hu3 : f4_ 64 = .pointer (some ⟨b56,o57 + k * 2,none⟩):=hu3
     refine qe rfl (qg hu3 ym rfl (o':=o57 + k * 2) rfl rfl ?_)
     exact ⟨.pointer (some ⟨b56,o57 + k * 2,none⟩),rfl,rfl,qk⟩
    ·intro f5_ w5_ X5_ qp qo qu qk
     obtain ⟨hu4,-⟩:=qo
     have hu4 : f5_ 65 = .pointer (some ⟨b56,o57 + k * 2,none⟩):=hu4
     refine qe rfl (qq (v:=.slice ((m.comps[k]'(by omega)).a) ((m.comps[k]'(by omega)).code.length) ((m.comps[k]'(by omega)).cap)) hu4 ag27 ((qk.getR 1 rfl).2 0 _ rfl) rfl ?_)
     exact ⟨.slice ((m.comps[k]'(by omega)).a) ((m.comps[k]'(by omega)).code.length) ((m.comps[k]'(by omega)).cap),rfl,rfl,qk⟩
    ·intro f6_ w6_ X6_ qp qo qu qk
     obtain ⟨hu5,-⟩:=qo
     have hu5 : f6_ 66 = .slice ((m.comps[k]'(by omega)).a) ((m.comps[k]'(by omega)).code.length) ((m.comps[k]'(by omega)).cap):=hu5
     refine qe rfl (O_bytes_str (enc:=encB) (fun _=>rfl) hu5 (qk.getR 3 rfl) rfl un27 un5 un9 rfl ?_)
     exact ⟨.string (⟨((m.comps[k]'(by omega)).code).toArray⟩),rfl,rfl,qk⟩
    ·intro f7_ w7_ X7_ qp qo qu qk
     have hb3 : f7_ 3 = .pointer (some ⟨b5,0,none⟩):=(qp 3 rfl)
     refine qe rfl (qg hb3 jq rfl (o':=3) rfl rfl ?_)
     exact ⟨.pointer (some ⟨b5,3,none⟩),rfl,rfl,qk⟩
    ·intro f8_ w8_ X8_ qp qo qu qk
     obtain ⟨hu7,-⟩:=qo
     have hu7 : f8_ 68 = .pointer (some ⟨b5,3,none⟩):=hu7
     obtain ⟨hr30,-⟩:=qu
     have hr30 : Item.φ (blk b5 [.bool m2.strict,vI m2.heap,vI m2.full,.slice m2.ca m2.comps.length m2.ccap,.slice m2.la m2.links.length m2.lcap,.slice m2.sa m2.shares.length m2.scap] 26) w8_:=hr30
     refine qe rfl (qq (v:=.slice m2.ca m2.comps.length m2.ccap) hu7 ag22 (qh (hr30) rfl) rfl ?_)
     exact ⟨.slice m2.ca m2.comps.length m2.ccap,rfl,rfl,qk⟩
    ·intro f9_ w9_ X9_ qp qo qu qk
     have hb5 : f9_ 5 = vI ((k : Nat) : Int):=(qp 5 rfl)
     refine qe rfl (qj (v:=vI ((k : Nat) : Int)) hb5 rfl ?_)
     exact ⟨vI ((k : Nat) : Int),rfl,rfl,qk⟩
    ·intro f10_ w10_ X10_ qp qo qu qk
     obtain ⟨hu8,hu9,-⟩:=qo
     have hu8 : f10_ 69 = .slice m2.ca m2.comps.length m2.ccap:=hu8
     have hu9 : f10_ 70 = vI ((k : Nat) : Int):=hu9
     refine qe rfl (qs hu8 ha62 hu9 un22 sz53 (by omega) (by omega) (o':=o61 + k * 2) (by omega) rfl ?_)
     exact ⟨.pointer (some ⟨b60,o61 + k * 2,none⟩),rfl,rfl,qk⟩
    ·intro f11_ w11_ X11_ qp qo qu qk
     obtain ⟨hu10,-⟩:=qo
     have hu10 : f11_ 71 = .pointer (some ⟨b60,o61 + k * 2,none⟩):=hu10
     refine qe rfl (qg hu10 ym rfl (o':=o61 + k * 2) rfl rfl ?_)
     exact ⟨.pointer (some ⟨b60,o61 + k * 2,none⟩),rfl,rfl,qk⟩
    ·intro f12_ w12_ X12_ qp qo qu qk
     obtain ⟨hu11,-⟩:=qo
     have hu11 : f12_ 72 = .pointer (some ⟨b60,o61 + k * 2,none⟩):=hu11
     refine qe rfl (qq (v:=.slice ((m2.comps[k]'(by omega)).a) ((m2.comps[k]'(by omega)).code.length) ((m2.comps[k]'(by omega)).cap)) hu11 ag27 ((qk.getR 0 rfl).2 0 _ rfl) rfl ?_)
     exact ⟨.slice ((m2.comps[k]'(by omega)).a) ((m2.comps[k]'(by omega)).code.length) ((m2.comps[k]'(by omega)).cap),rfl,rfl,qk⟩
    ·intro f13_ w13_ X13_ qp qo qu qk
     obtain ⟨hu12,-⟩:=qo
     have hu12 : f13_ 73 = .slice ((m2.comps[k]'(by omega)).a) ((m2.comps[k]'(by omega)).code.length) ((m2.comps[k]'(by omega)).cap):=hu12
     refine qe rfl (O_bytes_str (enc:=encB) (fun _=>rfl) hu12 (qk.getR 2 rfl) rfl un27 un5 un9 rfl ?_)
     exact ⟨.string (⟨((m2.comps[k]'(by omega)).code).toArray⟩),rfl,rfl,qk⟩
    ·intro f14_ w14_ X14_ qp qo qu qk
     obtain ⟨hu6,hu13,-⟩:=qo
     have hu6 : f14_ 67 = .string (⟨((m.comps[k]'(by omega)).code).toArray⟩):=hu6
     have hu13 : f14_ 74 = .string (⟨((m2.comps[k]'(by omega)).code).toArray⟩):=hu13
     refine qe rfl (O_binv (a:=.string (⟨((m.comps[k]'(by omega)).code).toArray⟩)) (b:=.string (⟨((m2.comps[k]'(by omega)).code).toArray⟩)) hu6 hu13 rfl eg_string b_neq_string ?_)
     exact ⟨.bool (!decide ((⟨((m.comps[k]'(by omega)).code).toArray⟩ : ByteArray).toList = (⟨((m2.comps[k]'(by omega)).code).toArray⟩ : ByteArray).toList)),rfl,rfl,qk⟩
    ·intro f15_ w15_ X15_ qp qo qu qk
     obtain ⟨hu14,-⟩:=qo
     have hu14 : f15_ 75 = .bool (!decide ((⟨((m.comps[k]'(by omega)).code).toArray⟩ : ByteArray).toList = (⟨((m2.comps[k]'(by omega)).code).toArray⟩ : ByteArray).toList)):=hu14
     refine qe rfl (qj (v:=.bool (!decide ((⟨((m.comps[k]'(by omega)).code).toArray⟩ : ByteArray).toList = (⟨((m2.comps[k]'(by omega)).code).toArray⟩ : ByteArray).toList))) hu14 rfl ?_)
     exact ⟨.bool (!decide ((⟨((m.comps[k]'(by omega)).code).toArray⟩ : ByteArray).toList = (⟨((m2.comps[k]'(by omega)).code).toArray⟩ : ByteArray).toList)),rfl,rfl,qk⟩
    ·intro f16_ w16_ X16_ qp qo qu qk
     obtain ⟨hu15,-⟩:=qo
     have hu15 : f16_ 76 = .bool (!decide ((⟨((m.comps[k]'(by omega)).code).toArray⟩ : ByteArray).toList = (⟨((m2.comps[k]'(by omega)).code).toArray⟩ : ByteArray).toList)):=hu15
     have hb2 : f16_ 2 = .pointer (some ⟨b1,0,none⟩):=(qp 2 rfl)
     refine ze rfl (c:=(!decide ((⟨((m.comps[k]'(by omega)).code).toArray⟩ : ByteArray).toList = (⟨((m2.comps[k]'(by omega)).code).toArray⟩ : ByteArray).toList))) hu15 (fun hg64=>?_) (fun hg64=>⟨undef,rfl,(if_neg (by rw [hg64]; decide)).symm,qk⟩)
     refine qg hb2 jq rfl (o':=3) rfl rfl ?_
     exact ⟨.pointer (some ⟨b1,3,none⟩),rfl,(if_pos hg64).symm,qk⟩
    ·intro f17_ w17_ X17_ qp qo qu qk
     obtain ⟨hu15,hu16,-⟩:=qo
     have hu15 : f17_ 76 = .bool (!decide ((⟨((m.comps[k]'(by omega)).code).toArray⟩ : ByteArray).toList = (⟨((m2.comps[k]'(by omega)).code).toArray⟩ : ByteArray).toList)):=hu15
     have hu16 : f17_ 77 = if (!decide ((⟨((m.comps[k]'(by omega)).code).toArray⟩ : ByteArray).toList = (⟨((m2.comps[k]'(by omega)).code).toArray⟩ : ByteArray).toList)) = false then .pointer (some ⟨b1,3,none⟩) else undef:=hu16
     obtain ⟨hr31,-⟩:=qu
     have hr31 : Item.φ (blk b1 (qn m) 26) w17_:=hr31
     refine ze rfl (c:=(!decide ((⟨((m.comps[k]'(by omega)).code).toArray⟩ : ByteArray).toList = (⟨((m2.comps[k]'(by omega)).code).toArray⟩ : ByteArray).toList))) hu15 (fun hg65=>?_) (fun hg65=>⟨undef,rfl,(if_neg (by rw [hg65]; decide)).symm,qk⟩)
     refine qq (v:=.slice m.ca m.comps.length m.ccap) (Eq.trans hu16 (if_pos hg65)) ag22 (qh (hr31) rfl) rfl ?_
     exact ⟨.slice m.ca m.comps.length m.ccap,rfl,(if_pos hg65).symm,qk⟩
    ·intro f18_ w18_ X18_ qp qo qu qk
     obtain ⟨hu15,-⟩:=qo
     have hu15 : f18_ 76 = .bool (!decide ((⟨((m.comps[k]'(by omega)).code).toArray⟩ : ByteArray).toList = (⟨((m2.comps[k]'(by omega)).code).toArray⟩ : ByteArray).toList)):=hu15
     have hb5 : f18_ 5 = vI ((k : Nat) : Int):=(qp 5 rfl)
     refine ze rfl (c:=(!decide ((⟨((m.comps[k]'(by omega)).code).toArray⟩ : ByteArray).toList = (⟨((m2.comps[k]'(by omega)).code).toArray⟩ : ByteArray).toList))) hu15 (fun hg66=>?_) (fun hg66=>⟨undef,rfl,(if_neg (by rw [hg66]; decide)).symm,qk⟩)
     refine qj (v:=vI ((k : Nat) : Int)) hb5 rfl ?_
     exact ⟨vI ((k : Nat) : Int),rfl,(if_pos hg66).symm,qk⟩
    ·intro f19_ w19_ X19_ qp qo qu qk
     obtain ⟨hu15,hu17,hu18,-⟩:=qo
     have hu15 : f19_ 76 = .bool (!decide ((⟨((m.comps[k]'(by omega)).code).toArray⟩ : ByteArray).toList = (⟨((m2.comps[k]'(by omega)).code).toArray⟩ : ByteArray).toList)):=hu15
     have hu17 : f19_ 78 = if (!decide ((⟨((m.comps[k]'(by omega)).code).toArray⟩ : ByteArray).toList = (⟨((m2.comps[k]'(by omega)).code).toArray⟩ : ByteArray).toList)) = false then .slice m.ca m.comps.length m.ccap else undef:=hu17
     have hu18 : f19_ 79 = if (!decide ((⟨((m.comps[k]'(by omega)).code).toArray⟩ : ByteArray).toList = (⟨((m2.comps[k]'(by omega)).code).toArray⟩ : ByteArray).toList)) = false then vI ((k : Nat) : Int) else undef:=hu18
     refine ze rfl (c:=(!decide ((⟨((m.comps[k]'(by omega)).code).toArray⟩ : ByteArray).toList = (⟨((m2.comps[k]'(by omega)).code).toArray⟩ : ByteArray).toList))) hu15 (fun hg67=>?_) (fun hg67=>⟨undef,rfl,(if_neg (by rw [hg67]; decide)).symm,qk⟩)
     refine qs (Eq.trans hu17 (if_pos hg67)) ha58 (Eq.trans hu18 (if_pos hg67)) un22 sz53 (by omega) (by omega) (o':=o57 + k * 2) (by omega) rfl ?_
     exact ⟨.pointer (some ⟨b56,o57 + k * 2,none⟩),rfl,(if_pos hg67).symm,qk⟩
    ·intro f20_ w20_ X20_ qp qo qu qk
     obtain ⟨hu15,hu19,-⟩:=qo
     have hu15 : f20_ 76 = .bool (!decide ((⟨((m.comps[k]'(by omega)).code).toArray⟩ : ByteArray).toList = (⟨((m2.comps[k]'(by omega)).code).toArray⟩ : ByteArray).toList)):=hu15
     have hu19 : f20_ 80 = if (!decide ((⟨((m.comps[k]'(by omega)).code).toArray⟩ : ByteArray).toList = (⟨((m2.comps[k]'(by omega)).code).toArray⟩ : ByteArray).toList)) = false then .pointer (some ⟨b56,o57 + k * 2,none⟩) else undef:=hu19
     refine ze rfl (c:=(!decide ((⟨((m.comps[k]'(by omega)).code).toArray⟩ : ByteArray).toList = (⟨((m2.comps[k]'(by omega)).code).toArray⟩ : ByteArray).toList))) hu15 (fun hg68=>?_) (fun hg68=>⟨undef,rfl,(if_neg (by rw [hg68]; decide)).symm,qk⟩)
     refine qg (Eq.trans hu19 (if_pos hg68)) fd53_1 rfl (o':=o57 + k * 2 + 1) rfl rfl ?_
     exact ⟨.pointer (some ⟨b56,o57 + k * 2 + 1,none⟩),rfl,(if_pos hg68).symm,qk⟩
    ·intro f21_ w21_ X21_ qp qo qu qk
     obtain ⟨hu15,hu20,-⟩:=qo
     have hu15 : f21_ 76 = .bool (!decide ((⟨((m.comps[k]'(by omega)).code).toArray⟩ : ByteArray).toList = (⟨((m2.comps[k]'(by omega)).code).toArray⟩ : ByteArray).toList)):=hu15
     have hu20 : f21_ 81 = if (!decide ((⟨((m.comps[k]'(by omega)).code).toArray⟩ : ByteArray).toList = (⟨((m2.comps[k]'(by omega)).code).toArray⟩ : ByteArray).toList)) = false then .pointer (some ⟨b56,o57 + k * 2 + 1,none⟩) else undef:=hu20
     refine ze rfl (c:=(!decide ((⟨((m.comps[k]'(by omega)).code).toArray⟩ : ByteArray).toList = (⟨((m2.comps[k]'(by omega)).code).toArray⟩ : ByteArray).toList))) hu15 (fun hg69=>?_) (fun hg69=>⟨undef,rfl,(if_neg (by rw [hg69]; decide)).symm,qk⟩)
     refine qq (v:=vI ((m.comps[k]'(by omega)).data)) (Eq.trans hu20 (if_pos hg69)) ag3 ((qk.getR 1 rfl).2 1 _ rfl) rfl ?_
     exact ⟨vI ((m.comps[k]'(by omega)).data),rfl,(if_pos hg69).symm,qk⟩
    ·intro f22_ w22_ X22_ qp qo qu qk
     obtain ⟨hu15,-⟩:=qo
     have hu15 : f22_ 76 = .bool (!decide ((⟨((m.comps[k]'(by omega)).code).toArray⟩ : ByteArray).toList = (⟨((m2.comps[k]'(by omega)).code).toArray⟩ : ByteArray).toList)):=hu15
     have hb3 : f22_ 3 = .pointer (some ⟨b5,0,none⟩):=(qp 3 rfl)
     refine ze rfl (c:=(!decide ((⟨((m.comps[k]'(by omega)).code).toArray⟩ : ByteArray).toList = (⟨((m2.comps[k]'(by omega)).code).toArray⟩ : ByteArray).toList))) hu15 (fun hg70=>?_) (fun hg70=>⟨undef,rfl,(if_neg (by rw [hg70]; decide)).symm,qk⟩)
     refine qg hb3 jq rfl (o':=3) rfl rfl ?_
     exact ⟨.pointer (some ⟨b5,3,none⟩),rfl,(if_pos hg70).symm,qk⟩
    ·intro f23_ w23_ X23_ qp qo qu qk
     obtain ⟨hu15,hu22,-⟩:=qo
     have hu15 : f23_ 76 = .bool (!decide ((⟨((m.comps[k]'(by omega)).code).toArray⟩ : ByteArray).toList = (⟨((m2.comps[k]'(by omega)).code).toArray⟩ : ByteArray).toList)):=hu15
     have hu22 : f23_ 83 = if (!decide ((⟨((m.comps[k]'(by omega)).code).toArray⟩ : ByteArray).toList = (⟨((m2.comps[k]'(by omega)).code).toArray⟩ : ByteArray).toList)) = false then .pointer (some ⟨b5,3,none⟩) else undef:=hu22
     obtain ⟨hr30,-⟩:=qu
     have hr30 : Item.φ (blk b5 [.bool m2.strict,vI m2.heap,vI m2.full,.slice m2.ca m2.comps.length m2.ccap,.slice m2.la m2.links.length m2.lcap,.slice m2.sa m2.shares.length m2.scap] 26) w23_:=hr30
     refine ze rfl (c:=(!decide ((⟨((m.comps[k]'(by omega)).code).toArray⟩ : ByteArray).toList = (⟨((m2.comps[k]'(by omega)).code).toArray⟩ : ByteArray).toList))) hu15 (fun hg71=>?_) (fun hg71=>⟨undef,rfl,(if_neg (by rw [hg71]; decide)).symm,qk⟩)
     refine qq (v:=.slice m2.ca m2.comps.length m2.ccap) (Eq.trans hu22 (if_pos hg71)) ag22 (qh (hr30) rfl) rfl ?_
     exact ⟨.slice m2.ca m2.comps.length m2.ccap,rfl,(if_pos hg71).symm,qk⟩
    ·intro f24_ w24_ X24_ qp qo qu qk
     obtain ⟨hu15,-⟩:=qo
     have hu15 : f24_ 76 = .bool (!decide ((⟨((m.comps[k]'(by omega)).code).toArray⟩ : ByteArray).toList = (⟨((m2.comps[k]'(by omega)).code).toArray⟩ : ByteArray).toList)):=hu15
     have hb5 : f24_ 5 = vI ((k : Nat) : Int):=(qp 5 rfl)
     refine ze rfl (c:=(!decide ((⟨((m.comps[k]'(by omega)).code).toArray⟩ : ByteArray).toList = (⟨((m2.comps[k]'(by omega)).code).toArray⟩ : ByteArray).toList))) hu15 (fun hg72=>?_) (fun hg72=>⟨undef,rfl,(if_neg (by rw [hg72]; decide)).symm,qk⟩)
     refine qj (v:=vI ((k : Nat) : Int)) hb5 rfl ?_
     exact ⟨vI ((k : Nat) : Int),rfl,(if_pos hg72).symm,qk⟩
    ·intro f25_ w25_ X25_ qp qo qu qk
     obtain ⟨hu15,hu23,hu24,-⟩:=qo
     have hu15 : f25_ 76 = .bool (!decide ((⟨((m.comps[k]'(by omega)).code).toArray⟩ : ByteArray).toList = (⟨((m2.comps[k]'(by omega)).code).toArray⟩ : ByteArray).toList)):=hu15
     have hu23 : f25_ 84 = if (!decide ((⟨((m.comps[k]'(by omega)).code).toArray⟩ : ByteArray).toList = (⟨((m2.comps[k]'(by omega)).code).toArray⟩ : ByteArray).toList)) = false then .slice m2.ca m2.comps.length m2.ccap else undef:=hu23
     have hu24 : f25_ 85 = if (!decide ((⟨((m.comps[k]'(by omega)).code).toArray⟩ : ByteArray).toList = (⟨((m2.comps[k]'(by omega)).code).toArray⟩ : ByteArray).toList)) = false then vI ((k : Nat) : Int) else undef:=hu24
     refine ze rfl (c:=(!decide ((⟨((m.comps[k]'(by omega)).code).toArray⟩ : ByteArray).toList = (⟨((m2.comps[k]'(by omega)).code).toArray⟩ : ByteArray).toList))) hu15 (fun hg73=>?_) (fun hg73=>⟨undef,rfl,(if_neg (by rw [hg73]; decide)).symm,qk⟩)
     refine qs (Eq.trans hu23 (if_pos hg73)) ha62 (Eq.trans hu24 (if_pos hg73)) un22 sz53 (by omega) (by omega) (o':=o61 + k * 2) (by omega) rfl ?_
     exact ⟨.pointer (some ⟨b60,o61 + k * 2,none⟩),rfl,(if_pos hg73).symm,qk⟩
    ·intro f26_ w26_ X26_ qp qo qu qk
     obtain ⟨hu15,hu25,-⟩:=qo
     have hu15 : f26_ 76 = .bool (!decide ((⟨((m.comps[k]'(by omega)).code).toArray⟩ : ByteArray).toList = (⟨((m2.comps[k]'(by omega)).code).toArray⟩ : ByteArray).toList)):=hu15
     have hu25 : f26_ 86 = if (!decide ((⟨((m.comps[k]'(by omega)).code).toArray⟩ : ByteArray).toList = (⟨((m2.comps[k]'(by omega)).code).toArray⟩ : ByteArray).toList)) = false then .pointer (some ⟨b60,o61 + k * 2,none⟩) else undef:=hu25
     refine ze rfl (c:=(!decide ((⟨((m.comps[k]'(by omega)).code).toArray⟩ : ByteArray).toList = (⟨((m2.comps[k]'(by omega)).code).toArray⟩ : ByteArray).toList))) hu15 (fun hg74=>?_) (fun hg74=>⟨undef,rfl,(if_neg (by rw [hg74]; decide)).symm,qk⟩)
     refine qg (Eq.trans hu25 (if_pos hg74)) fd53_1 rfl (o':=o61 + k * 2 + 1) rfl rfl ?_
     exact ⟨.pointer (some ⟨b60,o61 + k * 2 + 1,none⟩),rfl,(if_pos hg74).symm,qk⟩
    ·intro f27_ w27_ X27_ qp qo qu qk
     obtain ⟨hu15,hu26,-⟩:=qo
     have hu15 : f27_ 76 = .bool (!decide ((⟨((m.comps[k]'(by omega)).code).toArray⟩ : ByteArray).toList = (⟨((m2.comps[k]'(by omega)).code).toArray⟩ : ByteArray).toList)):=hu15
     have hu26 : f27_ 87 = if (!decide ((⟨((m.comps[k]'(by omega)).code).toArray⟩ : ByteArray).toList = (⟨((m2.comps[k]'(by omega)).code).toArray⟩ : ByteArray).toList)) = false then .pointer (some ⟨b60,o61 + k * 2 + 1,none⟩) else undef:=hu26
     refine ze rfl (c:=(!decide ((⟨((m.comps[k]'(by omega)).code).toArray⟩ : ByteArray).toList = (⟨((m2.comps[k]'(by omega)).code).toArray⟩ : ByteArray).toList))) hu15 (fun hg75=>?_) (fun hg75=>⟨undef,rfl,(if_neg (by rw [hg75]; decide)).symm,qk⟩)
     refine qq (v:=vI ((m2.comps[k]'(by omega)).data)) (Eq.trans hu26 (if_pos hg75)) ag3 ((qk.getR 0 rfl).2 1 _ rfl) rfl ?_
     exact ⟨vI ((m2.comps[k]'(by omega)).data),rfl,(if_pos hg75).symm,qk⟩
    ·intro f28_ w28_ X28_ qp qo qu qk
     obtain ⟨hu15,hu21,hu27,-⟩:=qo
     have hu15 : f28_ 76 = .bool (!decide ((⟨((m.comps[k]'(by omega)).code).toArray⟩ : ByteArray).toList = (⟨((m2.comps[k]'(by omega)).code).toArray⟩ : ByteArray).toList)):=hu15
     have hu21 : f28_ 82 = if (!decide ((⟨((m.comps[k]'(by omega)).code).toArray⟩ : ByteArray).toList = (⟨((m2.comps[k]'(by omega)).code).toArray⟩ : ByteArray).toList)) = false then vI ((m.comps[k]'(by omega)).data) else undef:=hu21
     have hu27 : f28_ 88 = if (!decide ((⟨((m.comps[k]'(by omega)).code).toArray⟩ : ByteArray).toList = (⟨((m2.comps[k]'(by omega)).code).toArray⟩ : ByteArray).toList)) = false then vI ((m2.comps[k]'(by omega)).data) else undef:=hu27
     refine ze rfl (c:=(!decide ((⟨((m.comps[k]'(by omega)).code).toArray⟩ : ByteArray).toList = (⟨((m2.comps[k]'(by omega)).code).toArray⟩ : ByteArray).toList))) hu15 (fun hg76=>?_) (fun hg76=>⟨undef,rfl,(if_neg (by rw [hg76]; decide)).symm,qk⟩)
     refine qt (k:=.i64) (k':=.i64) (a:=((m.comps[k]'(by omega)).data)) (b:=((m2.comps[k]'(by omega)).data)) (Eq.trans hu21 (if_pos hg76)) (Eq.trans hu27 (if_pos hg76)) rfl yd ?_
     exact ⟨.bool (decide (((m.comps[k]'(by omega)).data) ≠ ((m2.comps[k]'(by omega)).data))),rfl,(if_pos hg76).symm,qk⟩
    ·intro f29_ w29_ X29_ qp qo qu qk
     obtain ⟨hu15,hu28,-⟩:=qo
     have hu15 : f29_ 76 = .bool (!decide ((⟨((m.comps[k]'(by omega)).code).toArray⟩ : ByteArray).toList = (⟨((m2.comps[k]'(by omega)).code).toArray⟩ : ByteArray).toList)):=hu15
     have hu28 : f29_ 89 = if (!decide ((⟨((m.comps[k]'(by omega)).code).toArray⟩ : ByteArray).toList = (⟨((m2.comps[k]'(by omega)).code).toArray⟩ : ByteArray).toList)) = false then .bool (decide (((m.comps[k]'(by omega)).data) ≠ ((m2.comps[k]'(by omega)).data))) else undef:=hu28
     refine qe rfl (ka (v:=.bool B77) hu15 (Eq.trans (by simp only [ev,hu28]; exact jk _ _) (congrArg Value.bool hB77.symm)) rfl ?_)
     exact ⟨.bool B77,rfl,rfl,qk⟩
    intro f78 w79 qp qo hs80
    obtain ⟨hu29,-⟩:=qo
    have hu29 : f78 90 = .bool B77:=hu29
    have hs80 : St _ _ _ [blk b5 [.bool m2.strict,vI m2.heap,vI m2.full,.slice m2.ca m2.comps.length m2.ccap,.slice m2.la m2.links.length m2.lcap,.slice m2.sa m2.shares.length m2.scap] 26,blk b1 (qn m) 26] _:=hs80
    have e81 : f78 2 = .pointer (some ⟨b1,0,none⟩):=(qp 2 rfl)
    rewrite [qm e81]
    have e82 : f78 3 = .pointer (some ⟨b5,0,none⟩):=(qp 3 rfl)
    rewrite [qm e82]
    have e83 : f78 5 = vI ((k : Nat) : Int):=(qp 5 rfl)
    rewrite [qm e83]
    rewrite [qm hu29]
    subst hB77
    refine qb ?_
    refine k5 (t:=((!decide ((⟨((m.comps[k]'(by omega)).code).toArray⟩ : ByteArray).toList = (⟨((m2.comps[k]'(by omega)).code).toArray⟩ : ByteArray).toList)) || (decide (((m.comps[k]'(by omega)).data) ≠ ((m2.comps[k]'(by omega)).data))))) rfl (fun hc84=>?_) (fun hc84=>?_)
    ·refine qi (qc ?_)
     refine qa rfl (qf (v:=.bool false) rfl rfl ?_)
     refine ql (qb (zo (zk (q9 (q9 (zk (q9 ?_)))))))
     refine ⟨.bool false,res1 rfl,?_⟩
     exact ⟨⟨false,rfl,⟨fun h=>(Bool.false_ne_true h).elim,fun h=>absurd h (same_n1 (k:=k) (by omega) (by omega) (same_compT hc84))⟩⟩,hs80.base⟩
    ·refine zn (z7 (qb (qc ?_)))
     refine qa rfl (qj (v:=vI ((k : Nat) : Int)) rfl rfl ?_)
     refine qa rfl (qt (v:=vI ((k + 1 : Nat) : Int)) rfl rfl rfl (ki (qz (by omega) (by omega))) ?_)
     refine qa rfl (qf (v:=vI ((k + 1 : Nat) : Int)) rfl rfl ?_)
     refine ql (qb ?_)
     refine ⟨_,?_,k + 1,rfl,by omega,sl_snocM ha (by omega) (by omega) (same_compF hc84),rfl,rfl,rfl,hs80.popR.popR.popR.popR⟩
     omega
   ·refine ja (z0 (z0 (ke (qb (qi (qi (qc ?_)))))))
    refine qa rfl (qf (v:=vI 0) rfl rfl ?_)
    refine ql (qb (zy ?_))
    refine kw (fun m_ f_ w_=>∃ k : Nat,m_ = m.links.length - k ∧ (k ≤ m.links.length) ∧ ((m.links.take k) = (m2.links.take k)) ∧ f_ 2 = .pointer (some ⟨b1,0,none⟩) ∧ f_ 3 = .pointer (some ⟨b5,0,none⟩) ∧ f_ 6 = vI ((k : Nat) : Int) ∧ St w (fun _=>False) w_ [blk b5 [.bool m2.strict,vI m2.heap,vI m2.full,.slice m2.ca m2.comps.length m2.ccap,.slice m2.la m2.links.length m2.lcap,.slice m2.sa m2.shares.length m2.scap] 26,blk b1 (qn m) 26] [arrI zu 2 m.ca m.comps,arrI z1 3 m.la m.links,arrI zw 2 m.sa m.shares,ko m.comps,arrI zu 2 m2.ca m2.comps,arrI z1 3 m2.la m2.links,arrI zw 2 m2.sa m2.shares,ko m2.comps]) ?_ ?_
    ·exact ⟨_,0,rfl,Nat.zero_le _,rfl,rfl,rfl,rfl,hs48⟩
    ·intro m88 f85 w86; rintro ⟨k,rfl,hk,hb1,e89,e90,e91,hs87⟩
     rewrite [qm e89]
     rewrite [qm e90]
     rewrite [qm e91]
     refine qi (qi (qc ?_))
     refine qa rfl (qj (v:=vI ((k : Nat) : Int)) rfl rfl ?_)
     refine qa rfl (qg rfl xx rfl (o':=4) rfl rfl ?_)
     refine qa rfl (qq (v:=.slice m.la m.links.length m.lcap) rfl ag23 (qh (hs87.get 1 rfl) rfl) rfl ?_)
     refine qa rfl (qx (len:=m.links.length) rfl un23 rfl ?_)
     refine qa rfl (qt (k:=.i64) (k':=.i64) (a:=((k : Nat) : Int)) (b:=((m.links.length : Nat) : Int)) rfl rfl rfl jg ?_)
     refine ql (qb ?_)
     refine zd rfl (fun hc92=>?_) (fun hc92=>?_)
     ·refine zn (qb (qi (zy (qi ?_))))
      obtain ⟨b93,o94,ha95,hs96⟩:=hs87.elem 1 rfl k (by omega)
      obtain ⟨b97,o98,ha99,hs100⟩:=hs96.elem 6 rfl k (by omega)
      refine jc js (show St _ _ _ [blk b5 [.bool m2.strict,vI m2.heap,vI m2.full,.slice m2.ca m2.comps.length m2.ccap,.slice m2.la m2.links.length m2.lcap,.slice m2.sa m2.shares.length m2.scap] 26,blk b1 (qn m) 26] _ from hs100) (fun i_=>match i_ with|_=>none) (fun i_=>match i_ with|_=>[]) (fun i_=>match i_ with|1=>[12]|6=>[11]|_=>[]) (fun i_=>match i_ with|1=>[0]|3=>[1,2]|4=>[3]|6=>[5]|8=>[6,7]|9=>[8]|10=>[4,9]|_=>[]) [11,12,0,1,2,3,4,5,6,7,8,9,10,13,14,15,16,17,18,19,20,21,22,23] [10] (fun i_ v_=>match i_ with|0=>v_ = .pointer (some ⟨b1,4,none⟩)|1=>v_ = .slice m.la m.links.length m.lcap|2=>v_ = vI ((k : Nat) : Int)|3=>v_ = .pointer (some ⟨b93,o94 + k * 3,none⟩)|4=>v_ = .agg #[vI ((m.links[k]'(by omega)).fr),vI ((m.links[k]'(by omega)).to),vI ((m.links[k]'(by omega)).ad)]|5=>v_ = .pointer (some ⟨b5,4,none⟩)|6=>v_ = .slice m2.la m2.links.length m2.lcap|7=>v_ = vI ((k : Nat) : Int)|8=>v_ = .pointer (some ⟨b97,o98 + k * 3,none⟩)|9=>v_ = .agg #[vI ((m2.links[k]'(by omega)).fr),vI ((m2.links[k]'(by omega)).to),vI ((m2.links[k]'(by omega)).ad)]|10=>v_ = .bool (!(decide ((m.links[k]'(by omega)) = (m2.links[k]'(by omega)))))|_=>True) (by kernel_rfl) (by kernel_rfl) ⟨?_,?_,?_,?_,?_,?_,?_,?_,?_,?_,?_,trivial⟩ ?_
      ·intro f0_ w0_ X0_ qp qo qu qk
       have hb2 : f0_ 2 = .pointer (some ⟨b1,0,none⟩):=(qp 2 rfl)
       refine qe rfl (qg hb2 xx rfl (o':=4) rfl rfl ?_)
       exact ⟨.pointer (some ⟨b1,4,none⟩),rfl,rfl,qk⟩
      ·intro f1_ w1_ X1_ qp qo qu qk
       obtain ⟨hu0,-⟩:=qo
       have hu0 : f1_ 98 = .pointer (some ⟨b1,4,none⟩):=hu0
       obtain ⟨hr12,-⟩:=qu
       have hr12 : Item.φ (blk b1 (qn m) 26) w1_:=hr12
       refine qe rfl (qq (v:=.slice m.la m.links.length m.lcap) hu0 ag23 (qh (hr12) rfl) rfl ?_)
       exact ⟨.slice m.la m.links.length m.lcap,rfl,rfl,qk⟩
      ·intro f2_ w2_ X2_ qp qo qu qk
       have hb6 : f2_ 6 = vI ((k : Nat) : Int):=(qp 6 rfl)
       refine qe rfl (qj (v:=vI ((k : Nat) : Int)) hb6 rfl ?_)
       exact ⟨vI ((k : Nat) : Int),rfl,rfl,qk⟩
      ·intro f3_ w3_ X3_ qp qo qu qk
       obtain ⟨hu1,hu2,-⟩:=qo
       have hu1 : f3_ 99 = .slice m.la m.links.length m.lcap:=hu1
       have hu2 : f3_ 100 = vI ((k : Nat) : Int):=hu2
       refine qe rfl (qs hu1 ha95 hu2 un23 sz68 (by omega) (by omega) (o':=o94 + k * 3) (by omega) rfl ?_)
       exact ⟨.pointer (some ⟨b93,o94 + k * 3,none⟩),rfl,rfl,qk⟩
      ·intro f4_ w4_ X4_ qp qo qu qk
       obtain ⟨hu3,-⟩:=qo
       have hu3 : f4_ 101 = .pointer (some ⟨b93,o94 + k * 3,none⟩):=hu3
       refine qe rfl (qw (vs:=[vI ((m.links[k]'(by omega)).fr),vI ((m.links[k]'(by omega)).to),vI ((m.links[k]'(by omega)).ad)]) hu3 ag68 sz68 ((qk.getR 1 rfl).2) rfl rfl ?_)
       exact ⟨.agg #[vI ((m.links[k]'(by omega)).fr),vI ((m.links[k]'(by omega)).to),vI ((m.links[k]'(by omega)).ad)],rfl,rfl,qk⟩
      ·intro f5_ w5_ X5_ qp qo qu qk
       have hb3 : f5_ 3 = .pointer (some ⟨b5,0,none⟩):=(qp 3 rfl)
       refine qe rfl (qg hb3 xx rfl (o':=4) rfl rfl ?_)
       exact ⟨.pointer (some ⟨b5,4,none⟩),rfl,rfl,qk⟩
      ·intro f6_ w6_ X6_ qp qo qu qk
       obtain ⟨hu5,-⟩:=qo
       have hu5 : f6_ 103 = .pointer (some ⟨b5,4,none⟩):=hu5
       obtain ⟨hr11,-⟩:=qu
       have hr11 : Item.φ (blk b5 [.bool m2.strict,vI m2.heap,vI m2.full,.slice m2.ca m2.comps.length m2.ccap,.slice m2.la m2.links.length m2.lcap,.slice m2.sa m2.shares.length m2.scap] 26) w6_:=hr11
       refine qe rfl (qq (v:=.slice m2.la m2.links.length m2.lcap) hu5 ag23 (qh (hr11) rfl) rfl ?_)
       exact ⟨.slice m2.la m2.links.length m2.lcap,rfl,rfl,qk⟩
      ·intro f7_ w7_ X7_ qp qo qu qk
       have hb6 : f7_ 6 = vI ((k : Nat) : Int):=(qp 6 rfl)
       refine qe rfl (qj (v:=vI ((k : Nat) : Int)) hb6 rfl ?_)
       exact ⟨vI ((k : Nat) : Int),rfl,rfl,qk⟩
      ·intro f8_ w8_ X8_ qp qo qu qk
       obtain ⟨hu6,hu7,-⟩:=qo
       have hu6 : f8_ 104 = .slice m2.la m2.links.length m2.lcap:=hu6
       have hu7 : f8_ 105 = vI ((k : Nat) : Int):=hu7
       refine qe rfl (qs hu6 ha99 hu7 un23 sz68 (by omega) (by omega) (o':=o98 + k * 3) (by omega) rfl ?_)
       exact ⟨.pointer (some ⟨b97,o98 + k * 3,none⟩),rfl,rfl,qk⟩
      ·intro f9_ w9_ X9_ qp qo qu qk
       obtain ⟨hu8,-⟩:=qo
       have hu8 : f9_ 106 = .pointer (some ⟨b97,o98 + k * 3,none⟩):=hu8
       refine qe rfl (qw (vs:=[vI ((m2.links[k]'(by omega)).fr),vI ((m2.links[k]'(by omega)).to),vI ((m2.links[k]'(by omega)).ad)]) hu8 ag68 sz68 ((qk.getR 0 rfl).2) rfl rfl ?_)
       exact ⟨.agg #[vI ((m2.links[k]'(by omega)).fr),vI ((m2.links[k]'(by omega)).to),vI ((m2.links[k]'(by omega)).ad)],rfl,rfl,qk⟩
      ·intro f10_ w10_ X10_ qp qo qu qk
       obtain ⟨hu4,hu9,-⟩:=qo
       have hu4 : f10_ 102 = .agg #[vI ((m.links[k]'(by omega)).fr),vI ((m.links[k]'(by omega)).to),vI ((m.links[k]'(by omega)).ad)]:=hu4
       have hu9 : f10_ 107 = .agg #[vI ((m2.links[k]'(by omega)).fr),vI ((m2.links[k]'(by omega)).to),vI ((m2.links[k]'(by omega)).ad)]:=hu9
       refine qe rfl (O_binv (a:=.agg #[vI ((m.links[k]'(by omega)).fr),vI ((m.links[k]'(by omega)).to),vI ((m.links[k]'(by omega)).ad)]) (b:=.agg #[vI ((m2.links[k]'(by omega)).fr),vI ((m2.links[k]'(by omega)).to),vI ((m2.links[k]'(by omega)).ad)]) hu4 hu9 rfl (eg_agg eqg68) (b_neq_agg (d:=2) (EqV.to (b':=decide ((m.links[k]'(by omega)) = (m2.links[k]'(by omega)))) (EqV.struct Try.underlying68 stood68 (EF.cons (by decide) ag3 rfl rfl (EqV.int un3) (EF.cons (by decide) ag3 rfl rfl (EqV.int un3) (EF.cons (by decide) ag3 rfl rfl (EqV.int un3) EF.nil)))) (eq_link _ _)) rfl) ?_)
       exact ⟨.bool (!(decide ((m.links[k]'(by omega)) = (m2.links[k]'(by omega))))),rfl,rfl,qk⟩
      intro f101 w102 qp qo hs103
      obtain ⟨hu10,-⟩:=qo
      have hu10 : f101 108 = .bool (!(decide ((m.links[k]'(by omega)) = (m2.links[k]'(by omega))))):=hu10
      have hs103 : St _ _ _ [blk b5 [.bool m2.strict,vI m2.heap,vI m2.full,.slice m2.ca m2.comps.length m2.ccap,.slice m2.la m2.links.length m2.lcap,.slice m2.sa m2.shares.length m2.scap] 26,blk b1 (qn m) 26] _:=hs103
      have e104 : f101 2 = .pointer (some ⟨b1,0,none⟩):=(qp 2 rfl)
      rewrite [qm e104]
      have e105 : f101 3 = .pointer (some ⟨b5,0,none⟩):=(qp 3 rfl)
      rewrite [qm e105]
      have e106 : f101 6 = vI ((k : Nat) : Int):=(qp 6 rfl)
      rewrite [qm e106]
      rewrite [qm hu10]
      refine qb ?_
      refine k5 (t:=(!(decide ((m.links[k]'(by omega)) = (m2.links[k]'(by omega)))))) rfl (fun hc107=>?_) (fun hc107=>?_)
      ·refine qi (qc ?_)
       refine qa rfl (qf (v:=.bool false) rfl rfl ?_)
       refine ql (qb (zo (zk (q9 (q9 (zk (q9 ?_)))))))
       refine ⟨.bool false,res1 rfl,?_⟩
       exact ⟨⟨false,rfl,⟨fun h=>(Bool.false_ne_true h).elim,fun h=>absurd h (same_n2 (k:=k) (by omega) (by omega) (by simpa using hc107))⟩⟩,hs103.base⟩
      ·refine zn (z7 (qb (qc ?_)))
       refine qa rfl (qj (v:=vI ((k : Nat) : Int)) rfl rfl ?_)
       refine qa rfl (qt (v:=vI ((k + 1 : Nat) : Int)) rfl rfl rfl (ki (qz (by omega) (by omega))) ?_)
       refine qa rfl (qf (v:=vI ((k + 1 : Nat) : Int)) rfl rfl ?_)
       refine ql (qb ?_)
       refine ⟨_,?_,k + 1,rfl,by omega,sl_snoc hb1 (by omega) (by omega) (by simpa using hc107),rfl,rfl,rfl,hs103.popR.popR⟩
       omega
     ·refine ja (z0 (z0 (ke (qb (qi (qi (qc ?_)))))))
      refine qa rfl (qf (v:=vI 0) rfl rfl ?_)
      refine ql (qb (zy ?_))
      refine kw (fun m_ f_ w_=>∃ k : Nat,m_ = m.shares.length - k ∧ (k ≤ m.shares.length) ∧ ((m.shares.take k) = (m2.shares.take k)) ∧ f_ 2 = .pointer (some ⟨b1,0,none⟩) ∧ f_ 3 = .pointer (some ⟨b5,0,none⟩) ∧ f_ 7 = vI ((k : Nat) : Int) ∧ St w (fun _=>False) w_ [blk b5 [.bool m2.strict,vI m2.heap,vI m2.full,.slice m2.ca m2.comps.length m2.ccap,.slice m2.la m2.links.length m2.lcap,.slice m2.sa m2.shares.length m2.scap] 26,blk b1 (qn m) 26] [arrI zu 2 m.ca m.comps,arrI z1 3 m.la m.links,arrI zw 2 m.sa m.shares,ko m.comps,arrI zu 2 m2.ca m2.comps,arrI z1 3 m2.la m2.links,arrI zw 2 m2.sa m2.shares,ko m2.comps]) ?_ ?_
      ·exact ⟨_,0,rfl,Nat.zero_le _,rfl,rfl,rfl,rfl,hs87⟩
      ·intro m111 f108 w109; rintro ⟨k,rfl,hk,hc1,e112,e113,e114,hs110⟩
       rewrite [qm e112]
       rewrite [qm e113]
       rewrite [qm e114]
       refine qi (qi (qc ?_))
       refine qa rfl (qj (v:=vI ((k : Nat) : Int)) rfl rfl ?_)
       refine qa rfl (qg rfl xo rfl (o':=5) rfl rfl ?_)
       refine qa rfl (qq (v:=.slice m.sa m.shares.length m.scap) rfl ag24 (qh (hs110.get 1 rfl) rfl) rfl ?_)
       refine qa rfl (qx (len:=m.shares.length) rfl un24 rfl ?_)
       refine qa rfl (qt (k:=.i64) (k':=.i64) (a:=((k : Nat) : Int)) (b:=((m.shares.length : Nat) : Int)) rfl rfl rfl jg ?_)
       refine ql (qb ?_)
       refine zd rfl (fun hc115=>?_) (fun hc115=>?_)
       ·refine zn (qb (qi (zy (qi ?_))))
        obtain ⟨b116,o117,ha118,hs119⟩:=hs110.elem 2 rfl k (by omega)
        obtain ⟨b120,o121,ha122,hs123⟩:=hs119.elem 7 rfl k (by omega)
        refine jc js (show St _ _ _ [blk b5 [.bool m2.strict,vI m2.heap,vI m2.full,.slice m2.ca m2.comps.length m2.ccap,.slice m2.la m2.links.length m2.lcap,.slice m2.sa m2.shares.length m2.scap] 26,blk b1 (qn m) 26] _ from hs123) (fun i_=>match i_ with|_=>none) (fun i_=>match i_ with|_=>[]) (fun i_=>match i_ with|1=>[12]|6=>[11]|_=>[]) (fun i_=>match i_ with|1=>[0]|3=>[1,2]|4=>[3]|6=>[5]|8=>[6,7]|9=>[8]|10=>[4,9]|_=>[]) [11,12,0,1,2,3,4,5,6,7,8,9,10,13,14,15,16,17,18,19,20,21,22,23] [10] (fun i_ v_=>match i_ with|0=>v_ = .pointer (some ⟨b1,5,none⟩)|1=>v_ = .slice m.sa m.shares.length m.scap|2=>v_ = vI ((k : Nat) : Int)|3=>v_ = .pointer (some ⟨b116,o117 + k * 2,none⟩)|4=>v_ = .agg #[vI ((m.shares[k]'(by omega)).rd),vI ((m.shares[k]'(by omega)).wr)]|5=>v_ = .pointer (some ⟨b5,5,none⟩)|6=>v_ = .slice m2.sa m2.shares.length m2.scap|7=>v_ = vI ((k : Nat) : Int)|8=>v_ = .pointer (some ⟨b120,o121 + k * 2,none⟩)|9=>v_ = .agg #[vI ((m2.shares[k]'(by omega)).rd),vI ((m2.shares[k]'(by omega)).wr)]|10=>v_ = .bool (!(decide ((m.shares[k]'(by omega)) = (m2.shares[k]'(by omega)))))|_=>True) (by kernel_rfl) (by kernel_rfl) ⟨?_,?_,?_,?_,?_,?_,?_,?_,?_,?_,?_,trivial⟩ ?_
        ·intro f0_ w0_ X0_ qp qo qu qk
         have hb2 : f0_ 2 = .pointer (some ⟨b1,0,none⟩):=(qp 2 rfl)
         refine qe rfl (qg hb2 xo rfl (o':=5) rfl rfl ?_)
         exact ⟨.pointer (some ⟨b1,5,none⟩),rfl,rfl,qk⟩
        ·intro f1_ w1_ X1_ qp qo qu qk
         obtain ⟨hu0,-⟩:=qo
         have hu0 : f1_ 116 = .pointer (some ⟨b1,5,none⟩):=hu0
         obtain ⟨hr12,-⟩:=qu
         have hr12 : Item.φ (blk b1 (qn m) 26) w1_:=hr12
         refine qe rfl (qq (v:=.slice m.sa m.shares.length m.scap) hu0 ag24 (qh (hr12) rfl) rfl ?_)
         exact ⟨.slice m.sa m.shares.length m.scap,rfl,rfl,qk⟩
        ·intro f2_ w2_ X2_ qp qo qu qk
         have hb7 : f2_ 7 = vI ((k : Nat) : Int):=(qp 7 rfl)
         refine qe rfl (qj (v:=vI ((k : Nat) : Int)) hb7 rfl ?_)
         exact ⟨vI ((k : Nat) : Int),rfl,rfl,qk⟩
        ·intro f3_ w3_ X3_ qp qo qu qk
         obtain ⟨hu1,hu2,-⟩:=qo
         have hu1 : f3_ 117 = .slice m.sa m.shares.length m.scap:=hu1
         have hu2 : f3_ 118 = vI ((k : Nat) : Int):=hu2
         refine qe rfl (qs hu1 ha118 hu2 un24 sz70 (by omega) (by omega) (o':=o117 + k * 2) (by omega) rfl ?_)
         exact ⟨.pointer (some ⟨b116,o117 + k * 2,none⟩),rfl,rfl,qk⟩
        ·intro f4_ w4_ X4_ qp qo qu qk
         obtain ⟨hu3,-⟩:=qo
         have hu3 : f4_ 119 = .pointer (some ⟨b116,o117 + k * 2,none⟩):=hu3
         refine qe rfl (qw (vs:=[vI ((m.shares[k]'(by omega)).rd),vI ((m.shares[k]'(by omega)).wr)]) hu3 ag70 sz70 ((qk.getR 1 rfl).2) rfl rfl ?_)
         exact ⟨.agg #[vI ((m.shares[k]'(by omega)).rd),vI ((m.shares[k]'(by omega)).wr)],rfl,rfl,qk⟩
        ·intro f5_ w5_ X5_ qp qo qu qk
         have hb3 : f5_ 3 = .pointer (some ⟨b5,0,none⟩):=(qp 3 rfl)
         refine qe rfl (qg hb3 xo rfl (o':=5) rfl rfl ?_)
         exact ⟨.pointer (some ⟨b5,5,none⟩),rfl,rfl,qk⟩
        ·intro f6_ w6_ X6_ qp qo qu qk
         obtain ⟨hu5,-⟩:=qo
         have hu5 : f6_ 121 = .pointer (some ⟨b5,5,none⟩):=hu5
         obtain ⟨hr11,-⟩:=qu
         have hr11 : Item.φ (blk b5 [.bool m2.strict,vI m2.heap,vI m2.full,.slice m2.ca m2.comps.length m2.ccap,.slice m2.la m2.links.length m2.lcap,.slice m2.sa m2.shares.length m2.scap] 26) w6_:=hr11
         refine qe rfl (qq (v:=.slice m2.sa m2.shares.length m2.scap) hu5 ag24 (qh (hr11) rfl) rfl ?_)
         exact ⟨.slice m2.sa m2.shares.length m2.scap,rfl,rfl,qk⟩
        ·intro f7_ w7_ X7_ qp qo qu qk
         have hb7 : f7_ 7 = vI ((k : Nat) : Int):=(qp 7 rfl)
         refine qe rfl (qj (v:=vI ((k : Nat) : Int)) hb7 rfl ?_)
         exact ⟨vI ((k : Nat) : Int),rfl,rfl,qk⟩
        ·intro f8_ w8_ X8_ qp qo qu qk
         obtain ⟨hu6,hu7,-⟩:=qo
         have hu6 : f8_ 122 = .slice m2.sa m2.shares.length m2.scap:=hu6
         have hu7 : f8_ 123 = vI ((k : Nat) : Int):=hu7
         refine qe rfl (qs hu6 ha122 hu7 un24 sz70 (by omega) (by omega) (o':=o121 + k * 2) (by omega) rfl ?_)
         exact ⟨.pointer (some ⟨b120,o121 + k * 2,none⟩),rfl,rfl,qk⟩
        ·intro f9_ w9_ X9_ qp qo qu qk
         obtain ⟨hu8,-⟩:=qo
         have hu8 : f9_ 124 = .pointer (some ⟨b120,o121 + k * 2,none⟩):=hu8
         refine qe rfl (qw (vs:=[vI ((m2.shares[k]'(by omega)).rd),vI ((m2.shares[k]'(by omega)).wr)]) hu8 ag70 sz70 ((qk.getR 0 rfl).2) rfl rfl ?_)
         exact ⟨.agg #[vI ((m2.shares[k]'(by omega)).rd),vI ((m2.shares[k]'(by omega)).wr)],rfl,rfl,qk⟩
        ·intro f10_ w10_ X10_ qp qo qu qk
         obtain ⟨hu4,hu9,-⟩:=qo
         have hu4 : f10_ 120 = .agg #[vI ((m.shares[k]'(by omega)).rd),vI ((m.shares[k]'(by omega)).wr)]:=hu4
         have hu9 : f10_ 125 = .agg #[vI ((m2.shares[k]'(by omega)).rd),vI ((m2.shares[k]'(by omega)).wr)]:=hu9
         refine qe rfl (O_binv (a:=.agg #[vI ((m.shares[k]'(by omega)).rd),vI ((m.shares[k]'(by omega)).wr)]) (b:=.agg #[vI ((m2.shares[k]'(by omega)).rd),vI ((m2.shares[k]'(by omega)).wr)]) hu4 hu9 rfl (eg_agg eqg70) (b_neq_agg (d:=2) (EqV.to (b':=decide ((m.shares[k]'(by omega)) = (m2.shares[k]'(by omega)))) (EqV.struct Try.underlying70 stood70 (EF.cons (by decide) ag3 rfl rfl (EqV.int un3) (EF.cons (by decide) ag3 rfl rfl (EqV.int un3) EF.nil))) (eq_share _ _)) rfl) ?_)
         exact ⟨.bool (!(decide ((m.shares[k]'(by omega)) = (m2.shares[k]'(by omega))))),rfl,rfl,qk⟩
        intro f124 w125 qp qo hs126
        obtain ⟨hu10,-⟩:=qo
        have hu10 : f124 126 = .bool (!(decide ((m.shares[k]'(by omega)) = (m2.shares[k]'(by omega))))):=hu10
        have hs126 : St _ _ _ [blk b5 [.bool m2.strict,vI m2.heap,vI m2.full,.slice m2.ca m2.comps.length m2.ccap,.slice m2.la m2.links.length m2.lcap,.slice m2.sa m2.shares.length m2.scap] 26,blk b1 (qn m) 26] _:=hs126
        have e127 : f124 2 = .pointer (some ⟨b1,0,none⟩):=(qp 2 rfl)
        rewrite [qm e127]
        have e128 : f124 3 = .pointer (some ⟨b5,0,none⟩):=(qp 3 rfl)
        rewrite [qm e128]
        have e129 : f124 7 = vI ((k : Nat) : Int):=(qp 7 rfl)
        rewrite [qm e129]
        rewrite [qm hu10]
        refine qb ?_
        refine k5 (t:=(!(decide ((m.shares[k]'(by omega)) = (m2.shares[k]'(by omega)))))) rfl (fun hc130=>?_) (fun hc130=>?_)
        ·refine qi (qc ?_)
         refine qa rfl (qf (v:=.bool false) rfl rfl ?_)
         refine ql (qb (zo (zk (q9 (q9 (zk (q9 ?_)))))))
         refine ⟨.bool false,res1 rfl,?_⟩
         exact ⟨⟨false,rfl,⟨fun h=>(Bool.false_ne_true h).elim,fun h=>absurd h (same_n3 (k:=k) (by omega) (by omega) (by simpa using hc130))⟩⟩,hs126.base⟩
        ·refine zn (z7 (qb (qc ?_)))
         refine qa rfl (qj (v:=vI ((k : Nat) : Int)) rfl rfl ?_)
         refine qa rfl (qt (v:=vI ((k + 1 : Nat) : Int)) rfl rfl rfl (ki (qz (by omega) (by omega))) ?_)
         refine qa rfl (qf (v:=vI ((k + 1 : Nat) : Int)) rfl rfl ?_)
         refine ql (qb ?_)
         refine ⟨_,?_,k + 1,rfl,by omega,sl_snoc hc1 (by omega) (by omega) (by simpa using hc130),rfl,rfl,rfl,hs126.popR.popR⟩
         omega
       ·refine ja (z0 (z0 (ke (qb (qi (qc ?_))))))
        refine qa rfl (qf (v:=.bool true) rfl rfl ?_)
        refine ql (qb (zo ?_))
        refine ⟨.bool true,res1 rfl,?_⟩
        exact ⟨⟨true,rfl,⟨fun _=>same_yes hE (sl_allM ha (by omega) (by omega)) (sl_eq hb1 (by omega) (by omega)) (sl_eq hc1 (by omega) (by omega)),fun _=>rfl⟩⟩,hs110.base⟩

/-- seizin/seizinref17.rows -/
theorem rows_c (a a2 : Option Addr) (cap cap2 : Nat) (l l2 : List (Int × Int)) (w : World) (h : (arrI encR 2 a l).φ w) (h2 : (arrI encR 2 a2 l2).φ w) (hl : l.length ≤ 100000) :
  C Try.prog 43 [.slice a l.length cap,.slice a2 l2.length cap2] w fun v w'=>v = .bool (decide (l = l2)) ∧ Grow w w':=by
 have hs0 : St w (fun _=>False) w [] [arrI encR 2 a l,arrI encR 2 a2 l2]:=St.start w _ (List.forall_mem_cons.2 ⟨h,List.forall_mem_cons.2 ⟨h2,fun _ h=>by cases h⟩⟩)
 refine z8 [.tmp 4] 26 Try.func43 rfl Try.ntmps43 rfl rfl ?_
 refine qi (qc ?_)
 refine qa rfl (qf (v:=.bool false) rfl rfl ?_)
 refine ql (qb (qi (qi (qc ?_))))
 refine qa rfl (qj (v:=.slice a l.length cap) rfl rfl ?_)
 refine qa rfl (qx (len:=l.length) rfl un42 rfl ?_)
 refine qa rfl (qj (v:=.slice a2 l2.length cap2) rfl rfl ?_)
 refine qa rfl (qx (len:=l2.length) rfl un42 rfl ?_)
 refine qa rfl (qt (k:=.i64) (k':=.i64) (a:=((l.length : Nat) : Int)) (b:=((l2.length : Nat) : Int)) rfl rfl rfl yd ?_)
 refine ql (qb ?_)
 refine zd rfl (fun hc1=>?_) (fun hc1=>?_)
 ·refine qi (qc ?_)
  refine qa rfl (qf (v:=.bool false) rfl rfl ?_)
  refine ql (qb (zo (q9 ?_)))
  refine ⟨.bool false,res1 rfl,?_⟩
  exact ⟨congrArg Value.bool (decide_eq_false (fun h=>hc1 (by rw [h]))).symm,hs0.base⟩
 ·refine zn (qb (qi (qi ?_)))
  have hll : l.length = l2.length:=by have:=hc1; omega
  refine qc ?_
  refine qa rfl (qf (v:=vI 0) rfl rfl ?_)
  refine ql (qb (zy ?_))
  refine kw (fun m_ f_ w_=>∃ k : Nat,m_ = l.length - k ∧ (k ≤ l.length) ∧ (l.take k = l2.take k) ∧ f_ 0 = .slice a l.length cap ∧ f_ 1 = .slice a2 l2.length cap2 ∧ f_ 5 = vI ((k : Nat) : Int) ∧ St w (fun _=>False) w_ [] [arrI encR 2 a l,arrI encR 2 a2 l2]) ?_ ?_
  ·exact ⟨_,0,rfl,Nat.zero_le _,rfl,rfl,rfl,rfl,hs0⟩
  ·intro m5 f2 w3; rintro ⟨k,rfl,hk,hb1,e6,e7,e8,hs4⟩
   rewrite [qm e6]
   rewrite [qm e7]
   rewrite [qm e8]
   refine qi (qi (qc ?_))
   refine qa rfl (qj (v:=vI ((k : Nat) : Int)) rfl rfl ?_)
   refine qa rfl (qj (v:=.slice a l.length cap) rfl rfl ?_)
   refine qa rfl (qx (len:=l.length) rfl un42 rfl ?_)
   refine qa rfl (qt (k:=.i64) (k':=.i64) (a:=((k : Nat) : Int)) (b:=((l.length : Nat) : Int)) rfl rfl rfl jg ?_)
   refine ql (qb ?_)
   refine zd rfl (fun hc9=>?_) (fun hc9=>?_)
   ·refine zn (qb (qi (zy (qi ?_))))
    obtain ⟨b10,o11,ha12,hs13⟩:=hs4.elem 0 rfl k (by omega)
    obtain ⟨b14,o15,ha16,hs17⟩:=hs13.elem 2 rfl k (by omega)
    refine jc js (show St _ _ _ [] _ from hs17) (fun i_=>match i_ with|_=>none) (fun i_=>match i_ with|_=>[]) (fun i_=>match i_ with|_=>[]) (fun i_=>match i_ with|2=>[0,1]|3=>[2]|6=>[4,5]|7=>[6]|8=>[3,7]|_=>[]) [0,1,2,3,4,5,6,7,8,9,10,11,12,13,14,15,16,17] [8] (fun i_ v_=>match i_ with|0=>v_ = .slice a l.length cap|1=>v_ = vI ((k : Nat) : Int)|2=>v_ = .pointer (some ⟨b10,o11 + k * 2,none⟩)|3=>v_ = .agg #[vI ((l[k]'(by omega)).1),vI ((l[k]'(by omega)).2)]|4=>v_ = .slice a2 l2.length cap2|5=>v_ = vI ((k : Nat) : Int)|6=>v_ = .pointer (some ⟨b14,o15 + k * 2,none⟩)|7=>v_ = .agg #[vI ((l2[k]'(by omega)).1),vI ((l2[k]'(by omega)).2)]|8=>v_ = .bool (!(decide ((l[k]'(by omega)) = (l2[k]'(by omega)))))|_=>True) (by kernel_rfl) (by kernel_rfl) ⟨?_,?_,?_,?_,?_,?_,?_,?_,?_,trivial⟩ ?_
    ·intro f0_ w0_ X0_ qp qo qu qk
     have hb0 : f0_ 0 = .slice a l.length cap:=(qp 0 rfl)
     refine qe rfl (qj (v:=.slice a l.length cap) hb0 rfl ?_)
     exact ⟨.slice a l.length cap,rfl,rfl,qk⟩
    ·intro f1_ w1_ X1_ qp qo qu qk
     have hb5 : f1_ 5 = vI ((k : Nat) : Int):=(qp 5 rfl)
     refine qe rfl (qj (v:=vI ((k : Nat) : Int)) hb5 rfl ?_)
     exact ⟨vI ((k : Nat) : Int),rfl,rfl,qk⟩
    ·intro f2_ w2_ X2_ qp qo qu qk
     obtain ⟨hu0,hu1,-⟩:=qo
     have hu0 : f2_ 17 = .slice a l.length cap:=hu0
     have hu1 : f2_ 18 = vI ((k : Nat) : Int):=hu1
     refine qe rfl (qs hu0 ha12 hu1 un42 sz51 (by omega) (by omega) (o':=o11 + k * 2) (by omega) rfl ?_)
     exact ⟨.pointer (some ⟨b10,o11 + k * 2,none⟩),rfl,rfl,qk⟩
    ·intro f3_ w3_ X3_ qp qo qu qk
     obtain ⟨hu2,-⟩:=qo
     have hu2 : f3_ 19 = .pointer (some ⟨b10,o11 + k * 2,none⟩):=hu2
     refine qe rfl (qw (vs:=[vI ((l[k]'(by omega)).1),vI ((l[k]'(by omega)).2)]) hu2 ag51 sz51 ((qk.getR 1 rfl).2) rfl rfl ?_)
     exact ⟨.agg #[vI ((l[k]'(by omega)).1),vI ((l[k]'(by omega)).2)],rfl,rfl,qk⟩
    ·intro f4_ w4_ X4_ qp qo qu qk
     have hb1 : f4_ 1 = .slice a2 l2.length cap2:=(qp 1 rfl)
     refine qe rfl (qj (v:=.slice a2 l2.length cap2) hb1 rfl ?_)
     exact ⟨.slice a2 l2.length cap2,rfl,rfl,qk⟩
    ·intro f5_ w5_ X5_ qp qo qu qk
     have hb5 : f5_ 5 = vI ((k : Nat) : Int):=(qp 5 rfl)
     refine qe rfl (qj (v:=vI ((k : Nat) : Int)) hb5 rfl ?_)
     exact ⟨vI ((k : Nat) : Int),rfl,rfl,qk⟩
    ·intro f6_ w6_ X6_ qp qo qu qk
     obtain ⟨hu4,hu5,-⟩:=qo
     have hu4 : f6_ 21 = .slice a2 l2.length cap2:=hu4
     have hu5 : f6_ 22 = vI ((k : Nat) : Int):=hu5
     refine qe rfl (qs hu4 ha16 hu5 un42 sz51 (by omega) (by omega) (o':=o15 + k * 2) (by omega) rfl ?_)
     exact ⟨.pointer (some ⟨b14,o15 + k * 2,none⟩),rfl,rfl,qk⟩
    ·intro f7_ w7_ X7_ qp qo qu qk
     obtain ⟨hu6,-⟩:=qo
     have hu6 : f7_ 23 = .pointer (some ⟨b14,o15 + k * 2,none⟩):=hu6
     refine qe rfl (qw (vs:=[vI ((l2[k]'(by omega)).1),vI ((l2[k]'(by omega)).2)]) hu6 ag51 sz51 ((qk.getR 0 rfl).2) rfl rfl ?_)
     exact ⟨.agg #[vI ((l2[k]'(by omega)).1),vI ((l2[k]'(by omega)).2)],rfl,rfl,qk⟩
    ·intro f8_ w8_ X8_ qp qo qu qk
     obtain ⟨hu3,hu7,-⟩:=qo
     have hu3 : f8_ 20 = .agg #[vI ((l[k]'(by omega)).1),vI ((l[k]'(by omega)).2)]:=hu3
     have hu7 : f8_ 24 = .agg #[vI ((l2[k]'(by omega)).1),vI ((l2[k]'(by omega)).2)]:=hu7
     refine qe rfl (O_binv (a:=.agg #[vI ((l[k]'(by omega)).1),vI ((l[k]'(by omega)).2)]) (b:=.agg #[vI ((l2[k]'(by omega)).1),vI ((l2[k]'(by omega)).2)]) hu3 hu7 rfl (eg_agg eqg51) (b_neq_agg (d:=2) (EqV.to (b':=decide ((l[k]'(by omega)) = (l2[k]'(by omega)))) (EqV.arr un51 sz3 (EE.cons ag3 rfl rfl (EqV.int un3) (EE.cons ag3 rfl rfl (EqV.int un3) EE.nil))) (eq_pair _ _)) rfl) ?_)
     exact ⟨.bool (!(decide ((l[k]'(by omega)) = (l2[k]'(by omega))))),rfl,rfl,qk⟩
    intro f18 w19 qp qo hs20
    obtain ⟨hu8,-⟩:=qo
    have hu8 : f18 25 = .bool (!(decide ((l[k]'(by omega)) = (l2[k]'(by omega))))):=hu8
    have hs20 : St _ _ _ [] _:=hs20
    have e21 : f18 0 = .slice a l.length cap:=(qp 0 rfl)
    rewrite [qm e21]
    have e22 : f18 1 = .slice a2 l2.length cap2:=(qp 1 rfl)
    rewrite [qm e22]
    have e23 : f18 5 = vI ((k : Nat) : Int):=(qp 5 rfl)
    rewrite [qm e23]
    rewrite [qm hu8]
    refine qb ?_
    refine k5 (t:=(!(decide ((l[k]'(by omega)) = (l2[k]'(by omega)))))) rfl (fun hc24=>?_) (fun hc24=>?_)
    ·refine qi (qc ?_)
     refine qa rfl (qf (v:=.bool false) rfl rfl ?_)
     refine ql (qb (zo (zk (q9 (q9 (zk (q9 ?_)))))))
     refine ⟨.bool false,res1 rfl,?_⟩
     exact ⟨congrArg Value.bool (decide_eq_false (sl_ne (k:=k) (by omega) (by omega) (by simpa using hc24))).symm,hs20.base⟩
    ·refine zn (z7 (qb (qc ?_)))
     refine qa rfl (qj (v:=vI ((k : Nat) : Int)) rfl rfl ?_)
     refine qa rfl (qt (v:=vI ((k + 1 : Nat) : Int)) rfl rfl rfl (ki (qz (by omega) (by omega))) ?_)
     refine qa rfl (qf (v:=vI ((k + 1 : Nat) : Int)) rfl rfl ?_)
     refine ql (qb ?_)
     refine ⟨_,?_,k + 1,rfl,by omega,sl_snoc hb1 (by omega) (by omega) (by simpa using hc24),rfl,rfl,rfl,hs20.popR.popR⟩
     omega
   ·refine ja (z0 (z0 (ke (qb (qi (qc ?_))))))
    refine qa rfl (qf (v:=.bool true) rfl rfl ?_)
    refine ql (qb (zo ?_))
    refine ⟨.bool true,res1 rfl,?_⟩
    exact ⟨congrArg Value.bool (decide_eq_true (sl_eq (k:=k) hb1 (by omega) (by omega))).symm,hs4.base⟩

/-- seizin/seizinref06.Same -/
theorem caps_c (a a2 : Option Addr) (cap cap2 : Nat) (l l2 : List CapV) (w : World) (h : (arrI z9 6 a l).φ w) (h2 : (arrI z9 6 a2 l2).φ w) (hl : l.length ≤ 100000) :
  C Try.prog 24 [.slice a l.length cap,.slice a2 l2.length cap2] w fun v w'=>v = .bool (decide (l = l2)) ∧ Grow w w':=by
 have hs0 : St w (fun _=>False) w [] [arrI z9 6 a l,arrI z9 6 a2 l2]:=St.start w _ (List.forall_mem_cons.2 ⟨h,List.forall_mem_cons.2 ⟨h2,fun _ h=>by cases h⟩⟩)
 refine z8 [.tmp 4] 26 Try.func24 rfl Try.ntmps24 rfl rfl ?_
 refine qi (qc ?_)
 refine qa rfl (qf (v:=.bool false) rfl rfl ?_)
 refine ql (qb (qi (qi (qc ?_))))
 refine qa rfl (qj (v:=.slice a l.length cap) rfl rfl ?_)
 refine qa rfl (qx (len:=l.length) rfl un48 rfl ?_)
 refine qa rfl (qj (v:=.slice a2 l2.length cap2) rfl rfl ?_)
 refine qa rfl (qx (len:=l2.length) rfl un48 rfl ?_)
 refine qa rfl (qt (k:=.i64) (k':=.i64) (a:=((l.length : Nat) : Int)) (b:=((l2.length : Nat) : Int)) rfl rfl rfl yd ?_)
 refine ql (qb ?_)
 refine zd rfl (fun hc1=>?_) (fun hc1=>?_)
 ·refine qi (qc ?_)
  refine qa rfl (qf (v:=.bool false) rfl rfl ?_)
  refine ql (qb (zo (q9 ?_)))
  refine ⟨.bool false,res1 rfl,?_⟩
  exact ⟨congrArg Value.bool (decide_eq_false (fun h=>hc1 (by rw [h]))).symm,hs0.base⟩
 ·refine zn (qb (qi (qi ?_)))
  have hll : l.length = l2.length:=by have:=hc1; omega
  refine qc ?_
  refine qa rfl (qf (v:=vI 0) rfl rfl ?_)
  refine ql (qb (zy ?_))
  refine kw (fun m_ f_ w_=>∃ k : Nat,m_ = l.length - k ∧ (k ≤ l.length) ∧ (l.take k = l2.take k) ∧ f_ 0 = .slice a l.length cap ∧ f_ 1 = .slice a2 l2.length cap2 ∧ f_ 5 = vI ((k : Nat) : Int) ∧ St w (fun _=>False) w_ [] [arrI z9 6 a l,arrI z9 6 a2 l2]) ?_ ?_
  ·exact ⟨_,0,rfl,Nat.zero_le _,rfl,rfl,rfl,rfl,hs0⟩
  ·intro m5 f2 w3; rintro ⟨k,rfl,hk,hb1,e6,e7,e8,hs4⟩
   rewrite [qm e6]
   rewrite [qm e7]
   rewrite [qm e8]
   refine qi (qi (qc ?_))
   refine qa rfl (qj (v:=vI ((k : Nat) : Int)) rfl rfl ?_)
   refine qa rfl (qj (v:=.slice a l.length cap) rfl rfl ?_)
   refine qa rfl (qx (len:=l.length) rfl un48 rfl ?_)
   refine qa rfl (qt (k:=.i64) (k':=.i64) (a:=((k : Nat) : Int)) (b:=((l.length : Nat) : Int)) rfl rfl rfl jg ?_)
   refine ql (qb ?_)
   refine zd rfl (fun hc9=>?_) (fun hc9=>?_)
   ·refine zn (qb (qi (zy (qi ?_))))
    obtain ⟨b10,o11,ha12,hs13⟩:=hs4.elem 0 rfl k (by omega)
    obtain ⟨b14,o15,ha16,hs17⟩:=hs13.elem 2 rfl k (by omega)
    refine jc js (show St _ _ _ [] _ from hs17) (fun i_=>match i_ with|_=>none) (fun i_=>match i_ with|_=>[]) (fun i_=>match i_ with|_=>[]) (fun i_=>match i_ with|2=>[0,1]|3=>[2]|6=>[4,5]|7=>[6]|8=>[3,7]|_=>[]) [0,1,2,3,4,5,6,7,8,9,10,11,12,13,14,15,16,17] [8] (fun i_ v_=>match i_ with|0=>v_ = .slice a l.length cap|1=>v_ = vI ((k : Nat) : Int)|2=>v_ = .pointer (some ⟨b10,o11 + k * 6,none⟩)|3=>v_ = .agg #[.bool ((l[k]'(by omega)).tag),vI ((l[k]'(by omega)).base),vI ((l[k]'(by omega)).top),vI ((l[k]'(by omega)).pos),vI ((l[k]'(by omega)).perms),vI ((l[k]'(by omega)).ty)]|4=>v_ = .slice a2 l2.length cap2|5=>v_ = vI ((k : Nat) : Int)|6=>v_ = .pointer (some ⟨b14,o15 + k * 6,none⟩)|7=>v_ = .agg #[.bool ((l2[k]'(by omega)).tag),vI ((l2[k]'(by omega)).base),vI ((l2[k]'(by omega)).top),vI ((l2[k]'(by omega)).pos),vI ((l2[k]'(by omega)).perms),vI ((l2[k]'(by omega)).ty)]|8=>v_ = .bool (!(decide ((l[k]'(by omega)) = (l2[k]'(by omega)))))|_=>True) (by kernel_rfl) (by kernel_rfl) ⟨?_,?_,?_,?_,?_,?_,?_,?_,?_,trivial⟩ ?_
    ·intro f0_ w0_ X0_ qp qo qu qk
     have hb0 : f0_ 0 = .slice a l.length cap:=(qp 0 rfl)
     refine qe rfl (qj (v:=.slice a l.length cap) hb0 rfl ?_)
     exact ⟨.slice a l.length cap,rfl,rfl,qk⟩
    ·intro f1_ w1_ X1_ qp qo qu qk
     have hb5 : f1_ 5 = vI ((k : Nat) : Int):=(qp 5 rfl)
     refine qe rfl (qj (v:=vI ((k : Nat) : Int)) hb5 rfl ?_)
     exact ⟨vI ((k : Nat) : Int),rfl,rfl,qk⟩
    ·intro f2_ w2_ X2_ qp qo qu qk
     obtain ⟨hu0,hu1,-⟩:=qo
     have hu0 : f2_ 17 = .slice a l.length cap:=hu0
     have hu1 : f2_ 18 = vI ((k : Nat) : Int):=hu1
     refine qe rfl (qs hu0 ha12 hu1 un48 sz39 (by omega) (by omega) (o':=o11 + k * 6) (by omega) rfl ?_)
     exact ⟨.pointer (some ⟨b10,o11 + k * 6,none⟩),rfl,rfl,qk⟩
    ·intro f3_ w3_ X3_ qp qo qu qk
     obtain ⟨hu2,-⟩:=qo
     have hu2 : f3_ 19 = .pointer (some ⟨b10,o11 + k * 6,none⟩):=hu2
     refine qe rfl (qw (vs:=[.bool ((l[k]'(by omega)).tag),vI ((l[k]'(by omega)).base),vI ((l[k]'(by omega)).top),vI ((l[k]'(by omega)).pos),vI ((l[k]'(by omega)).perms),vI ((l[k]'(by omega)).ty)]) hu2 ag39 sz39 ((qk.getR 1 rfl).2) rfl rfl ?_)
     exact ⟨.agg #[.bool ((l[k]'(by omega)).tag),vI ((l[k]'(by omega)).base),vI ((l[k]'(by omega)).top),vI ((l[k]'(by omega)).pos),vI ((l[k]'(by omega)).perms),vI ((l[k]'(by omega)).ty)],rfl,rfl,qk⟩
    ·intro f4_ w4_ X4_ qp qo qu qk
     have hb1 : f4_ 1 = .slice a2 l2.length cap2:=(qp 1 rfl)
     refine qe rfl (qj (v:=.slice a2 l2.length cap2) hb1 rfl ?_)
     exact ⟨.slice a2 l2.length cap2,rfl,rfl,qk⟩
    ·intro f5_ w5_ X5_ qp qo qu qk
     have hb5 : f5_ 5 = vI ((k : Nat) : Int):=(qp 5 rfl)
     refine qe rfl (qj (v:=vI ((k : Nat) : Int)) hb5 rfl ?_)
     exact ⟨vI ((k : Nat) : Int),rfl,rfl,qk⟩
    ·intro f6_ w6_ X6_ qp qo qu qk
     obtain ⟨hu4,hu5,-⟩:=qo
     have hu4 : f6_ 21 = .slice a2 l2.length cap2:=hu4
     have hu5 : f6_ 22 = vI ((k : Nat) : Int):=hu5
     refine qe rfl (qs hu4 ha16 hu5 un48 sz39 (by omega) (by omega) (o':=o15 + k * 6) (by omega) rfl ?_)
     exact ⟨.pointer (some ⟨b14,o15 + k * 6,none⟩),rfl,rfl,qk⟩
    ·intro f7_ w7_ X7_ qp qo qu qk
     obtain ⟨hu6,-⟩:=qo
     have hu6 : f7_ 23 = .pointer (some ⟨b14,o15 + k * 6,none⟩):=hu6
     refine qe rfl (qw (vs:=[.bool ((l2[k]'(by omega)).tag),vI ((l2[k]'(by omega)).base),vI ((l2[k]'(by omega)).top),vI ((l2[k]'(by omega)).pos),vI ((l2[k]'(by omega)).perms),vI ((l2[k]'(by omega)).ty)]) hu6 ag39 sz39 ((qk.getR 0 rfl).2) rfl rfl ?_)
     exact ⟨.agg #[.bool ((l2[k]'(by omega)).tag),vI ((l2[k]'(by omega)).base),vI ((l2[k]'(by omega)).top),vI ((l2[k]'(by omega)).pos),vI ((l2[k]'(by omega)).perms),vI ((l2[k]'(by omega)).ty)],rfl,rfl,qk⟩
    ·intro f8_ w8_ X8_ qp qo qu qk
     obtain ⟨hu3,hu7,-⟩:=qo
     have hu3 : f8_ 20 = .agg #[.bool ((l[k]'(by omega)).tag),vI ((l[k]'(by omega)).base),vI ((l[k]'(by omega)).top),vI ((l[k]'(by omega)).pos),vI ((l[k]'(by omega)).perms),vI ((l[k]'(by omega)).ty)]:=hu3
     have hu7 : f8_ 24 = .agg #[.bool ((l2[k]'(by omega)).tag),vI ((l2[k]'(by omega)).base),vI ((l2[k]'(by omega)).top),vI ((l2[k]'(by omega)).pos),vI ((l2[k]'(by omega)).perms),vI ((l2[k]'(by omega)).ty)]:=hu7
     refine qe rfl (O_binv (a:=.agg #[.bool ((l[k]'(by omega)).tag),vI ((l[k]'(by omega)).base),vI ((l[k]'(by omega)).top),vI ((l[k]'(by omega)).pos),vI ((l[k]'(by omega)).perms),vI ((l[k]'(by omega)).ty)]) (b:=.agg #[.bool ((l2[k]'(by omega)).tag),vI ((l2[k]'(by omega)).base),vI ((l2[k]'(by omega)).top),vI ((l2[k]'(by omega)).pos),vI ((l2[k]'(by omega)).perms),vI ((l2[k]'(by omega)).ty)]) hu3 hu7 rfl (eg_agg eqg39) (b_neq_agg (d:=2) (EqV.to (b':=decide ((l[k]'(by omega)) = (l2[k]'(by omega)))) (EqV.struct Try.underlying39 stood39 (EF.cons (by decide) ag4 rfl rfl (EqV.bool un4) (EF.cons (by decide) ag3 rfl rfl (EqV.int un3) (EF.cons (by decide) ag3 rfl rfl (EqV.int un3) (EF.cons (by decide) ag3 rfl rfl (EqV.int un3) (EF.cons (by decide) ag3 rfl rfl (EqV.int un3) (EF.cons (by decide) ag3 rfl rfl (EqV.int un3) EF.nil))))))) (eq_cap _ _)) rfl) ?_)
     exact ⟨.bool (!(decide ((l[k]'(by omega)) = (l2[k]'(by omega))))),rfl,rfl,qk⟩
    intro f18 w19 qp qo hs20
    obtain ⟨hu8,-⟩:=qo
    have hu8 : f18 25 = .bool (!(decide ((l[k]'(by omega)) = (l2[k]'(by omega))))):=hu8
    have hs20 : St _ _ _ [] _:=hs20
    have e21 : f18 0 = .slice a l.length cap:=(qp 0 rfl)
    rewrite [qm e21]
    have e22 : f18 1 = .slice a2 l2.length cap2:=(qp 1 rfl)
    rewrite [qm e22]
    have e23 : f18 5 = vI ((k : Nat) : Int):=(qp 5 rfl)
    rewrite [qm e23]
    rewrite [qm hu8]
    refine qb ?_
    refine k5 (t:=(!(decide ((l[k]'(by omega)) = (l2[k]'(by omega)))))) rfl (fun hc24=>?_) (fun hc24=>?_)
    ·refine qi (qc ?_)
     refine qa rfl (qf (v:=.bool false) rfl rfl ?_)
     refine ql (qb (zo (zk (q9 (q9 (zk (q9 ?_)))))))
     refine ⟨.bool false,res1 rfl,?_⟩
     exact ⟨congrArg Value.bool (decide_eq_false (sl_ne (k:=k) (by omega) (by omega) (by simpa using hc24))).symm,hs20.base⟩
    ·refine zn (z7 (qb (qc ?_)))
     refine qa rfl (qj (v:=vI ((k : Nat) : Int)) rfl rfl ?_)
     refine qa rfl (qt (v:=vI ((k + 1 : Nat) : Int)) rfl rfl rfl (ki (qz (by omega) (by omega))) ?_)
     refine qa rfl (qf (v:=vI ((k + 1 : Nat) : Int)) rfl rfl ?_)
     refine ql (qb ?_)
     refine ⟨_,?_,k + 1,rfl,by omega,sl_snoc hb1 (by omega) (by omega) (by simpa using hc24),rfl,rfl,rfl,hs20.popR.popR⟩
     omega
   ·refine ja (z0 (z0 (ke (qb (qi (qc ?_))))))
    refine qa rfl (qf (v:=.bool true) rfl rfl ?_)
    refine ql (qb (zo ?_))
    refine ⟨.bool true,res1 rfl,?_⟩
    exact ⟨congrArg Value.bool (decide_eq_true (sl_eq (k:=k) hb1 (by omega) (by omega))).symm,hs4.base⟩

set_option maxHeartbeats 1000000 in
/-- seizin/seizinref17.SameWhere -/
theorem sameW_c (A : LayA) (L : LayV) (A2 : LayA) (L2 : LayV) (w : World) (hm : ∀ i ∈ x2 A L ++ x2 A2 L2,i.φ w) (h1 : L.codes.length ≤ 100000) (h2 : L.datas.length ≤ 100000) (h3 : L.heaps.length ≤ 100000) (h4 : L.shs.length ≤ 100000) :
  C Try.prog 21 [.agg #[.slice A.a1 L.codes.length A.c1,.slice A.a2 L.datas.length A.c2,.slice A.a3 L.heaps.length A.c3,.slice A.a4 L.shs.length A.c4,vI L.pages],.agg #[.slice A2.a1 L2.codes.length A2.c1,.slice A2.a2 L2.datas.length A2.c2,.slice A2.a3 L2.heaps.length A2.c3,.slice A2.a4 L2.shs.length A2.c4,vI L2.pages]] w fun v w'=>v = .bool (decide (L = L2)) ∧ Grow w w':=by
 have hs0 : St w (fun _=>False) w [] [arrI encR 2 A.a1 L.codes,arrI encR 2 A.a2 L.datas,arrI encR 2 A.a3 L.heaps,arrI encI 1 A.a4 L.shs,arrI encR 2 A2.a1 L2.codes,arrI encR 2 A2.a2 L2.datas,arrI encR 2 A2.a3 L2.heaps,arrI encI 1 A2.a4 L2.shs]:=St.start w _ hm
 refine z8 [.tmp 4] 62 Try.func21 rfl Try.ntmps21 rfl rfl ?_
 refine qi (qc ?_)
 refine qa rfl (jw (v:=.agg #[.slice A.a1 L.codes.length A.c1,.slice A.a2 L.datas.length A.c2,.slice A.a3 L.heaps.length A.c3,.slice A.a4 L.shs.length A.c4,vI L.pages]) (cs:=[.slice A.a1 L.codes.length A.c1,.slice A.a2 L.datas.length A.c2,.slice A.a3 L.heaps.length A.c3,.slice A.a4 L.shs.length A.c4,vI L.pages]) hs0 rfl rfl rfl ?_)
 intro b1 w2 hb4 hs3
 refine qa rfl (jw (v:=.agg #[.slice A2.a1 L2.codes.length A2.c1,.slice A2.a2 L2.datas.length A2.c2,.slice A2.a3 L2.heaps.length A2.c3,.slice A2.a4 L2.shs.length A2.c4,vI L2.pages]) (cs:=[.slice A2.a1 L2.codes.length A2.c1,.slice A2.a2 L2.datas.length A2.c2,.slice A2.a3 L2.heaps.length A2.c3,.slice A2.a4 L2.shs.length A2.c4,vI L2.pages]) hs3 rfl rfl rfl ?_)
 intro b5 w6 hb8 hs7
 refine qa rfl (qf (v:=.bool false) rfl rfl ?_)
 refine ql (qb (qi (qi (qc ?_))))
 refine qa rfl (qg rfl fd45_0 rfl (o':=0) rfl rfl ?_)
 refine qa rfl (qq (v:=.slice A.a1 L.codes.length A.c1) rfl ag42 (qh (hs7.get 1 rfl) rfl) rfl ?_)
 refine qa rfl (qg rfl fd45_0 rfl (o':=0) rfl rfl ?_)
 refine qa rfl (qq (v:=.slice A2.a1 L2.codes.length A2.c1) rfl ag42 (qh (hs7.get 0 rfl) rfl) rfl ?_)
 refine qa rfl (zi (args:=[.slice A.a1 L.codes.length A.c1,.slice A2.a1 L2.codes.length A2.c1]) rfl rfl rfl en43 (rows_c A.a1 A2.a1 A.c1 A2.c1 L.codes L2.codes _ (hs7.getR 0 rfl) (hs7.getR 4 rfl) (by omega)) ?_)
 rintro _ w9 ⟨rfl,hk11⟩
 have hs10:=hs7.keep hk11
 refine qa rfl (j0 (b:=(decide (L.codes = L2.codes))) rfl rfl ?_)
 refine qa rfl (qj (v:=.bool (!decide (L.codes = L2.codes))) rfl rfl ?_)
 refine q4 (v:=.pointer (some ⟨b1,1,none⟩)) rfl rfl rfl rfl (fun hg12=>qg rfl fd45_1 rfl (o':=1) rfl rfl ⟨rfl,rfl⟩) ?_
 refine q4 (v:=.slice A.a2 L.datas.length A.c2) rfl rfl rfl rfl (fun hg13=>qq (v:=.slice A.a2 L.datas.length A.c2) (show ev _ _ = .pointer (some ⟨b1,1,none⟩) from if_pos hg13) ag42 (qh (hs10.get 1 rfl) rfl) rfl ⟨rfl,rfl⟩) ?_
 refine q4 (v:=.pointer (some ⟨b5,1,none⟩)) rfl rfl rfl rfl (fun hg14=>qg rfl fd45_1 rfl (o':=1) rfl rfl ⟨rfl,rfl⟩) ?_
 refine q4 (v:=.slice A2.a2 L2.datas.length A2.c2) rfl rfl rfl rfl (fun hg15=>qq (v:=.slice A2.a2 L2.datas.length A2.c2) (show ev _ _ = .pointer (some ⟨b5,1,none⟩) from if_pos hg15) ag42 (qh (hs10.get 0 rfl) rfl) rfl ⟨rfl,rfl⟩) ?_
 refine L_guard_f (v:=.bool (decide (L.datas = L2.datas))) rfl rfl rfl rfl hs10 (fun hg16=>?_) (fun w20 hs21=>?_)
 ·refine zi (args:=[.slice A.a2 L.datas.length A.c2,.slice A2.a2 L2.datas.length A2.c2]) rfl (cons2 (if_pos hg16) (cons2 (if_pos hg16) rfl)) rfl en43 (rows_c A.a2 A2.a2 A.c2 A2.c2 L.datas L2.datas _ (hs10.getR 1 rfl) (hs10.getR 5 rfl) (by omega)) ?_
  rintro _ w17 ⟨rfl,hk19⟩
  have hs18:=hs10.keep hk19
  exact ⟨rfl,hs18⟩
 refine q4 (v:=.bool (!decide (L.datas = L2.datas))) rfl rfl rfl rfl (fun hg22=>j0 (b:=(decide (L.datas = L2.datas))) (show ev _ _ = .bool (decide (L.datas = L2.datas)) from if_pos hg22) rfl ⟨rfl,rfl⟩) ?_
 obtain ⟨B23,hB23⟩ : ∃ b : Bool,b = ((!decide (L.codes = L2.codes)) || (!decide (L.datas = L2.datas))):=⟨_,rfl⟩
 refine qa rfl (ka (v:=.bool B23) rfl (Eq.trans (jk _ _) (congrArg Value.bool hB23.symm)) rfl ?_)
 refine qa rfl (qj (v:=.bool B23) rfl rfl ?_)
 refine q4 (v:=.pointer (some ⟨b1,2,none⟩)) rfl rfl rfl rfl (fun hg24=>qg rfl fd45_2 rfl (o':=2) rfl rfl ⟨rfl,rfl⟩) ?_
 refine q4 (v:=.slice A.a3 L.heaps.length A.c3) rfl rfl rfl rfl (fun hg25=>qq (v:=.slice A.a3 L.heaps.length A.c3) (show ev _ _ = .pointer (some ⟨b1,2,none⟩) from if_pos hg25) ag42 (qh (hs21.get 1 rfl) rfl) rfl ⟨rfl,rfl⟩) ?_
 refine q4 (v:=.pointer (some ⟨b5,2,none⟩)) rfl rfl rfl rfl (fun hg26=>qg rfl fd45_2 rfl (o':=2) rfl rfl ⟨rfl,rfl⟩) ?_
 refine q4 (v:=.slice A2.a3 L2.heaps.length A2.c3) rfl rfl rfl rfl (fun hg27=>qq (v:=.slice A2.a3 L2.heaps.length A2.c3) (show ev _ _ = .pointer (some ⟨b5,2,none⟩) from if_pos hg27) ag42 (qh (hs21.get 0 rfl) rfl) rfl ⟨rfl,rfl⟩) ?_
 refine L_guard_f (v:=.bool (decide (L.heaps = L2.heaps))) rfl rfl rfl rfl hs21 (fun hg28=>?_) (fun w32 hs33=>?_)
 ·refine zi (args:=[.slice A.a3 L.heaps.length A.c3,.slice A2.a3 L2.heaps.length A2.c3]) rfl (cons2 (if_pos hg28) (cons2 (if_pos hg28) rfl)) rfl en43 (rows_c A.a3 A2.a3 A.c3 A2.c3 L.heaps L2.heaps _ (hs21.getR 2 rfl) (hs21.getR 6 rfl) (by omega)) ?_
  rintro _ w29 ⟨rfl,hk31⟩
  have hs30:=hs21.keep hk31
  exact ⟨rfl,hs30⟩
 refine q4 (v:=.bool (!decide (L.heaps = L2.heaps))) rfl rfl rfl rfl (fun hg34=>j0 (b:=(decide (L.heaps = L2.heaps))) (show ev _ _ = .bool (decide (L.heaps = L2.heaps)) from if_pos hg34) rfl ⟨rfl,rfl⟩) ?_
 obtain ⟨B35,hB35⟩ : ∃ b : Bool,b = (B23 || (!decide (L.heaps = L2.heaps))):=⟨_,rfl⟩
 refine qa rfl (ka (v:=.bool B35) rfl (Eq.trans (jk _ _) (congrArg Value.bool hB35.symm)) rfl ?_)
 refine qa rfl (qj (v:=.bool B35) rfl rfl ?_)
 refine q4 (v:=.pointer (some ⟨b1,3,none⟩)) rfl rfl rfl rfl (fun hg36=>qg rfl fd45_3 rfl (o':=3) rfl rfl ⟨rfl,rfl⟩) ?_
 refine q4 (v:=.slice A.a4 L.shs.length A.c4) rfl rfl rfl rfl (fun hg37=>qq (v:=.slice A.a4 L.shs.length A.c4) (show ev _ _ = .pointer (some ⟨b1,3,none⟩) from if_pos hg37) ag43 (qh (hs33.get 1 rfl) rfl) rfl ⟨rfl,rfl⟩) ?_
 refine q4 (v:=vI ((L.shs.length : Nat) : Int)) rfl rfl rfl rfl (fun hg38=>qx (len:=L.shs.length) (show ev _ _ = .slice A.a4 L.shs.length A.c4 from if_pos hg38) un43 rfl ⟨rfl,rfl⟩) ?_
 refine q4 (v:=.pointer (some ⟨b5,3,none⟩)) rfl rfl rfl rfl (fun hg39=>qg rfl fd45_3 rfl (o':=3) rfl rfl ⟨rfl,rfl⟩) ?_
 refine q4 (v:=.slice A2.a4 L2.shs.length A2.c4) rfl rfl rfl rfl (fun hg40=>qq (v:=.slice A2.a4 L2.shs.length A2.c4) (show ev _ _ = .pointer (some ⟨b5,3,none⟩) from if_pos hg40) ag43 (qh (hs33.get 0 rfl) rfl) rfl ⟨rfl,rfl⟩) ?_
 refine q4 (v:=vI ((L2.shs.length : Nat) : Int)) rfl rfl rfl rfl (fun hg41=>qx (len:=L2.shs.length) (show ev _ _ = .slice A2.a4 L2.shs.length A2.c4 from if_pos hg41) un43 rfl ⟨rfl,rfl⟩) ?_
 refine q4 (v:=.bool (decide (((L.shs.length : Nat) : Int) ≠ ((L2.shs.length : Nat) : Int)))) rfl rfl rfl rfl (fun hg42=>qt (k:=.i64) (k':=.i64) (a:=((L.shs.length : Nat) : Int)) (b:=((L2.shs.length : Nat) : Int)) (show ev _ _ = vI ((L.shs.length : Nat) : Int) from if_pos hg42) (show ev _ _ = vI ((L2.shs.length : Nat) : Int) from if_pos hg42) rfl yd ⟨rfl,rfl⟩) ?_
 obtain ⟨B43,hB43⟩ : ∃ b : Bool,b = (B35 || (decide (((L.shs.length : Nat) : Int) ≠ ((L2.shs.length : Nat) : Int)))):=⟨_,rfl⟩
 refine qa rfl (ka (v:=.bool B43) rfl (Eq.trans (jk _ _) (congrArg Value.bool hB43.symm)) rfl ?_)
 refine qa rfl (qj (v:=.bool B43) rfl rfl ?_)
 refine q4 (v:=.pointer (some ⟨b1,4,none⟩)) rfl rfl rfl rfl (fun hg44=>qg rfl fd45_4 rfl (o':=4) rfl rfl ⟨rfl,rfl⟩) ?_
 refine q4 (v:=vI L.pages) rfl rfl rfl rfl (fun hg45=>qq (v:=vI L.pages) (show ev _ _ = .pointer (some ⟨b1,4,none⟩) from if_pos hg45) ag3 (qh (hs33.get 1 rfl) rfl) rfl ⟨rfl,rfl⟩) ?_
 refine q4 (v:=.pointer (some ⟨b5,4,none⟩)) rfl rfl rfl rfl (fun hg46=>qg rfl fd45_4 rfl (o':=4) rfl rfl ⟨rfl,rfl⟩) ?_
 refine q4 (v:=vI L2.pages) rfl rfl rfl rfl (fun hg47=>qq (v:=vI L2.pages) (show ev _ _ = .pointer (some ⟨b5,4,none⟩) from if_pos hg47) ag3 (qh (hs33.get 0 rfl) rfl) rfl ⟨rfl,rfl⟩) ?_
 refine q4 (v:=.bool (decide (L.pages ≠ L2.pages))) rfl rfl rfl rfl (fun hg48=>qt (k:=.i64) (k':=.i64) (a:=L.pages) (b:=L2.pages) (show ev _ _ = vI L.pages from if_pos hg48) (show ev _ _ = vI L2.pages from if_pos hg48) rfl yd ⟨rfl,rfl⟩) ?_
 obtain ⟨B49,hB49⟩ : ∃ b : Bool,b = (B43 || decide (L.pages ≠ L2.pages)):=⟨_,rfl⟩
 refine qa rfl (ka (v:=.bool B49) rfl (Eq.trans (jk _ _) (congrArg Value.bool hB49.symm)) rfl ?_)
 subst hB49
 subst hB43
 subst hB35
 subst hB23
 refine ql (qb ?_)
 refine k5 (t:=(((((!decide (L.codes = L2.codes)) || (!decide (L.datas = L2.datas))) || (!decide (L.heaps = L2.heaps))) || (decide (((L.shs.length : Nat) : Int) ≠ ((L2.shs.length : Nat) : Int)))) || decide (L.pages ≠ L2.pages))) rfl (fun hc50=>?_) (fun hc50=>?_)
 ·refine qi (qc ?_)
  refine qa rfl (qf (v:=.bool false) rfl rfl ?_)
  refine ql (qb (zo (q9 ?_)))
  refine ⟨.bool false,res1 rfl,?_⟩
  exact ⟨congrArg Value.bool (lay_no hc50).symm,hs33.base⟩
 ·refine zn (qb (qi (qi ?_)))
  have hE:=lay_E hc50
  have hll:=hE.2.2.2.1
  refine qc ?_
  refine qa rfl (qf (v:=vI 0) rfl rfl ?_)
  refine ql (qb (zy ?_))
  refine kw (fun m_ f_ w_=>∃ k : Nat,m_ = L.shs.length - k ∧ (k ≤ L.shs.length) ∧ (L.shs.take k = L2.shs.take k) ∧ f_ 2 = .pointer (some ⟨b1,0,none⟩) ∧ f_ 3 = .pointer (some ⟨b5,0,none⟩) ∧ f_ 5 = vI ((k : Nat) : Int) ∧ St w (fun _=>False) w_ [blk b5 [.slice A2.a1 L2.codes.length A2.c1,.slice A2.a2 L2.datas.length A2.c2,.slice A2.a3 L2.heaps.length A2.c3,.slice A2.a4 L2.shs.length A2.c4,vI L2.pages] 45,blk b1 [.slice A.a1 L.codes.length A.c1,.slice A.a2 L.datas.length A.c2,.slice A.a3 L.heaps.length A.c3,.slice A.a4 L.shs.length A.c4,vI L.pages] 45] [arrI encR 2 A.a1 L.codes,arrI encR 2 A.a2 L.datas,arrI encR 2 A.a3 L.heaps,arrI encI 1 A.a4 L.shs,arrI encR 2 A2.a1 L2.codes,arrI encR 2 A2.a2 L2.datas,arrI encR 2 A2.a3 L2.heaps,arrI encI 1 A2.a4 L2.shs]) ?_ ?_
  ·exact ⟨_,0,rfl,Nat.zero_le _,rfl,rfl,rfl,rfl,hs33⟩
  ·intro m54 f51 w52; rintro ⟨k,rfl,hk,hb1,e55,e56,e57,hs53⟩
   rewrite [qm e55]
   rewrite [qm e56]
   rewrite [qm e57]
   refine qi (qi (qc ?_))
   refine qa rfl (qj (v:=vI ((k : Nat) : Int)) rfl rfl ?_)
   refine qa rfl (qg rfl fd45_3 rfl (o':=3) rfl rfl ?_)
   refine qa rfl (qq (v:=.slice A.a4 L.shs.length A.c4) rfl ag43 (qh (hs53.get 1 rfl) rfl) rfl ?_)
   refine qa rfl (qx (len:=L.shs.length) rfl un43 rfl ?_)
   refine qa rfl (qt (k:=.i64) (k':=.i64) (a:=((k : Nat) : Int)) (b:=((L.shs.length : Nat) : Int)) rfl rfl rfl jg ?_)
   refine ql (qb ?_)
   refine zd rfl (fun hc58=>?_) (fun hc58=>?_)
   ·refine zn (qb (qi (zy (qi ?_))))
    obtain ⟨b59,o60,ha61,hs62⟩:=hs53.elem 3 rfl k (by omega)
    obtain ⟨b63,o64,ha65,hs66⟩:=hs62.elem 8 rfl k (by omega)
    refine jc js (show St _ _ _ [blk b5 [.slice A2.a1 L2.codes.length A2.c1,.slice A2.a2 L2.datas.length A2.c2,.slice A2.a3 L2.heaps.length A2.c3,.slice A2.a4 L2.shs.length A2.c4,vI L2.pages] 45,blk b1 [.slice A.a1 L.codes.length A.c1,.slice A.a2 L.datas.length A.c2,.slice A.a3 L.heaps.length A.c3,.slice A.a4 L.shs.length A.c4,vI L.pages] 45] _ from hs66) (fun i_=>match i_ with|_=>none) (fun i_=>match i_ with|_=>[]) (fun i_=>match i_ with|1=>[12]|6=>[11]|_=>[]) (fun i_=>match i_ with|1=>[0]|3=>[1,2]|4=>[3]|6=>[5]|8=>[6,7]|9=>[8]|10=>[4,9]|_=>[]) [11,12,0,1,2,3,4,5,6,7,8,9,10,13,14,15,16,17,18,19,20,21,22,23] [10] (fun i_ v_=>match i_ with|0=>v_ = .pointer (some ⟨b1,3,none⟩)|1=>v_ = .slice A.a4 L.shs.length A.c4|2=>v_ = vI ((k : Nat) : Int)|3=>v_ = .pointer (some ⟨b59,o60 + k * 1,none⟩)|4=>v_ = vI (L.shs[k]'(by omega))|5=>v_ = .pointer (some ⟨b5,3,none⟩)|6=>v_ = .slice A2.a4 L2.shs.length A2.c4|7=>v_ = vI ((k : Nat) : Int)|8=>v_ = .pointer (some ⟨b63,o64 + k * 1,none⟩)|9=>v_ = vI (L2.shs[k]'(by omega))|10=>v_ = .bool (decide ((L.shs[k]'(by omega)) ≠ (L2.shs[k]'(by omega))))|_=>True) (by kernel_rfl) (by kernel_rfl) ⟨?_,?_,?_,?_,?_,?_,?_,?_,?_,?_,?_,trivial⟩ ?_
    ·intro f0_ w0_ X0_ qp qo qu qk
     have hb2 : f0_ 2 = .pointer (some ⟨b1,0,none⟩):=(qp 2 rfl)
     refine qe rfl (qg hb2 fd45_3 rfl (o':=3) rfl rfl ?_)
     exact ⟨.pointer (some ⟨b1,3,none⟩),rfl,rfl,qk⟩
    ·intro f1_ w1_ X1_ qp qo qu qk
     obtain ⟨hu0,-⟩:=qo
     have hu0 : f1_ 51 = .pointer (some ⟨b1,3,none⟩):=hu0
     obtain ⟨hr12,-⟩:=qu
     have hr12 : Item.φ (blk b1 [.slice A.a1 L.codes.length A.c1,.slice A.a2 L.datas.length A.c2,.slice A.a3 L.heaps.length A.c3,.slice A.a4 L.shs.length A.c4,vI L.pages] 45) w1_:=hr12
     refine qe rfl (qq (v:=.slice A.a4 L.shs.length A.c4) hu0 ag43 (qh (hr12) rfl) rfl ?_)
     exact ⟨.slice A.a4 L.shs.length A.c4,rfl,rfl,qk⟩
    ·intro f2_ w2_ X2_ qp qo qu qk
     have hb5 : f2_ 5 = vI ((k : Nat) : Int):=(qp 5 rfl)
     refine qe rfl (qj (v:=vI ((k : Nat) : Int)) hb5 rfl ?_)
     exact ⟨vI ((k : Nat) : Int),rfl,rfl,qk⟩
    ·intro f3_ w3_ X3_ qp qo qu qk
     obtain ⟨hu1,hu2,-⟩:=qo
     have hu1 : f3_ 52 = .slice A.a4 L.shs.length A.c4:=hu1
     have hu2 : f3_ 53 = vI ((k : Nat) : Int):=hu2
     refine qe rfl (qs hu1 ha61 hu2 un43 sz3 (by omega) (by omega) (o':=o60 + k * 1) (by omega) rfl ?_)
     exact ⟨.pointer (some ⟨b59,o60 + k * 1,none⟩),rfl,rfl,qk⟩
    ·intro f4_ w4_ X4_ qp qo qu qk
     obtain ⟨hu3,-⟩:=qo
     have hu3 : f4_ 54 = .pointer (some ⟨b59,o60 + k * 1,none⟩):=hu3
     refine qe rfl (qq (v:=vI (L.shs[k]'(by omega))) hu3 ag3 ((qk.getR 1 rfl).2 0 _ rfl) rfl ?_)
     exact ⟨vI (L.shs[k]'(by omega)),rfl,rfl,qk⟩
    ·intro f5_ w5_ X5_ qp qo qu qk
     have hb3 : f5_ 3 = .pointer (some ⟨b5,0,none⟩):=(qp 3 rfl)
     refine qe rfl (qg hb3 fd45_3 rfl (o':=3) rfl rfl ?_)
     exact ⟨.pointer (some ⟨b5,3,none⟩),rfl,rfl,qk⟩
    ·intro f6_ w6_ X6_ qp qo qu qk
     obtain ⟨hu5,-⟩:=qo
     have hu5 : f6_ 56 = .pointer (some ⟨b5,3,none⟩):=hu5
     obtain ⟨hr11,-⟩:=qu
     have hr11 : Item.φ (blk b5 [.slice A2.a1 L2.codes.length A2.c1,.slice A2.a2 L2.datas.length A2.c2,.slice A2.a3 L2.heaps.length A2.c3,.slice A2.a4 L2.shs.length A2.c4,vI L2.pages] 45) w6_:=hr11
     refine qe rfl (qq (v:=.slice A2.a4 L2.shs.length A2.c4) hu5 ag43 (qh (hr11) rfl) rfl ?_)
     exact ⟨.slice A2.a4 L2.shs.length A2.c4,rfl,rfl,qk⟩
    ·intro f7_ w7_ X7_ qp qo qu qk
     have hb5 : f7_ 5 = vI ((k : Nat) : Int):=(qp 5 rfl)
     refine qe rfl (qj (v:=vI ((k : Nat) : Int)) hb5 rfl ?_)
     exact ⟨vI ((k : Nat) : Int),rfl,rfl,qk⟩
    ·intro f8_ w8_ X8_ qp qo qu qk
     obtain ⟨hu6,hu7,-⟩:=qo
     have hu6 : f8_ 57 = .slice A2.a4 L2.shs.length A2.c4:=hu6
     have hu7 : f8_ 58 = vI ((k : Nat) : Int):=hu7
     refine qe rfl (qs hu6 ha65 hu7 un43 sz3 (by omega) (by omega) (o':=o64 + k * 1) (by omega) rfl ?_)
     exact ⟨.pointer (some ⟨b63,o64 + k * 1,none⟩),rfl,rfl,qk⟩
    ·intro f9_ w9_ X9_ qp qo qu qk
     obtain ⟨hu8,-⟩:=qo
     have hu8 : f9_ 59 = .pointer (some ⟨b63,o64 + k * 1,none⟩):=hu8
     refine qe rfl (qq (v:=vI (L2.shs[k]'(by omega))) hu8 ag3 ((qk.getR 0 rfl).2 0 _ rfl) rfl ?_)
     exact ⟨vI (L2.shs[k]'(by omega)),rfl,rfl,qk⟩
    ·intro f10_ w10_ X10_ qp qo qu qk
     obtain ⟨hu4,hu9,-⟩:=qo
     have hu4 : f10_ 55 = vI (L.shs[k]'(by omega)):=hu4
     have hu9 : f10_ 60 = vI (L2.shs[k]'(by omega)):=hu9
     refine qe rfl (qt (k:=.i64) (k':=.i64) (a:=(L.shs[k]'(by omega))) (b:=(L2.shs[k]'(by omega))) hu4 hu9 rfl yd ?_)
     exact ⟨.bool (decide ((L.shs[k]'(by omega)) ≠ (L2.shs[k]'(by omega)))),rfl,rfl,qk⟩
    intro f67 w68 qp qo hs69
    obtain ⟨hu10,-⟩:=qo
    have hu10 : f67 61 = .bool (decide ((L.shs[k]'(by omega)) ≠ (L2.shs[k]'(by omega)))):=hu10
    have hs69 : St _ _ _ [blk b5 [.slice A2.a1 L2.codes.length A2.c1,.slice A2.a2 L2.datas.length A2.c2,.slice A2.a3 L2.heaps.length A2.c3,.slice A2.a4 L2.shs.length A2.c4,vI L2.pages] 45,blk b1 [.slice A.a1 L.codes.length A.c1,.slice A.a2 L.datas.length A.c2,.slice A.a3 L.heaps.length A.c3,.slice A.a4 L.shs.length A.c4,vI L.pages] 45] _:=hs69
    have e70 : f67 2 = .pointer (some ⟨b1,0,none⟩):=(qp 2 rfl)
    rewrite [qm e70]
    have e71 : f67 3 = .pointer (some ⟨b5,0,none⟩):=(qp 3 rfl)
    rewrite [qm e71]
    have e72 : f67 5 = vI ((k : Nat) : Int):=(qp 5 rfl)
    rewrite [qm e72]
    rewrite [qm hu10]
    refine qb ?_
    refine zd rfl (fun hc73=>?_) (fun hc73=>?_)
    ·refine qi (qc ?_)
     refine qa rfl (qf (v:=.bool false) rfl rfl ?_)
     refine ql (qb (zo (zk (q9 (q9 (zk (q9 ?_)))))))
     refine ⟨.bool false,res1 rfl,?_⟩
     exact ⟨congrArg Value.bool (lay_no4 (sl_ne (k:=k) (by omega) (by omega) (by simpa using hc73))).symm,hs69.base⟩
    ·refine zn (z7 (qb (qc ?_)))
     refine qa rfl (qj (v:=vI ((k : Nat) : Int)) rfl rfl ?_)
     refine qa rfl (qt (v:=vI ((k + 1 : Nat) : Int)) rfl rfl rfl (ki (qz (by omega) (by omega))) ?_)
     refine qa rfl (qf (v:=vI ((k + 1 : Nat) : Int)) rfl rfl ?_)
     refine ql (qb ?_)
     refine ⟨_,?_,k + 1,rfl,by omega,sl_snoc hb1 (by omega) (by omega) (by simpa using hc73),rfl,rfl,rfl,hs69.popR.popR⟩
     omega
   ·refine ja (z0 (z0 (ke (qb (qi (qc ?_))))))
    refine qa rfl (qf (v:=.bool true) rfl rfl ?_)
    refine ql (qb (zo ?_))
    refine ⟨.bool true,res1 rfl,?_⟩
    exact ⟨congrArg Value.bool (lay_yes hE (sl_eq (k:=k) hb1 (by omega) (by omega))).symm,hs53.base⟩

set_option maxHeartbeats 1000000 in
/-- seizin/seizinlaw17.Great -/
theorem great_c (m : ImageV) (w : World) (hm : ∀ i ∈ kh m,i.φ w) (h1 : m.comps.length ≤ 200000000000000) (h2 : m.links.length ≤ 200000000000000) (h3 : m.shares.length ≤ 200000000000000) :
  C Try.prog 11 [.agg (qn m).toArray] w fun v w'=>(∃ b,v = .bool b ∧ (b = false → GreatOk m)) ∧ Grow w w':=by
 have hs0 : St w (fun _=>False) w [] (kh m):=St.start w _ hm
 refine z8 [.tmp 2] 45 Try.func11 rfl Try.ntmps11 rfl rfl ?_
 refine qi (qc ?_)
 refine qa rfl (jw (v:=.agg (qn m).toArray) (cs:=(qn m)) hs0 rfl rfl rfl ?_)
 intro b1 w2 hb4 hs3
 refine qa rfl (qf (v:=.bool false) rfl rfl ?_)
 refine ql (qb (qi (qc ?_)))
 refine qa rfl (qg rfl jq rfl (o':=3) rfl rfl ?_)
 refine qa rfl (qq (v:=.slice m.ca m.comps.length m.ccap) rfl ag22 (qh (hs3.get 0 rfl) rfl) rfl ?_)
 refine qa rfl (qx (len:=m.comps.length) rfl un22 rfl ?_)
 refine qa rfl (qg rfl xx rfl (o':=4) rfl rfl ?_)
 refine qa rfl (qq (v:=.slice m.la m.links.length m.lcap) rfl ag23 (qh (hs3.get 0 rfl) rfl) rfl ?_)
 refine qa rfl (qx (len:=m.links.length) rfl un23 rfl ?_)
 refine qa rfl (qt (v:=vI ((m.comps.length + m.links.length : Nat) : Int)) rfl rfl rfl (ki (qz (by omega) (by omega))) ?_)
 refine qa rfl (qg rfl xo rfl (o':=5) rfl rfl ?_)
 refine qa rfl (qq (v:=.slice m.sa m.shares.length m.scap) rfl ag24 (qh (hs3.get 0 rfl) rfl) rfl ?_)
 refine qa rfl (qx (len:=m.shares.length) rfl un24 rfl ?_)
 refine qa rfl (qt (v:=vI ((m.comps.length + m.links.length + m.shares.length : Nat) : Int)) rfl rfl rfl (ki (qz (by omega) (by omega))) ?_)
 refine qa rfl (qf (v:=vI ((m.comps.length + m.links.length + m.shares.length : Nat) : Int)) rfl rfl ?_)
 refine ql (qb (qi (qi (qc ?_))))
 refine qa rfl (qf (v:=vI 0) rfl rfl ?_)
 refine ql (qb (zy ?_))
 refine kw (fun m_ f_ w_=>∃ k : Nat,∃ n : Nat,m_ = m.comps.length - k ∧ (k ≤ m.comps.length) ∧ (m.comps.length + m.links.length + m.shares.length ≤ n) ∧ (n ≤ 600000000000000 + 20000 * k) ∧ ((n < 20000 → ∀ c ∈ m.comps.take k,c.code.length ≤ 20000)) ∧ f_ 1 = .pointer (some ⟨b1,0,none⟩) ∧ f_ 3 = vI ((n : Nat) : Int) ∧ f_ 4 = vI ((k : Nat) : Int) ∧ St w (fun _=>False) w_ [blk b1 (qn m) 26] (kh m)) ?_ ?_
 ·exact ⟨_,0,(m.comps.length + m.links.length + m.shares.length),rfl,Nat.zero_le _,Nat.le_refl _,by omega,(fun _ _ h=>by simp at h),rfl,rfl,rfl,hs3⟩
 ·intro m8 f5 w6; rintro ⟨k,n,rfl,hk,hn1,hn2,hg,e9,e10,e11,hs7⟩
  rewrite [qm e9]
  rewrite [qm e10]
  rewrite [qm e11]
  refine qi (qi (qc ?_))
  refine qa rfl (qj (v:=vI ((k : Nat) : Int)) rfl rfl ?_)
  refine qa rfl (qg rfl jq rfl (o':=3) rfl rfl ?_)
  refine qa rfl (qq (v:=.slice m.ca m.comps.length m.ccap) rfl ag22 (qh (hs7.get 0 rfl) rfl) rfl ?_)
  refine qa rfl (qx (len:=m.comps.length) rfl un22 rfl ?_)
  refine qa rfl (qt (k:=.i64) (k':=.i64) (a:=((k : Nat) : Int)) (b:=((m.comps.length : Nat) : Int)) rfl rfl rfl jg ?_)
  refine qa rfl (qj (v:=.bool (decide (((k : Nat) : Int) < ((m.comps.length : Nat) : Int)))) rfl rfl ?_)
  refine kn (v:=vI ((n : Nat) : Int)) rfl rfl rfl rfl (fun hg12=>qj (v:=vI ((n : Nat) : Int)) rfl rfl ⟨rfl,rfl⟩) ?_
  refine kn (v:=.bool (decide (((n : Nat) : Int) < 20000))) rfl rfl rfl rfl (fun hg13=>qt (k:=.i64) (k':=.i64) (a:=((n : Nat) : Int)) (b:=20000) (show ev _ _ = vI ((n : Nat) : Int) from if_pos hg13) rfl rfl jg ⟨rfl,rfl⟩) ?_
  refine qa rfl (ka rfl (j1 _ _) rfl ?_)
  refine ql (qb ?_)
  refine k5 (t:=((decide (((k : Nat) : Int) < ((m.comps.length : Nat) : Int))) && (decide (((n : Nat) : Int) < 20000)))) rfl (fun hc14=>?_) (fun hc14=>?_)
  ·refine zn (qb (qi (zy ?_)))
   have hkl : k < m.comps.length:=by have:=of_decide_eq_true (Bool.and_eq_true _ _ ▸ hc14 : _ ∧ _).1; omega
   refine qc ?_
   refine qa rfl (qj (v:=vI ((n : Nat) : Int)) rfl rfl ?_)
   refine qa rfl (qg rfl jq rfl (o':=3) rfl rfl ?_)
   refine qa rfl (qq (v:=.slice m.ca m.comps.length m.ccap) rfl ag22 (qh (hs7.get 0 rfl) rfl) rfl ?_)
   refine qa rfl (qj (v:=vI ((k : Nat) : Int)) rfl rfl ?_)
   obtain ⟨b15,o16,ha17,hs18⟩:=hs7.elem 0 rfl k (by omega)
   refine qa rfl (qs rfl ha17 rfl un22 sz53 (by omega) (by omega) (o':=o16 + k * 2) (by omega) rfl ?_)
   refine qa rfl (qg rfl ym rfl (o':=o16 + k * 2) rfl rfl ?_)
   refine qa rfl (qq (v:=.slice ((m.comps[k]'(by omega)).a) ((m.comps[k]'(by omega)).code.length) ((m.comps[k]'(by omega)).cap)) rfl ag27 ((hs18.getR 0 rfl).2 0 _ rfl) rfl ?_)
   refine qa rfl (qx (len:=((m.comps[k]'(by omega)).code.length)) rfl un27 rfl ?_)
   refine qa rfl (O_minE (c:=((min (m.comps[k]'(by omega)).code.length 20000 : Nat) : Int)) rfl rfl (min_nat _) rfl ?_)
   refine qa rfl (qt (v:=vI ((n + (min (m.comps[k]'(by omega)).code.length 20000) : Nat) : Int)) rfl rfl rfl (ki (qz (by omega) (by omega))) ?_)
   refine qa rfl (qf (v:=vI ((n + (min (m.comps[k]'(by omega)).code.length 20000) : Nat) : Int)) rfl rfl ?_)
   refine ql (z7 (qb (qc ?_)))
   refine qa rfl (qj (v:=vI ((k : Nat) : Int)) rfl rfl ?_)
   refine qa rfl (qt (v:=vI ((k + 1 : Nat) : Int)) rfl rfl rfl (ki (qz (by omega) (by omega))) ?_)
   refine qa rfl (qf (v:=vI ((k + 1 : Nat) : Int)) rfl rfl ?_)
   refine ql (qb ?_)
   refine ⟨_,?_,k + 1,(n + min (m.comps[k]'(by omega)).code.length 20000),rfl,by omega,by omega,by omega,(fun hn=>great_snoc (hg (by omega)) (by omega) (by omega)),rfl,rfl,rfl,hs18.popR⟩
   omega
  ·refine ja (z0 (z0 (ke (qb (qi (qc ?_))))))
   refine qa rfl (qj (v:=vI ((n : Nat) : Int)) rfl rfl ?_)
   refine qa rfl (qt (k:=.i64) (k':=.i64) (a:=((n : Nat) : Int)) (b:=20000) rfl rfl rfl b_geq ?_)
   refine qa rfl (qj (v:=.bool (decide (20000 ≤ ((n : Nat) : Int)))) rfl rfl ?_)
   refine q4 (v:=.pointer (some ⟨b1,3,none⟩)) rfl rfl rfl rfl (fun hg19=>qg rfl jq rfl (o':=3) rfl rfl ⟨rfl,rfl⟩) ?_
   refine q4 (v:=.slice m.ca m.comps.length m.ccap) rfl rfl rfl rfl (fun hg20=>qq (v:=.slice m.ca m.comps.length m.ccap) (show ev _ _ = .pointer (some ⟨b1,3,none⟩) from if_pos hg20) ag22 (qh (hs7.get 0 rfl) rfl) rfl ⟨rfl,rfl⟩) ?_
   refine q4 (v:=vI ((m.comps.length : Nat) : Int)) rfl rfl rfl rfl (fun hg21=>qx (len:=m.comps.length) (show ev _ _ = .slice m.ca m.comps.length m.ccap from if_pos hg21) un22 rfl ⟨rfl,rfl⟩) ?_
   refine q4 (v:=.bool (decide (900 < ((m.comps.length : Nat) : Int)))) rfl rfl rfl rfl (fun hg22=>qt (k:=.i64) (k':=.i64) (a:=((m.comps.length : Nat) : Int)) (b:=900) (show ev _ _ = vI ((m.comps.length : Nat) : Int) from if_pos hg22) rfl rfl b_gtr ⟨rfl,rfl⟩) ?_
   refine qa rfl (ka rfl (jk _ _) rfl ?_)
   refine qa rfl (qf (v:=.bool ((decide (20000 ≤ ((n : Nat) : Int))) || (decide (900 < ((m.comps.length : Nat) : Int))))) rfl rfl ?_)
   refine ql (qb (zo ?_))
   refine ⟨.bool ((decide (20000 ≤ ((n : Nat) : Int))) || (decide (900 < ((m.comps.length : Nat) : Int)))),res1 rfl,?_⟩
   exact ⟨⟨_,rfl,great_end hn1 hg hk hc14⟩,hs7.base⟩


end Go.Proofs.Ytgddigkdldnmdaa
