/-
Part 9 of the proof that stands in YteoamepgonpdlaaGreatPcRow, with what it needs from the parts ahead; the parts of this text: Mg, Tb, Cn, Da, Fx.
-/
import Derived.Test.YteoamepgonpdlaaGreatPc8
set_option linter.unusedVariables false
set_option linter.unusedSimpArgs false
set_option maxRecDepth 10000
namespace Go.Proofs.YteoamepgonpdlaaGreat
open Go.RowKit
def oq {aN aP:U} (es:List (aI aN×aI aP)):Prop:=es.Pairwise fun p q=>iu aN p.1 q.1=false
theorem U9 (a b:Int):CP a b=true↔a=b:=decide_eq_true_iff
theorem U' (a b:List UInt8):CQ a b=true↔a=b:=decide_eq_true_iff
theorem x2 {k:IntKind} (a b:aI (.int k)):iu (.int k) a b=true↔a=b:=U9 a b
theorem BH (a b:aI .str):iu .str a b=true↔a=b:=U' a b
section
variable {aN aP:U} (cG: ∀a b:aI aN,iu aN a b=true↔a=b)
include cG
theorem tK {a b:aI aN} (h:a≠b):iu aN a b=false:=by
 cases e:iu aN a b with
 |false=>rfl
 |true=>exact absurd ((cG a b).1 e) h
theorem BI (a:aI aN):iu aN a a=true:=(cG a a).2 rfl
theorem HT (k:aI aN) (x:aI aP): ∀(es:List (aI aN×aI aP)),ct (fc es k x) k=some x∧ ∀j,j≠k→ct (fc es k x) j=ct es j
 | []=>by
  refine⟨?_,fun j au=>?_⟩
  ·simp only[fc,ct,BI cG]
  ·simp only[fc,ct,tK cG au]
 |p::es=>by
  obtain⟨aa,af⟩:=HT k x es
  unfold fc
  cases e:iu aN k p.1 with
  |true=>
   have aj:=(cG _ _).1 e
   simp only
   refine⟨by simp only[ct,BI cG],fun j au=>?_⟩
   simp only[ct,tK cG au,tK cG (fun h=>au (h.trans aj.symm))]
  |false=>
   simp only
   refine⟨by simp only[ct,e,aa],fun j au=>?_⟩
   simp only[ct,af j au]
theorem Nc {k:aI aN}: ∀{es:List (aI aN×aI aP)},(∀p,p∈es→iu aN p.1 k=false)→ct es k=none
 | [],_=>rfl
 |p::es,h=>by
  have aa:=h p (List.mem_cons_self ..)
  have:iu aN k p.1=false:=tK cG fun e=>by rw[e,BI cG] at aa;cases aa
  simp only[ct,this]
  exact Nc fun q bp=>h q (List.mem_cons_of_mem _ bp)
theorem HU (k:aI aN): ∀(es:List (aI aN×aI aP)),oq es→ct (iF es k) k=none∧ ∀j,j≠k→ct (iF es k) j=ct es j
 | [],_=>⟨rfl,fun _ _=>rfl⟩
 |p::es,hn=>by
  obtain⟨ee,eO⟩:=List.pairwise_cons.1 hn
  obtain⟨aa,af⟩:=HU k es eO
  unfold iF
  cases e:iu aN k p.1 with
  |true=>
   have aj:=(cG _ _).1 e
   subst aj
   simp only
   refine⟨Nc cG fun q bp=>?_,fun j au=>?_⟩
   ·have:=ee q bp
    exact tK cG fun e=>by rw[←e,BI cG] at this;cases this
   ·simp only[ct,tK cG au]
  |false=>
   simp only
   refine⟨by simp only[ct,e,aa],fun j au=>?_⟩
   simp only[ct,af j au]
omit cG in
theorem HV {k:aI aN} {x:aI aP}: ∀{es:List (aI aN×aI aP)} {q:aI aN×aI aP},q∈fc es k x→q=(k,x)∨q∈es
 | [],q,h=>by
  unfold fc at h
  exact .inl (List.mem_singleton.1 h)
 |p::es,q,h=>by
  unfold fc at h
  split at h
  ·rcases List.mem_cons.1 h with h |h
   ·exact .inl h
   ·exact .inr (List.mem_cons_of_mem _ h)
  ·rcases List.mem_cons.1 h with h |h
   ·exact .inr (by rw[h];exact List.mem_cons_self ..)
   ·exact(HV h).imp id (List.mem_cons_of_mem _)
omit cG in
theorem HW {k:aI aN}: ∀{es:List (aI aN×aI aP)} {q:aI aN×aI aP},q∈iF es k→q∈es
 | [],q,h=>by cases h
 |p::es,q,h=>by
  unfold iF at h
  split at h
  ·exact List.mem_cons_of_mem _ h
  ·rcases List.mem_cons.1 h with h |h
   ·rw[h];exact List.mem_cons_self ..
   ·exact List.mem_cons_of_mem _ (HW h)
theorem oq.put {k:aI aN} {x:aI aP}: ∀{es:List (aI aN×aI aP)},oq es→oq (fc es k x)
 | [],_=>List.pairwise_singleton _ _
 |p::es,hn=>by
  obtain⟨ee,eO⟩:=List.pairwise_cons.1 hn
  unfold fc
  split
  ·rename_i e
   have aj:=(cG _ _).1 e
   refine List.pairwise_cons.2 ⟨fun q bp=>?_,eO⟩
   have:=ee q bp
   simp only
   rw[aj]
   exact this
  ·rename_i e
   refine List.pairwise_cons.2 ⟨fun q bp=>?_,oq.put eO⟩
   rcases HV bp with rfl |bp
   ·simp only
    exact tK cG fun h=>by rw[h,BI cG] at e;cases e
   ·exact ee q bp
omit cG in
theorem oq.del {k:aI aN}: ∀{es:List (aI aN×aI aP)},oq es→oq (iF es k)
 | [],h=>h
 |p::es,hn=>by
  obtain⟨ee,eO⟩:=List.pairwise_cons.1 hn
  unfold iF
  split
  ·exact eO
  ·exact List.pairwise_cons.2 ⟨fun q bp=>ee q (HW bp),oq.del eO⟩
theorem Nd {k:aI aN} {x:aI aP}: ∀{es:List (aI aN×aI aP)},ct es k=some x→(k,x)∈es
 | [],h=>by cases h
 |p::es,h=>by
  unfold ct at h
  split at h
  ·rename_i e
   injection h with h
   have aj:=(cG _ _).1 e
   subst h aj
   exact List.mem_cons_self ..
  ·exact List.mem_cons_of_mem _ (Nd h)
end
end Go.Proofs.YteoamepgonpdlaaGreat
namespace Go.Proofs.YteoamepgonpdlaaGreat
open Go.RowKit Go.Proofs
@[reducible] def tL:U:=.pr (.int .i64) (.pr (.int .i64) .bool)
@[reducible] def eZ:U:=.arr 16 tL
abbrev eG:=Int×Int×Bool
@[reducible] def qA (s:eG):List bD:=[.d (.int .i64 s.1),.d (.int .i64 s.2.1),.d (.bool s.2.2)]
@[reducible] def pY (s:eG):dL:=.agg (qA s)
@[reducible] def s0:eG:=(0,0,false)
def tM (s:eG):Prop:=(-1000000≤s.1∧s.1≤1000000)∧ -1000000≤s.2.1∧s.2.1≤1000000
def g0:List eG:=List.replicate 16 s0
@[reducible] def oZ (n:Int) (es:List (aI bt×aI eZ)):aG:=[(1001,.cells [.d (.int .i64 n),.mp 1002]),(1002,.map bt eZ es)]
def gW (es:List (aI bt×aI eZ)) (k:Int):List eG:=(ct (aN:=bt) (aP:=eZ) es k).getD g0
structure ot (t:List eG) (es:List (aI bt×aI eZ)):Prop where
 lQ:oq es
 wf: ∀p,p∈es→List.length (α:=eG) p.2=16
 ok: ∀k i,tM ((gW es k).getD i s0)
 at_: ∀c (h:c < t.length),(gW es ((c/16:Nat):Int)).getD (c % 16) s0=t[c]
theorem ot.len {t:List eG} {es:List (aI bt×aI eZ)} (h:ot t es) (k:Int):(gW es k).length=16:=by
 unfold gW
 cases e:ct (aN:=bt) (aP:=eZ) es k with
 |none=>rfl
 |some g=>exact h.wf _ (Nd x2 e)
theorem Va (es:List (aI bt×aI eZ)) (k:Int) (g:List eG):gW (fc (aN:=bt) (aP:=eZ) es k g) k=g∧ ∀j,j≠k→gW (fc (aN:=bt) (aP:=eZ) es k g) j=gW es j:=by
 obtain⟨aa,af⟩:=HT (aN:=bt) (aP:=eZ) x2 k g es
 refine⟨by unfold gW;rw[aa];rfl,fun j au=>?_⟩
 unfold gW
 rw[af j au]
theorem Vb {es:List (aI bt×aI eZ)} (hn:oq es) (k:Int):gW (iF (aN:=bt) (aP:=eZ) es k) k=g0∧ ∀j,j≠k→gW (iF (aN:=bt) (aP:=eZ) es k) j=gW es j:=by
 obtain⟨aa,af⟩:=HU (aN:=bt) (aP:=eZ) x2 k es hn
 refine⟨by unfold gW;rw[aa];rfl,fun j au=>?_⟩
 unfold gW
 rw[af j au]
def rC (es:List (aI bt×aI eZ)) (c:Nat) (s:eG):List (aI bt×aI eZ):=
 if(gW es ((c/16:Nat):Int)).set (c % 16) s=g0 then iF (aN:=bt) (aP:=eZ) es ((c/16:Nat):Int) else fc (aN:=bt) (aP:=eZ) es ((c/16:Nat):Int) ((gW es ((c/16:Nat):Int)).set (c % 16) s)
theorem Vc {t:List eG} {es:List (aI bt×aI eZ)} (h:ot t es) (c:Nat) (s:eG):gW (rC es c s) ((c/16:Nat):Int)=(gW es ((c/16:Nat):Int)).set (c % 16) s∧ ∀j,j≠((c/16:Nat):Int)→gW (rC es c s) j=gW es j:=by
 unfold rC
 split
 ·rename_i e
  obtain⟨aa,af⟩:=Vb h.lQ ((c/16:Nat):Int)
  exact⟨aa.trans e.symm,af⟩
 ·exact Va es _ _
theorem ot.set {t:List eG} {es:List (aI bt×aI eZ)} (h:ot t es) (c:Nat) (s:eG) (hs:tM s):ot (t.set c s) (rC es c s):=by
 obtain⟨g1,g2⟩:=Vc h c s
 refine⟨?_,?_,fun k i=>?_,fun d hd=>?_⟩
 ·unfold rC
  split
  ·exact oq.del h.lQ
  ·exact oq.put x2 h.lQ
 ·intro p hp
  unfold rC at hp
  split at hp
  ·exact h.wf p (HW hp)
  ·rcases HV hp with rfl |hp
   ·show List.length (α:=eG) ((gW es ((c/16:Nat):Int)).set (c % 16) s)=16
    rw[List.length_set];exact h.len _
   ·exact h.wf p hp
 ·by_cases e:k=((c/16:Nat):Int)
  ·rw[e,g1,List.getD_eq_getElem?_getD,List.getElem?_set]
   split
   ·split
    ·exact hs
    ·exact⟨by decide,by decide⟩
   ·rw[←List.getD_eq_getElem?_getD]
    exact h.ok _ _
  ·rw[g2 _ e]
   exact h.ok _ _
 ·rw[List.length_set] at hd
  have aB:=h.len ((c/16:Nat):Int)
  by_cases e:d/16=c/16
  ·rw[e,g1]
   by_cases ak:d=c
   ·subst ak
    rw[List.getElem_set_self,List.getD_eq_getElem?_getD,List.getElem?_set_self (by rw[aB];omega)]
    rfl
   ·have bg:c % 16≠d % 16:=fun h=>ak (by omega)
    rw[List.getElem_set_ne (Ne.symm ak),List.getD_eq_getElem?_getD,List.getElem?_set_ne bg,←List.getD_eq_getElem?_getD,←e]
    exact h.at_ d hd
  ·have bg:((d/16:Nat):Int)≠((c/16:Nat):Int):=fun h=>e (by omega)
   rw[g2 _ bg,List.getElem_set_ne (fun ak=>e (by rw[ak]))]
   exact h.at_ d hd
theorem Nf:(Tryz.prog.info? 188).map (·.size)=some 3:=by kernel_rfl
def rD (s:eG):Bool:=if s.1=1 then decide (0≤s.2.1)&&decide (s.2.1 < 512) else decide (s=s0)||decide (s=(2,0,false))
theorem Ng (s q:eG):decide (s=q)=true↔g9 (qA s)=g9 (qA q):=by
 rw[decide_eq_true_iff]
 simp only[g9,xY,qA,List.cons.injEq,Lit.int.injEq,Lit.bool.injEq,true_and,and_true]
 constructor
 ·intro h;subst h;exact⟨rfl,rfl,rfl⟩
 ·rintro⟨aa,af,ay⟩;exact Prod.ext aa (Prod.ext af ay)
theorem Vd {n:Int} (h: -1000000≤n∧n≤1000000):(Lit.int .i64 n).wf=true:=by
 simp only[Lit.wf,Bool.and_eq_true,decide_eq_true_eq]
 have aa:IntKind.min .i64= -9223372036854775808:=by decide
 have af:IntKind.max .i64=9223372036854775807:=by decide
 rw[aa,af]
 omega
theorem Nh (d:Nat) {n:Int} (h: -1000000≤n∧n≤1000000):Tryz.prog.keyLits (d+1) 3 [.int .i64 n]=some [.int .i64 n]:=by
 unfold Program.keyLits
 simp only[Tryz.underlying3]
 have hw:=Vd h
 simp[hw]
theorem lR (d:Nat) {s:eG} (h:tM s):Tryz.prog.keyLits (d+2) 188 (kD (qA s))=some (g9 (qA s)):=by
 have aW:Tryz.prog.cellsOf 188=3:=by kernel_rfl
 have aX:Tryz.prog.cellsOf 3=1:=by kernel_rfl
 have bT:Tryz.prog.cellsOf 4=1:=by kernel_rfl
 have cz:=Nh d h.1
 have er:=Nh d h.2
 have eX:Tryz.prog.keyLits (d+1) 4 [.bool s.2.2]=some [.bool s.2.2]:=by
  unfold Program.keyLits
  simp only[Tryz.underlying4]
 unfold Program.keyLits
 simp only[Tryz.underlying188,aW]
 simp[kD,DV,qA,aX,bT,cz,er,eX,g9,xY]
theorem Ve (s:eG) (hs:tM s):Fn Tryz.prog 151 [.c (pY s)] [] [] (iw (rD s)) []:=by
 refine Fn.of ai [] _ _ _ _ _ Tryz.func151 rfl rfl (by kernel_rfl) (by kernel_rfl) rfl (aJ ai) rfl ?_
 refine⟨rfl,?_⟩
 refine⟨fun aa=>?_,fun aa=>?_⟩
 ·have aa:=of_decide_eq_true aa
  refine⟨fun af=>?_,fun af=>?_⟩
  ·refine⟨_,_,_,ah.refl _ _,rfl,?_,trivial,rfl⟩
   show decide (s.2.1 < 512)=rD s
   unfold rD
   have af:decide (0≤s.2.1)=true:=af
   rw[if_pos aa,af,Bool.true_and]
  ·refine⟨_,_,_,ah.refl _ _,rfl,?_,trivial,rfl⟩
   show false=rD s
   unfold rD
   have af:decide (0≤s.2.1)=false:=af
   rw[if_pos aa,af,Bool.false_and]
 ·have aa:=of_decide_eq_false aa
  refine⟨_,_,fun N=>HJ (m:=5) (D:=5) (lx:=qA s) (ly:=[.d (.int .i64 0),.d (.int .i64 0),.d (.lit false)]) rfl (by kernel_rfl) (by kernel_rfl) (by decide) rfl rfl rfl rfl rfl (lR 3 hs) (lR 3 (s:=s0) ⟨by decide,by decide⟩) (Ng s s0) N,rfl,?_⟩
  refine⟨fun af=>?_,fun af=>?_⟩
  ·refine⟨_,_,_,ah.refl _ _,rfl,?_,trivial,rfl⟩
   show true=rD s
   unfold rD
   rw[if_neg aa,af,Bool.true_or]
  ·refine⟨_,_,fun N=>HJ (m:=5) (D:=5) (lx:=qA s) (ly:=[.d (.int .i64 2),.d (.int .i64 0),.d (.lit false)]) rfl (by kernel_rfl) (by kernel_rfl) (by decide) rfl rfl rfl rfl rfl (lR 3 hs) (lR 3 (s:=(2,0,false)) ⟨by decide,by decide⟩) (Ng s (2,0,false)) N,rfl,?_⟩
   refine⟨_,_,_,ah.refl _ _,rfl,?_,trivial,rfl⟩
   show decide (s=(2,0,false))=rD s
   unfold rD
   rw[if_neg aa,af,Bool.false_or]
def wg (s:eG):Bool:=decide (s.1=1)&&s.2.2
theorem Vf (s:eG):Fn Tryz.prog 134 [.c (pY s)] [] [] (iw (wg s)) []:=by
 refine Fn.of ai [] _ _ _ _ _ Tryz.func134 rfl rfl (by kernel_rfl) (by kernel_rfl) rfl (aJ ai) rfl ?_
 refine⟨rfl,?_⟩
 refine⟨fun aa=>?_,fun aa=>?_⟩
 ·refine⟨_,_,_,ah.refl _ _,rfl,?_,trivial,rfl⟩
  show s.2.2=wg s
  unfold wg
  have aa:decide (s.1=1)=true:=aa
  rw[aa,Bool.true_and]
 ·refine⟨_,_,_,ah.refl _ _,rfl,?_,trivial,rfl⟩
  show false=wg s
  unfold wg
  have aa:decide (s.1=1)=false:=aa
  rw[aa,Bool.false_and]
theorem Ni (n:Int):Fn Tryz.prog 113 [aC n] [] [] (iw (decide (0≤n)&&decide (n≤256))) []:=by
 refine Fn.of ai [] _ _ _ _ _ Tryz.func113 rfl rfl (by kernel_rfl) (by kernel_rfl) rfl (aJ ai) rfl ?_
 refine⟨fun h=>?_,fun h=>?_⟩
 ·refine⟨_,_,_,ah.refl _ _,rfl,?_,trivial,rfl⟩
  show decide (n≤256)=_
  have h:decide (0≤n)=true:=h
  rw[h,Bool.true_and]
 ·refine⟨_,_,_,ah.refl _ _,rfl,?_,trivial,rfl⟩
  show false=_
  have h:decide (0≤n)=false:=h
  rw[h,Bool.false_and]
theorem Vg (n:Int) (es:List (aI bt×aI eZ)):Fn Tryz.prog 105 [aH 1001] (oZ n es) [] (aC n) (oZ n es):=by
 refine Fn.of ai [] _ _ _ _ _ Tryz.func105 rfl rfl (by kernel_rfl) (by kernel_rfl) rfl (aJ ai) rfl ?_
 exact⟨_,_,_,ah.refl _ _,rfl,rfl,⟨rfl,rfl,trivial⟩,rfl⟩
theorem Nj {t:List eG} {es:List (aI bt×aI eZ)} (hR:ot t es) (aB:t.length≤256) (c:Nat) (hc:c < t.length):Fn Tryz.prog 108 [aH 1001,aC (c:Int)] (oZ (t.length:Nat) es) [] (.c (pY t[c])) (oZ (t.length:Nat) es):=by
 have bk:(gW es ((c:Int)/16)).getD ((c:Int) % 16).toNat s0=t[c]:=by
  rw[←hR.at_ c hc]
  congr 1
 obtain⟨Vh,BJ,DW⟩: ∃i,Tryz.prog.info? 188=some i∧i.size=3:=by
  have:=Nf
  cases e:Tryz.prog.info? 188 with
  |none=>rw[e] at this;cases this
  |some i=>rw[e] at this;exact⟨i,rfl,by simpa using this⟩
 refine Fn.of ai [] _ _ _ _ _ Tryz.func108 rfl rfl (by kernel_rfl) (by kernel_rfl) rfl (aJ ai) rfl ?_
 refine⟨rfl,?_⟩
 refine⟨fun aa=>absurd (of_decide_eq_true aa) (by omega),fun aa=>?_⟩
 refine⟨fun aa=>absurd (of_decide_eq_true aa) (by omega),fun aa=>?_⟩
 refine⟨⟨by omega,by omega⟩,⟨by omega,by omega⟩,?_⟩
 refine⟨⟨by omega,by omega⟩,⟨by omega,by omega⟩,?_⟩
 refine⟨_,_,fun N=>UZ (n:=16) (e:=188) (u:=tL) (g:=gW es ((c:Int)/16)) (j:=(c:Int) % 16) rfl Tryz.underlying217 Tryz.underlying188 rfl BJ DW rfl rfl (by omega) (by omega) N,rfl,?_⟩
 refine⟨_,_,_,ah.refl _ _,rfl,?_,⟨rfl,rfl,trivial⟩,rfl⟩
 show s4 (.c (.agg (fH tL ((gW es ((c:Int)/16)).getD ((c:Int) % 16).toNat s0) 0 3))) _
 rw[bk]
 exact⟨rfl,rfl,rfl,trivial⟩
theorem Vi (g g':List eG) (aB:g.length=16) (gj:g'.length=16):g9 (fH eZ g 0 48)=g9 (fH eZ g' 0 48)→g=g':=by
 intro h
 have eB: ∀(l:List bD) (j:Nat),(g9 l)[j]? =(l[j]?).map xY:=fun l=>by
  induction l with
  |nil=>intro j;simp[g9]
  |cons s l aZ=>
   intro j
   match j with
   |0=>rfl
   |j+1=>simpa[g9] using aZ j
 have hc: ∀i,i < 16→ ∀q,q < 3→xY (.d (e4 tL (g.getD i s0) q))=xY (.d (e4 tL (g'.getD i s0) q)):=fun i aD q bp=>by
  have aa:=congrArg (fun l=>l[i*3+q]?) h
  simp only[eB] at aa
  have aj:=y4 eZ g 48 0 (i*3+q) (by omega)
  have ak:=y4 eZ g' 48 0 (i*3+q) (by omega)
  rw[aj,ak] at aa
  simp only[Option.map_some,Option.some.injEq,Nat.zero_add] at aa
  have aW:e4 eZ g (i*3+q)=e4 tL (g.getD i s0) q:=HR (u:=tL) (n:=16) g i q bp
  have aX:e4 eZ g' (i*3+q)=e4 tL (g'.getD i s0) q:=HR (u:=tL) (n:=16) g' i q bp
  rw[aW,aX] at aa
  exact aa
 refine List.ext_getElem (aB.trans gj.symm) fun i aa af=>?_
 have a0:=hc i (by omega) 0 (by omega)
 have cj:=hc i (by omega) 1 (by omega)
 have cu:=hc i (by omega) 2 (by omega)
 have aj:g.getD i s0=g[i]:=by rw[List.getD_eq_getElem?_getD,List.getElem?_eq_getElem aa];rfl
 have ak:g'.getD i s0=g'[i]:=by rw[List.getD_eq_getElem?_getD,List.getElem?_eq_getElem af];rfl
 rw[aj,ak] at a0 cj cu
 have kY:Lit.int .i64 (g[i]).1=Lit.int .i64 (g'[i]).1:=a0
 have b1:Lit.int .i64 (g[i]).2.1=Lit.int .i64 (g'[i]).2.1:=cj
 have b2:Lit.bool (g[i]).2.2=Lit.bool (g'[i]).2.2:=cu
 injection kY with _ kY
 injection b1 with _ b1
 injection b2 with b2
 exact Prod.ext kY (Prod.ext b1 b2)
theorem mapM_some {α β:Type} {f:α→Option β} {g:α→β}: ∀{l:List α},(∀a,a∈l→f a=some (g a))→l.mapM f=some (l.map g)
 | [],_=>rfl
 |a::l,h=>by
  rw[List.mapM_cons,h a (List.mem_cons_self ..),mapM_some fun b ag=>h b (List.mem_cons_of_mem _ ag)]
  rfl
theorem Nk (d:Nat) (g:List eG) (h: ∀i,i < 16→tM (g.getD i s0)):Tryz.prog.keyLits (d+3) 217 (kD (fH eZ g 0 48))=some (g9 (fH eZ g 0 48)):=by
 have aW:Tryz.prog.cellsOf 217=48:=by kernel_rfl
 have aX:Tryz.prog.cellsOf 188=3:=by kernel_rfl
 have key: ∀i,i < 16→Tryz.prog.keyLits (d+2) 188 (((kD (fH eZ g 0 48)).drop (i*3)).take 3)=some (g9 (qA (g.getD i s0))):=by
  intro i aD
  match i,aD with
  |0,_=>exact lR d (h 0 (by omega))
  |1,_=>exact lR d (h 1 (by omega))
  |2,_=>exact lR d (h 2 (by omega))
  |3,_=>exact lR d (h 3 (by omega))
  |4,_=>exact lR d (h 4 (by omega))
  |5,_=>exact lR d (h 5 (by omega))
  |6,_=>exact lR d (h 6 (by omega))
  |7,_=>exact lR d (h 7 (by omega))
  |8,_=>exact lR d (h 8 (by omega))
  |9,_=>exact lR d (h 9 (by omega))
  |10,_=>exact lR d (h 10 (by omega))
  |11,_=>exact lR d (h 11 (by omega))
  |12,_=>exact lR d (h 12 (by omega))
  |13,_=>exact lR d (h 13 (by omega))
  |14,_=>exact lR d (h 14 (by omega))
  |15,_=>exact lR d (h 15 (by omega))
  |n+16,aD=>exact absurd aD (by omega)
 unfold Program.keyLits
 simp only[Tryz.underlying217,aW,aX]
 have aB:(kD (fH eZ g 0 48)).length=48:=rfl
 have hr:((List.range 16).map fun i=>g9 (qA (g.getD i s0))).flatten=g9 (fH eZ g 0 48):=rfl
 generalize kD (fH eZ g 0 48)=vl at aB key⊢
 rw[if_pos aB,mapM_some (g:=fun i=>g9 (qA (g.getD i s0))) fun i aD=>key i (List.mem_range.1 aD)]
 exact congrArg some hr
theorem Vj:(Tryz.prog.info? 217).map (·.size)=some 48:=by kernel_rfl
theorem nC {T n:Nat} (h:(Tryz.prog.info? T).map (·.size)=some n): ∃i,Tryz.prog.info? T=some i∧i.size=n:=by
 cases e:Tryz.prog.info? T with
 |none=>rw[e] at h;cases h
 |some i=>rw[e] at h;exact⟨i,rfl,by simpa using h⟩
theorem Nl (i:Nat):g0.getD i s0=s0:=by
 unfold g0
 rw[List.getD_eq_getElem?_getD,List.getElem?_replicate]
 split <;>rfl
@[reducible] def ou:List bD:=[.d (.int .i64 0),.d (.int .i64 0),.d (.lit false)]
@[reducible] def DX:List bD:=ou++(ou++(ou++(ou++(ou++(ou++(ou++(ou++(ou++(ou++(ou++(ou++(ou++(ou++(ou++ou))))))))))))))
theorem Vk:Tryz.prog.keyLits 5 217 (kD DX)=some (g9 DX):=Nk 2 g0 fun i _=>by rw[Nl];exact⟨by decide,by decide⟩
@[reducible] def Vl (c:Nat):aQ:=[(0,aH 1001),(1,aC (c:Int)),(5,aH 5),(6,aH 6)]
@[reducible] def Vm (n:Int) (es:List (aI bt×aI eZ)) (s:eG) (g:List eG):aG:=[(6,.val eZ g),(5,.cells (qA s)),(1001,.cells [.d (.int .i64 n),.mp 1002]),(1002,.map bt eZ es)]
set_option maxHeartbeats 1000000 in
theorem Vn {t:List eG} {es:List (aI bt×aI eZ)} (hR:ot t es) (n:Int) (c:Nat) (hc:c < 100000) (s:eG) (hs:tM s):Fn Tryz.prog 152 [aH 1001,aC (c:Int),.c (pY s)] (oZ n es) [] ry (oZ n (rC es c s)):=by
 obtain⟨Vh,BJ,DW⟩:=nC Nf
 obtain⟨ada,Nm,Nn⟩:=nC Vj
 have hlen:=hR.len ((c:Int)/16)
 have wh:((c/16:Nat):Int)=(c:Int)/16:=by omega
 have tN:((c:Int) % 16).toNat=c % 16:=by omega
 have zG:(gW es ((c:Int)/16)).set (c % 16) s=g0→rC es c s=iF (aN:=bt) (aP:=eZ) es ((c:Int)/16):=fun h=>by
  unfold rC
  rw[wh,if_pos h]
  rfl
 have Np: ¬(gW es ((c:Int)/16)).set (c % 16) s=g0→rC es c s=fc (aN:=bt) (aP:=eZ) es ((c:Int)/16) ((gW es ((c:Int)/16)).set (c % 16) s):=fun h=>by
  unfold rC
  rw[wh,if_neg h]
  rfl
 have BK:((gW es ((c:Int)/16)).set (c % 16) s).length=16:=by rw[List.length_set];exact hlen
 have Nq: ∀i,i < 16→tM (((gW es ((c:Int)/16)).set (c % 16) s).getD i s0):=fun i _=>by
  rw[List.getD_eq_getElem?_getD,List.getElem?_set]
  split
  ·split
   ·exact hs
   ·exact⟨by decide,by decide⟩
  ·rw[←List.getD_eq_getElem?_getD];exact hR.ok _ _
 obtain⟨g',uY⟩: ∃g':List eG,g'=(gW es ((c:Int)/16)).set (c % 16) s:=⟨_,rfl⟩
 rw[←uY] at zG Np Nq BK
 have heq:decide (g'=g0)=true↔g9 (fH eZ g' 0 48)=g9 DX:=by
  rw[decide_eq_true_iff]
  exact⟨fun h=>by rw[h];rfl,Vi g' g0 BK rfl⟩
 refine Fn.of ai [2] _ _ _ _ _ Tryz.func152 rfl rfl (by kernel_rfl) (by kernel_rfl) rfl (aJ ai) rfl ?_
 refine⟨rfl,?_⟩
 refine⟨⟨by omega,by omega⟩,⟨by omega,by omega⟩,?_⟩
 refine⟨rfl,?_⟩
 show av _ _ _ _ _ _ _
 refine av.go ai (aJ ai) [] (by kernel_rfl) ((ah.U0 6 (u:=eZ) (x:=gW es ((c:Int)/16)) ⟨hlen,fun _ _=>⟨trivial,trivial,trivial⟩⟩ rfl).trans (ah.sub (K':=Vl c) (B':=Vm n es s (gW es ((c:Int)/16))) ⟨rfl,rfl,rfl,rfl,trivial⟩ ⟨rfl,rfl,rfl,rfl,trivial⟩)) ?_
 refine⟨⟨by omega,by omega⟩,⟨by omega,by omega⟩,?_⟩
 refine⟨_,_,fun N=>U1 (s:=3) (j:=(c:Int) % 16) rfl Tryz.underlying217 BJ DW rfl rfl (by omega) (by omega) N,rfl,?_⟩
 rw[tN]
 refine⟨_,⟨[6],[],[(6,some (.val eZ g'))]⟩,fun N=>by rw[uY];exact U3 (n:=16) (u:=tL) (g:=gW es ((c:Int)/16)) (y:=s) rfl BJ DW rfl (by omega) rfl rfl ⟨trivial,trivial,trivial⟩ N,rfl,?_⟩
 refine⟨_,_,fun N=>M8 (u:=eZ) (y:=g') rfl Tryz.underlying217 rfl Nm Nn rfl rfl N,rfl,?_⟩
 refine⟨_,_,fun N=>U4 ai rfl rfl Tryz.underlying217 BJ rfl N,rfl,?_⟩
 refine⟨_,_,fun N=>HJ (m:=5) (D:=5) (r:=decide (g'=g0)) (lx:=fH eZ g' 0 48) (ly:=DX) rfl (by kernel_rfl) (by kernel_rfl) (by decide) rfl rfl rfl rfl rfl (Nk 2 g' Nq) Vk (heq) N,rfl,?_⟩
 refine⟨fun h=>?_,fun h=>?_⟩
 ·have h:=of_decide_eq_true h
  refine⟨⟨by omega,by omega⟩,⟨by omega,by omega⟩,?_⟩
  rw[zG h]
  exact⟨_,_,_,ah.refl _ _,rfl,trivial,⟨rfl,rfl,trivial⟩,rfl⟩
 ·have h:=of_decide_eq_false h
  refine⟨⟨by omega,by omega⟩,⟨by omega,by omega⟩,?_⟩
  refine⟨_,_,fun N=>M8 (u:=eZ) (y:=g') rfl Tryz.underlying217 rfl Nm Nn rfl rfl N,rfl,?_⟩
  refine⟨g',⟨⟨BK,fun _ _=>⟨trivial,trivial,trivial⟩⟩,rfl⟩,?_⟩
  refine⟨rfl,?_⟩
  rw[Np h]
  exact⟨_,_,_,ah.refl _ _,rfl,trivial,⟨rfl,rfl,trivial⟩,rfl⟩
theorem Vo {t:List eG} {es:List (aI bt×aI eZ)} (hR:ot t es) (aB:t.length≤256) (c:Nat) (hc:c < t.length) (s:eG) (hs:tM s) (hr:rD s=true):
  Fn Tryz.prog 145 [aH 1001,aC (c:Int),.c (pY s)] (oZ (t.length:Nat) es) [] (.c6 [pY t[c],fh 0]) (oZ (t.length:Nat) (rC es c s)):=by
 refine Fn.of ai [] _ _ _ _ _ Tryz.func145 rfl rfl (by kernel_rfl) (by kernel_rfl) rfl (aJ ai) rfl ?_
 refine⟨rfl,?_⟩
 refine⟨rfl,?_⟩
 refine⟨fun aa=>absurd (of_decide_eq_true aa) (by omega),fun aa=>?_⟩
 refine⟨fun aa=>absurd (of_decide_eq_true aa) (by omega),fun aa=>?_⟩
 refine⟨_,_,_,_,Ve s hs,trivial,rfl,?_⟩
 refine⟨fun aa=>absurd aa (by rw[hr];decide),fun _=>?_⟩
 refine⟨_,_,_,_,Nj hR aB c hc,⟨rfl,rfl,trivial⟩,rfl,?_⟩
 refine⟨rfl,?_⟩
 refine⟨_,_,_,_,Vn hR (t.length:Nat) c (by omega) s hs,⟨rfl,rfl,trivial⟩,rfl,?_⟩
 exact⟨_,_,_,ah.refl _ _,rfl,⟨⟨rfl,rfl,rfl,trivial⟩,rfl,trivial⟩,⟨rfl,rfl,trivial⟩,rfl⟩
def rE (t:List eG):bN where
 R:=fun I F w p=> ∃es,ot t es∧nA 1001 (oZ (t.length:Nat) es) I F w p
 cy:=fun I F w I' w' p ⟨es,h,bk⟩ he hF aS=>⟨es,h,(bN.uQ 1001 (oZ (t.length:Nat) es)).cy I F w I' w' p bk he hF aS⟩
theorem ot.new (n:Nat):ot (List.replicate n s0) []:=by
 have bk: ∀k i,(gW [] k).getD i s0=s0:=fun k i=>Nl i
 refine⟨.nil,fun p hp=>(nomatch hp),fun k i=>?_,fun c hc=>?_⟩
 ·rw[bk];exact⟨by decide,by decide⟩
 ·rw[bk,List.getElem_replicate]
theorem Vp (n:Int) (h: ¬(0≤n∧n≤256)):Fn Tryz.prog 85 [aC n] [] [] (.c6 [zz,fh 1]) []:=by
 have ag:(decide (0≤n)&&decide (n≤256))=false:=by
  rw[Bool.and_eq_false_iff,decide_eq_false_iff_not,decide_eq_false_iff_not]
  omega
 refine Fn.of ai [] _ _ _ _ _ Tryz.func85 rfl rfl (by kernel_rfl) (by kernel_rfl) rfl (aJ ai) rfl ?_
 refine⟨_,_,_,_,Ni n,trivial,rfl,?_⟩
 rw[ag]
 refine⟨fun _=>?_,fun aa=>absurd aa (by decide)⟩
 exact⟨_,_,_,ah.refl _ _,rfl,⟨rfl,rfl,trivial⟩,trivial,rfl⟩
theorem HX (n:Nat) (h:n≤256):Fn Tryz.prog 85 [aC (n:Int)] [] [1001] (.c6 [.one (.ptr 1001 0),fh 0]) [(1001,.obj (rE (List.replicate n s0)))]:=by
 have ag:(decide ((0:Int)≤n)&&decide ((n:Int)≤256))=true:=by
  rw[Bool.and_eq_true,decide_eq_true_iff,decide_eq_true_iff]
  omega
 have aB:((List.replicate n s0).length:Nat)=n:=List.length_replicate
 refine Fn.of ai [] _ _ _ _ _ Tryz.func85 rfl rfl (by kernel_rfl) (by kernel_rfl) rfl (aJ ai) rfl ?_
 refine⟨_,_,_,_,Ni n,trivial,rfl,?_⟩
 rw[ag]
 refine⟨fun aa=>absurd aa (by decide),fun _=>?_⟩
 refine⟨rfl,?_⟩
 refine⟨rfl,?_⟩
 refine⟨_,_,_,(ah.ren 10 1001 rfl).trans ((ah.ren 8 1002 rfl).trans (ah.close 1001 (oZ (n:Nat) []) (o:=rE (List.replicate n s0)) ⟨rfl,rfl,trivial⟩ rfl fun _ _ _ _ h=>⟨[],ot.new n,by rw[aB];exact h⟩)),rfl,⟨rfl,rfl,trivial⟩,⟨rfl,trivial⟩,rfl⟩
end Go.Proofs.YteoamepgonpdlaaGreat
namespace Go.Proofs.YteoamepgonpdlaaGreat
open Go.RowKit Go.Proofs
@[reducible] def pZ (l:List Int):aG:=[(1001,.cells [.own 1002]),(1002,.row 3 bt l)]
def rF (l:List Int):bN:=.uQ 1001 (pZ l)
theorem Vq:(Tryz.prog.info? 3).map (fun i=>(i.zero,i.size,i.bytes))=some (some (.int .i64 0),1,8):=by kernel_rfl
theorem Nr (n:Int) (h: ¬(0≤n∧n≤512)):Fn Tryz.prog 86 [aC n] [] [] (.c6 [zz,fh 1]) []:=by
 refine Fn.of ai [] _ _ _ _ _ Tryz.func86 rfl rfl (by kernel_rfl) (by kernel_rfl) rfl (aJ ai) rfl ?_
 refine⟨fun aa=>?_,fun aa=>?_⟩
 ·exact⟨_,_,_,ah.refl _ _,rfl,⟨rfl,rfl,trivial⟩,trivial,rfl⟩
 refine⟨fun af=>?_,fun af=>?_⟩
 ·exact⟨_,_,_,ah.refl _ _,rfl,⟨rfl,rfl,trivial⟩,trivial,rfl⟩
 ·exfalso
  simp at aa af
  omega
theorem DY (n:Int) (aE:0≤n) (hn:n≤512):Fn Tryz.prog 86 [aC n] [] [1001] (.c6 [.one (.ptr 1001 0),fh 0]) [(1001,.obj (rF (List.replicate n.toNat (0:Int))))]:=by
 obtain⟨inf,i1,i2,i3,i4⟩:=info_parts Vq
 refine Fn.of ai [] _ _ _ _ _ Tryz.func86 rfl rfl (by kernel_rfl) (by kernel_rfl) rfl (aJ ai) rfl ?_
 refine⟨fun aa=>?_,fun aa=>?_⟩
 ·exfalso;simp at aa;omega
 refine⟨fun af=>?_,fun af=>?_⟩
 ·exfalso;simp at af;omega
 refine⟨_,_,fun N=>U6 (d:=11) rfl Tryz.underlying128 i1 i2 i3 i4 rfl rfl aE (by omega) N,rfl,?_⟩
 refine⟨rfl,?_⟩
 exact⟨_,_,_,(ah.ren 13 1001 rfl).trans ((ah.ren 11 1002 rfl).trans (ah.close 1001 (pZ (List.replicate n.toNat (0:Int))) (o:=rF (List.replicate n.toNat (0:Int))) ⟨rfl,rfl,trivial⟩ rfl fun _ _ _ _ h=>h)),rfl,⟨rfl,rfl,trivial⟩,⟨rfl,trivial⟩,rfl⟩
theorem Vr (l:List Int) (h:Int):Fn Tryz.prog 173 [aH 1001,aC h] (pZ l) [] (iw (decide (0≤h)&&decide (h < l.length))) (pZ l):=by
 refine Fn.of ai [] _ _ _ _ _ Tryz.func173 rfl rfl (by kernel_rfl) (by kernel_rfl) rfl (aJ ai) rfl ?_
 refine⟨fun aa=>?_,fun aa=>?_⟩
 ·refine⟨_,_,_,ah.refl _ _,rfl,?_,⟨rfl,rfl,trivial⟩,rfl⟩
  show decide (h < (l.length:Nat))=(decide (0≤h)&&decide (h < (l.length:Nat)))
  have aa:decide (0≤h)=true:=aa
  rw[aa,Bool.true_and]
 ·refine⟨_,_,_,ah.refl _ _,rfl,?_,⟨rfl,rfl,trivial⟩,rfl⟩
  show false=(decide (0≤h)&&decide (h < (l.length:Nat)))
  have aa:decide (0≤h)=false:=aa
  rw[aa,Bool.false_and]
theorem Vs (n:Int) (h:n≠0):Fn Tryz.prog 166 [aC n] [] [] (aC 0) []:=by
 refine Fn.of ai [] _ _ _ _ _ Tryz.func166 rfl rfl (by kernel_rfl) (by kernel_rfl) rfl (aJ ai) rfl ?_
 refine⟨fun aa=>absurd (of_decide_eq_true aa) h,fun aa=>?_⟩
 exact⟨_,_,_,ah.refl _ _,rfl,rfl,trivial,rfl⟩
theorem Vt (l:List Int) (h:Nat) (n:Int) (hn:l[h]? =some n) (aa:1≤n) (af:n≤65535):Fn Tryz.prog 165 [aH 1001,aC (h:Int),aC (-1),v1 (.eM 166 [])] (pZ l) [] (aC 0) (pZ (l.set h (n - 1))):=by
 have aB:h < l.length:=(List.getElem?_eq_some_iff.1 hn).1
 refine Fn.of ai [] _ _ _ _ _ Tryz.func165 rfl rfl (by kernel_rfl) (by kernel_rfl) rfl (aJ ai) rfl ?_
 refine⟨_,_,_,_,Vr l h,⟨rfl,rfl,trivial⟩,rfl,?_⟩
 have m1:(0:Int)≤(h:Int):=by omega
 have m2:(h:Int) < (l.length:Nat):=by omega
 refine⟨fun _=>?_,fun hf=>?_⟩
 ·refine⟨⟨m1,m2⟩,n,hn,?_⟩
  refine⟨_,_,_,_,Vs n (by omega),trivial,rfl,?_⟩
  refine⟨fun _=>?_,fun h=>absurd h (by decide)⟩
  refine⟨⟨m1,m2⟩,n,hn,⟨by omega,by omega⟩,⟨m1,m2⟩,⟨trivial,aB⟩,?_⟩
  exact⟨_,_,_,ah.refl _ _,rfl,rfl,⟨rfl,rfl,trivial⟩,rfl⟩
 ·exfalso
  have hf:(decide ((0:Int)≤h)&&decide ((h:Int) < l.length))=false:=hf
  rw[decide_eq_true (by omega),decide_eq_true (by omega)] at hf
  cases hf
theorem Vu (l:List Int) (h:Nat) (n:Int) (hn:l[h]? =some n) (aa:1≤n) (af:n≤65535):Fn Tryz.prog 153 [aH 1001,aC (h:Int)] (pZ l) [] (.c6 [.one (.d (.int .i64 (n - 1))),fh 0]) (pZ (l.set h (n - 1))):=by
 have aB:h < l.length:=(List.getElem?_eq_some_iff.1 hn).1
 refine Fn.of ai [] _ _ _ _ _ Tryz.func153 rfl rfl (by kernel_rfl) (by kernel_rfl) rfl (aJ ai) rfl ?_
 refine⟨_,_,_,_,Vt l h n hn aa af,⟨rfl,rfl,trivial⟩,rfl,?_⟩
 refine⟨fun h=>absurd h (by decide),fun _=>?_⟩
 have r6:h < (l.set h (n - 1)).length:=by rw[List.length_set];exact aB
 have m1:(0:Int)≤(h:Int):=by omega
 have m2:(h:Int) < ((l.set h (n - 1)).length:Nat):=by omega
 have m3:(l.set h (n - 1))[h]? =some (n - 1):=by rw[List.getElem?_set_self aB]
 refine⟨⟨m1,m2⟩,n - 1,m3,?_⟩
 exact⟨_,_,_,ah.refl _ _,rfl,⟨rfl,rfl,trivial⟩,⟨rfl,rfl,trivial⟩,rfl⟩
def zeros (l:List Int):Nat:=(l.filter fun x=>decide (x=0)).length
theorem HY (l:List Int):zeros l≤l.length:=List.length_filter_le _ _
theorem Vv {l:List Int} {k:Nat} (h:k < l.length):zeros (l.take (k+1))=zeros (l.take k)+(if l[k]=0 then 1 else 0):=by
 unfold zeros
 rw[List.take_succ_eq_append_getElem h,List.filter_append,List.length_append]
 congr 1
 by_cases e:l[k]=0
 ·simp[e]
 ·simp[e]
@[reducible] def Vw (l:List Int) (k:Nat):aQ:=[(3,aC (zeros (l.take k):Nat)),(9,iO 1002),(10,aC (l.length:Nat)),(11,aC (k:Nat))]
theorem Vx (l:List Int) (aB:l.length≤1000000):Fn Tryz.prog 135 [aH 1001] (pZ l) [] (aC (zeros l:Nat)) (pZ l):=by
 refine Fn.of ai [] _ _ _ _ _ Tryz.func135 rfl rfl (by kernel_rfl) (by kernel_rfl) rfl (aJ ai) rfl ?_
 show av _ _ _ _ _ _ _
 refine av.loop ai (aJ ai) [] (by kernel_rfl) (X:=Nat) (Vw l) (fun _=>pZ l) (fun k=>k≤l.length) (fun k=>l.length - k) 0 (Nat.zero_le _) ?_ ?_
 ·exact ah.sub ⟨rfl,rfl,rfl,rfl,trivial⟩ ⟨rfl,rfl,trivial⟩
 intro k aq
 have aS:=HY (l.take k)
 have q8:(l.take k).length≤l.length:=by rw[List.length_take];omega
 refine⟨fun h=>?_,fun h=>?_⟩
 ·have h:decide ((k:Int) < (l.length:Nat))=true:=h
  have gx:k < l.length:=by simpa using h
  have hs:=Vv gx
  have m1:(0:Int)≤(k:Int):=by omega
  have m2:(k:Int) < (l.length:Nat):=by omega
  refine⟨⟨m1,m2⟩,l[k],eA (n:=k) gx,?_⟩
  refine⟨fun aE=>?_,fun aE=>?_⟩
  ·have aE:=of_decide_eq_true aE
   refine⟨by omega,by omega,k+1,by omega,by omega,ah.sub ⟨?_,rfl,rfl,rfl,trivial⟩ ⟨rfl,rfl,trivial⟩⟩
   show((zeros (l.take k):Nat):Int)+1=(zeros (l.take (k+1)):Nat)
   rw[hs,if_pos aE]
   omega
  ·have aE:=of_decide_eq_false aE
   refine⟨by omega,k+1,by omega,by omega,ah.sub ⟨?_,rfl,rfl,rfl,trivial⟩ ⟨rfl,rfl,trivial⟩⟩
   show((zeros (l.take k):Nat):Int)=(zeros (l.take (k+1)):Nat)
   rw[hs,if_neg aE]
   omega
 ·have h:decide ((k:Int) < (l.length:Nat))=false:=h
  have gx:k=l.length:=by simp at h;omega
  subst gx
  refine⟨_,_,_,ah.refl _ _,rfl,?_,⟨rfl,rfl,trivial⟩,rfl⟩
  show((zeros (l.take l.length):Nat):Int)=_
  rw[List.take_length]
@[reducible] def Vy (l:List Int) (k:Nat):aQ:=[(0,aH 1001),(9,aC (l.length:Nat)),(10,aC (k:Nat))]
theorem Vz (l:List Int) (aB:l.length≤1000000) (h:Nat) (bZ:l[h]? =some 0) (hf: ∀j,j < h→l[j]? ≠some 0):Fn Tryz.prog 136 [aH 1001] (pZ l) [] (.c6 [.one (.d (.int .i64 (h:Int))),fh 0]) (pZ (l.set h 1)):=by
 have bF:h < l.length:=(List.getElem?_eq_some_iff.1 bZ).1
 refine Fn.of ai [] _ _ _ _ _ Tryz.func136 rfl rfl (by kernel_rfl) (by kernel_rfl) rfl (aJ ai) rfl ?_
 show av _ _ _ _ _ _ _
 refine av.loop ai (aJ ai) [] (by kernel_rfl) (X:=Nat) (Vy l) (fun _=>pZ l) (fun k=>k≤h) (fun k=>l.length - k) 0 (Nat.zero_le _) ?_ ?_
 ·exact ah.sub ⟨rfl,rfl,rfl,trivial⟩ ⟨rfl,rfl,trivial⟩
 intro k aq
 refine⟨fun _=>?_,fun aa=>?_⟩
 ·have gx:k < l.length:=by omega
  have m1:(0:Int)≤(k:Int):=by omega
  have m2:(k:Int) < (l.length:Nat):=by omega
  refine⟨⟨m1,m2⟩,l[k],eA (n:=k) gx,?_⟩
  refine⟨fun aE=>?_,fun aE=>?_⟩
  ·have aE:=of_decide_eq_true aE
   have Ns:k=h:=by
    rcases Nat.lt_or_ge k h with ay |ay
    ·exact absurd (by rw[List.getElem?_eq_getElem gx,aE]) (hf k ay)
    ·omega
   subst Ns
   refine⟨⟨m1,m2⟩,⟨trivial,gx⟩,?_⟩
   exact⟨_,_,_,ah.refl _ _,rfl,⟨rfl,rfl,trivial⟩,⟨rfl,rfl,trivial⟩,rfl⟩
  ·have aE:=of_decide_eq_false aE
   have Ns:k≠h:=fun e=>by
    subst e
    rw[List.getElem?_eq_getElem gx] at bZ
    exact aE (by injection bZ)
   exact⟨by omega,k+1,by omega,by omega,ah.sub ⟨rfl,rfl,rfl,trivial⟩ ⟨rfl,rfl,trivial⟩⟩
 ·exfalso
  have aa:decide ((k:Int) < (l.length:Nat))=false:=aa
  simp at aa
  omega
end Go.Proofs.YteoamepgonpdlaaGreat
namespace Go.Proofs.YteoamepgonpdlaaGreat
open Go.RowKit Go.Proofs
section
variable {P:Program} {tt:cY} {N:Nat} {ids:List Nat} {o:Oper} {K:aQ} {B:aG} {C:Ctx} {ρ:Nat→bq} {F:Nat→Nat→Prop} {w w':World}
theorem Mem.split (h:Mem ids C B ρ F w) {c d:Nat} {cm kM qo:bw} (hc:ax B c=some cm) (hf:gz ids K B d=true) (pl:bq) (cH cU:Nat→Prop) (aa: ∀b,cH b→F c b) (af: ∀b,cU b→F c b) (fU: ∀b,cH b→ ¬cU b)
  (H1: ∀I,Ext (bO C B F w) w I w→Holds (dA ρ d pl) I cH w (ρ c) kM) (VA: ∀I,Ext (bO C B F w) w I w→Holds (dA ρ d pl) I cU w pl qo):
  Mem ids C ((d,qo)::(c,kM)::B) (dA ρ d pl) (dA (dA F c cH) d cU) w∧Ext (bO C B F w) w (bO C ((d,qo)::(c,kM)::B) (dA (dA F c cH) d cU) w) w:=by
 obtain⟨f1,f2,f3,f4⟩:=lG hf
 have sC:c≠d:=fun e=>by rw[←e,hc] at f2;cases f2
 have sD: ∀j ch,ax ((d,qo)::(c,kM)::B) j=some ch→(j=c∨j=d)→(j=c∧ch=kM)∨(j=d∧ch=qo):=fun j ch au hm=>by
  rw[cD] at au
  split at au
  ·rename_i e;injection au with au;exact .inr ⟨e.symm,au.symm⟩
  ·rename_i e
   rw[cD] at au
   split at au
   ·rename_i e;injection au with au;exact .inl ⟨e.symm,au.symm⟩
   ·rename_i ak
    rcases hm with hm |hm
    ·exact absurd hm.symm ak
    ·exact absurd hm.symm e
 have DZ:dA (dA F c cH) d cU c=cH:=by rw[dP _ _ sC,dR]
 have D1:dA (dA F c cH) d cU d=cU:=by rw[dR]
 refine h.step (fun j=>j=c∨j=d) (fun j=>j=d) (Fr.refl _ _) (fun j ch au hm=>?_) (fun j au=>dP _ _ au) (fun j au=>?_) (fun j au e=>f4 (e▸au)) (fun j au=>.inr au) (fun j ch au _ k aq e=>?_) (fun j ch au hm bz=>?_) (fun j ch au hm b ag=>?_) (fun j tv ch ch' b au oS hm gB bg ag dw=>?_)
 ·rw[cD,if_neg (fun e=>hm (.inr e.symm)),cD,if_neg (fun e=>hm (.inl e.symm))] at au
  exact au
 ·rw[dP _ _ (fun e=>au (.inr e)),dP _ _ (fun e=>au (.inl e))]
 ·subst e
  rw[f3 j ch au] at aq
  cases aq
 ·rcases sD j ch au hm with⟨rfl,rfl⟩ |⟨rfl,rfl⟩
  ·rw[DZ,dP _ _ sC];exact H1 _ bz
  ·rw[D1,dR];exact VA _ bz
 ·have:F c b:=by
   rcases sD j ch au hm with⟨rfl,rfl⟩ |⟨rfl,rfl⟩
   ·rw[DZ] at ag;exact aa b ag
   ·rw[D1] at ag;exact af b ag
  exact⟨(h.own c _ hc b this).1,.inl ⟨c,_,hc,.inl rfl,this⟩⟩
 ·rcases sD j ch au hm with⟨rfl,rfl⟩ |⟨rfl,rfl⟩ <;>rcases sD tv ch' oS gB with⟨rfl,rfl⟩ |⟨rfl,rfl⟩
  ·exact bg rfl
  ·rw[DZ] at ag;rw[D1] at dw;exact fU b ag dw
  ·rw[D1] at ag;rw[DZ] at dw;exact fU b dw ag
  ·exact bg rfl
theorem Mem.join (h:Mem ids C B ρ F w) {c d:Nat} {cm kM ch:bw} (hc:ax B c=some cm) (hd:ax B d=some kM) (bg:c≠d) (G:Nat→Prop) (oR: ∀b,G b→F c b∨F d b) (cr:Fr (fun b=>F c b∨F d b) w w')
  (dW: ∀I,Ext (bO C B F w) w I w'→Holds ρ I G w' (ρ c) ch):
  Mem ids C ((c,ch)::ia B d) ρ (dA F c G) w'∧Ext (bO C B F w) w (bO C ((c,ch)::ia B d) (dA F c G) w') w':=by
 have sD: ∀j ch',ax ((c,ch)::ia B d) j=some ch'→(j=c∨j=d)→j=c∧ch'=ch:=fun j ch' au hm=>by
  rw[cD] at au
  split at au
  ·rename_i e;injection au with au;exact⟨e.symm,au.symm⟩
  ·rename_i e
   rcases hm with hm |hm
   ·exact absurd hm.symm e
   ·rw[hm,j7,if_pos rfl] at au;cases au
 refine h.step (fun j=>j=c∨j=d) (fun _=>False) (cr.mono fun b _ ag=>?_) (fun j ch' au hm=>?_) (fun _ _=>rfl) (fun j hm=>dP _ _ (fun e=>hm (.inl e))) (fun _ _ h=>h) (fun _ h=>h.elim) (fun _ _ _ _ _ _ h=>h) (fun j ch' au hm bz=>?_) (fun j ch' au hm b ag=>?_) (fun j tv aW aX b au oS hm gB hn=>?_)
 ·rcases ag with ag |ag
  ·exact⟨c,_,hc,.inl rfl,ag⟩
  ·exact⟨d,_,hd,.inr rfl,ag⟩
 ·rw[cD,if_neg (fun e=>hm (.inl e.symm)),j7,if_neg (fun e=>hm (.inr e.symm))] at au
  exact au
 ·obtain⟨rfl,rfl⟩:=sD j ch' au hm
  rw[dR]
  exact dW _ bz
 ·obtain⟨rfl,rfl⟩:=sD j ch' au hm
  rw[dR] at ag
  rcases oR b ag with ag |ag
  ·exact⟨Nat.lt_of_lt_of_le (h.own j _ hc b ag).1 cr.size,.inl ⟨j,_,hc,.inl rfl,ag⟩⟩
  ·exact⟨Nat.lt_of_lt_of_le (h.own d _ hd b ag).1 cr.size,.inl ⟨d,_,hd,.inr rfl,ag⟩⟩
 ·exact absurd ((sD j aW au hm).1.trans (sD tv aX oS gB).1.symm) hn
theorem Mem.VB (h:Mem ids C B ρ F w) {c:Nat} {cm ch:bw} (hc:ax B c=some cm) (G:Nat→Prop) (oR: ∀b,G b→F c b) (cr:Fr (F c) w w') (dW: ∀I,Ext (bO C B F w) w I w'→Holds ρ I G w' (ρ c) ch):
  Mem ids C ((c,ch)::B) ρ (dA F c G) w'∧Ext (bO C B F w) w (bO C ((c,ch)::B) (dA F c G) w') w':=by
 have sD: ∀j ch',ax ((c,ch)::B) j=some ch'→j=c→ch'=ch:=fun j ch' au hm=>by
  rw[cD,if_pos hm.symm] at au
  injection au with au;exact au.symm
 refine h.step (fun j=>j=c) (fun _=>False) (cr.mono fun b _ ag=>⟨c,_,hc,rfl,ag⟩) (fun j ch' au hm=>?_) (fun _ _=>rfl) (fun j hm=>dP _ _ hm) (fun _ _ h=>h) (fun _ h=>h.elim) (fun _ _ _ _ _ _ h=>h) (fun j ch' au hm bz=>?_) (fun j ch' au hm b ag=>?_) (fun j tv aW aX b au oS hm gB hn=>absurd (hm.trans gB.symm) hn)
 ·rw[cD,if_neg (fun e=>hm e.symm)] at au
  exact au
 ·have e:=sD j ch' au hm
  subst hm e
  rw[dR]
  exact dW _ bz
 ·subst hm
  rw[dR] at ag
  exact⟨Nat.lt_of_lt_of_le (h.own _ _ hc b (oR b ag)).1 cr.size,.inl ⟨_,_,hc,rfl,oR b ag⟩⟩
end
abbrev k3:=Int→Option (List UInt8)
def jt (f:k3) (k:Int) (xs:List UInt8):k3:=fun j=>if j=k then some xs else f j
def BL (f:k3) (k:Int):k3:=fun j=>if j=k then none else f j
def HZ:k3:=fun _=>none
def tO (I F:Nat→Prop) (w:World) (p:bq) (xs:List UInt8):Prop:=Holds (fun _=>p) I F w p (.row 5 .u8 xs)
theorem tO.congr {I F F':Nat→Prop} {w:World} {p:bq} {xs:List UInt8} (h:tO I F w p xs) (e: ∀b,F' b↔F b):tO I F' w p xs:=
 ⟨fun b=>(e b).trans (h.1 b),h.2⟩
theorem VC {I F:Nat→Prop} {w:World} {p:bq} {xs:List UInt8} (h:tO I F w p xs): ∃x:aI .c9,p.hdr=qW x:=by
 obtain⟨_,_,cs,⟨_,h⟩,_⟩:=h
 rcases h with⟨h,_⟩ |⟨g,cap,cur,h,_⟩
 ·exact⟨none,h⟩
 ·exact⟨some (g,_,cap),h⟩
structure D2 (hs:Int→Option bq) (f:k3) (es:List (aI bt×aI .c9)) (G:Int→Nat→Prop) (I:Nat→Prop) (w:World):Prop where
 lQ:oq es
 none_: ∀k:Int,ct (aN:=bt) (aP:=.c9) es k=none→f k=none∧hs k=none∧ ∀b,¬G k b
 some_: ∀(k:Int) h,ct (aN:=bt) (aP:=.c9) es k=some h→hs k=none→ ∃xs p,f k=some xs∧p.hdr=qW h∧tO I (G k) w p xs
 Nt: ∀(k:Int) h q,ct (aN:=bt) (aP:=.c9) es k=some h→hs k=some q→q.hdr=qW h∧ ∀b,¬G k b
 e8: ∀(j k:Int) b,j≠k→G j b→ ¬G k b
theorem D2.cy {hs:Int→Option bq} {f:k3} {es:List (aI bt×aI .c9)} {G:Int→Nat→Prop} {I I':Nat→Prop} {w w':World} (h:D2 hs f es G I w) (he:Ext I w I' w') (hF: ∀k b,G k b→w'.heap[b]? =w.heap[b]?) (aS:w.heap.size≤w'.heap.size):D2 hs f es G I' w':=
 ⟨h.lQ,h.none_,fun k x aa af=>let⟨xs,p,cj,cu,a3⟩:=h.some_ k x aa af;⟨xs,p,cj,cu,Holds.cy he (fun b ag=>hF k b ag) aS _ (fun _ _=>rfl) a3⟩,h.Nt,h.e8⟩
def wj (hs:Int→Option bq) (f:k3) (I F:Nat→Prop) (w:World) (p:bq):Prop:=
 ∃es G,D2 hs f es G I w∧(∀b,F b↔b=p.bI∨ ∃k,G k b)∧(∀k,¬G k p.bI)∧ ∃cX clock,w.heap[p.bI]? =some (.map (List.toArray cX) clock)∧jN I w bt .c9 es cX∧oN cX clock
def Nu (hs:Int→Option bq) (f:k3):bN where
 R:=wj hs f
 cy:=fun I F w I' w' p ⟨es,G,aa,af,ay,cX,clock,bu,dI,kr⟩ he hF aS=>
  ⟨es,G,aa.cy he (fun k b ag=>hF b ((af b).2 (.inr ⟨k,ag⟩))) aS,af,ay,cX,clock,(hF _ ((af _).2 (.inl rfl))).trans bu,dI.mono he,kr⟩
def mX (f:k3):bN:=Nu (fun _=>none) f
def D3 (k:Int) (q:bq):Int→Option bq:=fun j=>if j=k then some q else none
def wk (f:k3) (k:Int):bq→bN:=fun q=>Nu (D3 k q) f
theorem wj.out {f:k3} {k:Int} {xs:List UInt8} {I F:Nat→Prop} {w:World} {p:bq} (hf:f k=some xs) (h:(mX f).R I F w p):
  ∃(cH cU:Nat→Prop) (q:bq) (es:List (aI bt×aI .c9)) (x:aI .c9),(∀b,cH b→F b)∧(∀b,cU b→F b)∧(∀b,cH b→ ¬cU b)∧q.hdr=qW x∧ct (aN:=bt) (aP:=.c9) es k=some x∧(∃cX clock,w.heap[p.bI]? =some (.map (List.toArray cX) clock)∧jN I w bt .c9 es cX)∧tO I cU w q xs∧(wk f k q).R I cH w p:=by
 obtain⟨es,G,aa,af,ay,cX,clock,bu,dI,kr⟩:=h
 cases e:ct (aN:=bt) (aP:=.c9) es k with
 |none=>rw[(aa.none_ k e).1] at hf;cases hf
 |some x=>
  obtain⟨ys,q,cj,cu,a3⟩:=aa.some_ k x e rfl
  rw[hf] at cj
  injection cj with cj
  subst cj
  refine⟨fun b=>b=p.bI∨ ∃j,j≠k∧G j b,G k,q,es,x,fun b ag=>(af b).2 (ag.imp id fun⟨j,_,au⟩=>⟨j,au⟩),fun b ag=>(af b).2 (.inr ⟨k,ag⟩),fun b ag aq=>?_,cu,e,⟨cX,clock,bu,dI⟩,a3,?_⟩
  ·rcases ag with rfl |⟨j,au,ag⟩
   ·exact ay k aq
   ·exact aa.e8 j k b au ag aq
  ·refine⟨es,fun j b=>j≠k∧G j b,⟨aa.lQ,fun j au=>?_,fun j y au bZ=>?_,fun j y q' au bZ=>?_,fun i j b fG a b=>aa.e8 i j _ fG a.2 b.2⟩,fun b=>Iff.rfl,fun j au=>ay j au.2,cX,clock,bu,dI,kr⟩
   ·obtain⟨b1,_,b3⟩:=aa.none_ j au
    have:j≠k:=fun e'=>by rw[e',e] at au;cases au
    exact⟨b1,if_neg this,fun b ag=>b3 b ag.2⟩
   ·have bg:j≠k:=fun e'=>by rw[show D3 k q j=some q from if_pos e'] at bZ;cases bZ
    obtain⟨ys,r,b1,b2,b3⟩:=aa.some_ j y au rfl
    exact⟨ys,r,b1,b2,b3.congr fun b=>⟨fun h=>h.2,fun h=>⟨bg,h⟩⟩⟩
   ·simp only[D3] at bZ
    split at bZ
    ·rename_i e'
     injection bZ with bZ
     subst e' bZ
     rw[e] at au
     injection au with au
     subst au
     exact⟨cu,fun b ag=>ag.1 rfl⟩
    ·cases bZ
theorem wj.VD {f:k3} {k:Int} {xs:List UInt8} {I cH cU:Nat→Prop} {w:World} {p q:bq} (h:(wk f k q).R I cH w p) (hr:tO I cU w q xs) (hd: ∀b,cH b→ ¬cU b) (aq: ∃ys,f k=some ys):(mX (jt f k xs)).R I (fun b=>cH b∨cU b) w p:=by
 obtain⟨es,G,aa,af,ay,cX,clock,bu,dI,kr⟩:=h
 obtain⟨ys,aq⟩:=aq
 have fO:D3 k q k=some q:=if_pos rfl
 cases e:ct (aN:=bt) (aP:=.c9) es k with
 |none=>rw[(aa.none_ k e).1] at aq;cases aq
 |some x=>
  obtain⟨cj,cu⟩:=aa.Nt k x q e fO
  refine⟨es,fun j b=>if j=k then cU b else G j b,⟨aa.lQ,fun j au=>?_,fun j y au _=>?_,fun _ _ _ _ bZ=>(by cases bZ),fun i j b fG ha ag=>?_⟩,fun b=>?_,fun j au=>?_,cX,clock,bu,dI,kr⟩
  ·have bg:j≠k:=fun e'=>by rw[e',e] at au;cases au
   obtain⟨b1,_,b3⟩:=aa.none_ j au
   exact⟨by unfold jt;rw[if_neg bg];exact b1,rfl,fun b ag=>by rw[if_neg bg] at ag;exact b3 b ag⟩
  ·by_cases bg:j=k
   ·subst bg
    rw[e] at au
    injection au with au
    subst au
    exact⟨xs,q,if_pos rfl,cj,hr.congr fun b=>by rw[if_pos rfl]⟩
   ·obtain⟨zs,r,b1,b2,b3⟩:=aa.some_ j y au (if_neg bg)
    exact⟨zs,r,(if_neg bg).trans b1,b2,b3.congr fun b=>by rw[if_neg bg]⟩
  ·by_cases aD:i=k
   ·rw[if_pos aD] at ha
    have au:j≠k:=fun e'=>fG (aD.trans e'.symm)
    rw[if_neg au] at ag
    exact hd b ((af b).2 (.inr ⟨j,ag⟩)) ha
   ·rw[if_neg aD] at ha
    by_cases au:j=k
    ·rw[if_pos au] at ag
     exact hd b ((af b).2 (.inr ⟨i,ha⟩)) ag
    ·rw[if_neg au] at ag
     exact aa.e8 i j b fG ha ag
  ·show(cH b∨cU b)↔(b=p.bI∨ ∃j,(if j=k then cU b else G j b))
   rw[af]
   constructor
   ·rintro((h |⟨j,h⟩) |h)
    ·exact .inl h
    ·refine .inr ⟨j,?_⟩
     by_cases au:j=k
     ·subst au;exact absurd h (cu b)
     ·rw[if_neg au];exact h
    ·exact .inr ⟨k,by rw[if_pos rfl];exact h⟩
   ·rintro(h |⟨j,h⟩)
    ·exact .inl (.inl h)
    ·by_cases au:j=k
     ·rw[if_pos au] at h;exact .inr h
     ·rw[if_neg au] at h;exact .inl (.inr ⟨j,h⟩)
  ·replace au:(if j=k then cU p.bI else G j p.bI):=au
   by_cases oS:j=k
   ·rw[if_pos oS] at au
    exact hd _ ((af _).2 (.inl rfl)) au
   ·rw[if_neg oS] at au
    exact ay j au
section
variable {P:Program} {tt:cY} {ids:List Nat} {K:aQ} {B:aG}
theorem D4 {o:Oper} {T kt et:TypeId} {x i:Operand} {c d:Nat} {f:k3} {k:Int} {xs:List UInt8} (az:o.op= .lookup T x i false) (cn:P.underlying T=some (.map kt et)) {dk:TypeDesc} (qB:P.underlying kt=some dk) (rG:nQ bt dk=true) {inf:TypeInfo} (aD:P.info? et=some inf) (aS:inf.zero=some (.slice none 0 0))
  (hx:aU K x= .c (.one (.mp c))) (aq:aU K i= .c (.one (.d (.int .i64 k)))) (hc:ax B c=some (.obj (mX f))) (hf:f k=some xs) (N:Nat):bH P N ids o K B (.c (.one (.own d))) ⟨[c],[d],[(c,some (.dep d (wk f k))),(d,some (.row 5 .u8 xs))]⟩:=by
 have m1:x∈o.op.operands:=by rw[az];simp[Op.operands]
 have m2:i∈o.op.operands:=by rw[az];simp[Op.operands]
 rintro K' B' g1 g2 bL C a w ⟨hn,o3,ρ,F,aA,hS⟩ bF fl Q hK
 have dm:=(g2 c (by simp)).trans hc
 have cr:=bL d (by simp)
 obtain⟨f1,f2,f3,f4⟩:=lG cr
 have sC:c≠d:=fun e=>by rw[←e,dm] at f2;cases f2
 obtain⟨cH,cU,q,es,y,aa,af,ay,bu,dI,⟨cX,clock,kr,xk⟩,kL,rX⟩:=wj.out hf (aA.holds c _ dm)
 have aj:=hS.mp ((g1 x m1).trans hx)
 have ak:a.eval i=ir bt k:=hS.int ((g1 i m2).trans aq)
 have H6:(zeroValue et).run P w= .ok (.slice none 0 0) w:=by simp[zeroValue,typeInfo,aD,aS]
 obtain⟨v,hr,hv⟩:=KQ (P:=P) (aP:=.c9) cn qB rG kr xk H6 ⟨rfl,⟨fun _=>rfl,fun h=>by cases h⟩,rfl⟩ k false
 have uH:v=qW y:=by
  have h:=Lu (ρ:=ρ) rfl hv
  rw[dI] at h
  exact h
 have hx:(execOp a.eval o).run P w= .ok (.value v) w:=by simp only[execOp,az,Sem.run_bind,aj,ak,hr,Result.andThen_ok,Sem.run_pure];rfl
 unfold Oper.wp
 rw[hx,Oper.upon_value]
 obtain⟨bR,bz⟩:=aA.split (K:=K') (kM:=.dep d (wk f k)) (qo:=.row 5 .u8 xs) dm cr q cH cU aa af ay
  (fun I bC=>by
   show(wk f k (dA ρ d q d)).R I cH w (ρ c)
   rw[dR]
   exact(wk f k q).cy _ _ _ _ _ _ rX bC (fun _ _=>rfl) (Nat.le_refl _))
  (fun I bC=>Holds.cy bC (fun _ _=>rfl) (Nat.le_refl _) _ (fun _ h=>by cases h) kL)
 refine hK _ _ ⟨lC.trans hn,put_defers.trans o3,_,_,bR,(hS.mono bz fun s e he=>dP _ _ (fun e'=>by subst e';rw[f1 s] at he;cases he)).lD (fun e he=>by rw[hn];exact bF e he) ?_⟩
 show v=(dA ρ d q d).hdr
 rw[dR,uH,bu]
theorem ah.D5 (c d:Nat) {f f':k3} {k:Int} {xs:List UInt8} (VE:jt f k xs=f') (hc:ax B c=some (.dep d (wk f k))) (hd:ax B d=some (.row 5 .u8 xs)) (bg:c≠d) (aq:(f k).isSome=true):ah ids K B K ((c,.obj (mX f'))::ia B d):=by
 subst VE
 rintro N C a w ⟨hn,o3,ρ,F,aA,hS⟩
 have aa:(wk f k (ρ d)).R (bO C B F w) (F c) w (ρ c):=aA.holds c _ hc
 have af:tO (bO C B F w) (F d) w (ρ d) xs:=aA.holds d _ hd
 have aq: ∃ys,f k=some ys:=by
  cases e:f k with
  |none=>rw[e] at aq;cases aq
  |some ys=>exact⟨ys,rfl⟩
 obtain⟨bR,bz⟩:=aA.join (w':=w) (ch:=.obj (mX (jt f k xs))) hc hd bg (fun b=>F c b∨F d b) (fun _ h=>h) (Fr.refl _ _) fun I bC=>
  (mX (jt f k xs)).cy _ _ _ _ _ _ (wj.VD aa af (fun b ag dw=>aA.e8 c d _ _ b hc hd bg ag dw) aq) bC (fun _ _=>rfl) (Nat.le_refl _)
 exact⟨hn,o3,ρ,_,bR,hS.mono bz fun _ _ _=>rfl⟩
theorem VF {o:Oper} {T kt et:TypeId} {x i v:Operand} {c d:Nat} {f:k3} {k:Int} {xs:List UInt8} (az:o.op= .mapUpdate T x i v) (cn:P.underlying T=some (.map kt et)) {dk:TypeDesc} (qB:P.underlying kt=some dk) (rG:nQ bt dk=true)
  (hx:aU K x= .c (.one (.mp c))) (aq:aU K i= .c (.one (.d (.int .i64 k)))) (hv:aU K v= .c (.one (.own d))) (hc:ax B c=some (.obj (mX f))) (hd:ax B d=some (.row 5 .u8 xs)) (bg:c≠d) (hf:f k=none) (N:Nat):
  bH P N ids o K B .undef ⟨[c,d],[],[(d,none),(c,some (.obj (mX (jt f k xs))))]⟩:=by
 have m1:x∈o.op.operands:=by rw[az];simp[Op.operands]
 have m2:i∈o.op.operands:=by rw[az];simp[Op.operands]
 have m3:v∈o.op.operands:=by rw[az];simp[Op.operands]
 rintro K' B' g1 g2 - C a w ⟨hn,o3,ρ,F,aA,hS⟩ bF fl Q hK
 have dm:=(g2 c (by simp)).trans hc
 have dO:=(g2 d (by simp)).trans hd
 obtain⟨es,G,aa,af,ay,cX,clock,bu,dI,kr⟩:(mX f).R (bO C B' F w) (F c) w (ρ c):=aA.holds c _ dm
 have iZ:tO (bO C B' F w) (F d) w (ρ d) xs:=aA.holds d _ dO
 obtain⟨y,aF⟩:=VC iZ
 have aj:=hS.mp ((g1 x m1).trans hx)
 have ak:a.eval i=ir bt k:=hS.int ((g1 i m2).trans aq)
 have bf:a.eval v=(ρ d).hdr:=hS.ev ((g1 v m3).trans hv)
 have cF:kI (bO C B' F w) w .c9 y (a.eval v):=by
  rw[bf,aF]
  have fC:(qW y).cells= #[qW y]:=by
   match y with
   |none=>rfl
   |some (_,_,_)=>rfl
  exact⟨by rw[fC];rfl,⟨fun _=>fC,fun h=>by cases h⟩,by rw[fC];rfl⟩
 obtain⟨g6,lF,hr,gB,r7⟩:=CS (P:=P) cn qB rG bu dI kr k cF
 have BM:=(Array.getElem?_eq_some_iff.1 bu).1
 have fU: ∀y,F c y→ ¬F d y:=fun y aF eP=>aA.e8 c d _ _ y dm dO bg aF eP
 have H7:ct (aN:=bt) (aP:=.c9) es k=none:=by
  cases e:ct (aN:=bt) (aP:=.c9) es k with
  |none=>rfl
  |some z=>
   obtain⟨_,_,cj,_⟩:=aa.some_ k z e rfl
   rw[hf] at cj
   cases cj
 obtain⟨dS,cW⟩:=HT (aN:=bt) (aP:=.c9) x2 k y es
 have x3: ∀z,z≠(ρ c).bI→({w with heap:=w.heap.setIfInBounds (ρ c).bI (.map (List.toArray g6) lF)}:World).heap[z]? =w.heap[z]? :=fun z aS=>Array.getElem?_setIfInBounds_ne (Ne.symm aS)
 have BN:(execOp a.eval o).run P w= .ok .skip {w with heap:=w.heap.setIfInBounds (ρ c).bI (.map (List.toArray g6) lF)}:=by simp only[execOp,az,Sem.run_bind,aj,ak,hr,Result.andThen_ok,Sem.run_pure]
 unfold Oper.wp
 rw[BN,Oper.upon_skip]
 obtain⟨bR,bz⟩:=aA.join (ch:=.obj (mX (jt f k xs))) (w':={w with heap:=w.heap.setIfInBounds (ρ c).bI (.map (List.toArray g6) lF)}) dm dO bg (fun b=>F c b∨F d b) (fun _ h=>h) (xu (S:=fun b=>F c b∨F d b) (.inl ((af _).2 (.inl rfl)))) fun I bC=>by
  have lN:=aa.cy bC (fun j b ag=>x3 b fun e=>ay j (e▸ag)) (by simp)
  have eR:tO I (F d) {w with heap:=w.heap.setIfInBounds (ρ c).bI (.map (List.toArray g6) lF)} (ρ d) xs:=Holds.cy bC (fun b ag=>x3 b fun e=>fU b (e▸(af _).2 (.inl rfl)) ag) (by simp) _ (fun _ h=>by cases h) iZ
  refine⟨fc (aN:=bt) (aP:=.c9) es k y,fun j b=>if j=k then F d b else G j b,⟨oq.put x2 aa.lQ,fun j au=>?_,fun j z au _=>?_,fun _ _ _ _ bZ=>(by cases bZ),fun i j b fG ha ag=>?_⟩,fun b=>?_,fun j au=>?_,g6,lF,by simp[BM],gB.mono bC,r7⟩
  ·have mz:j≠k:=fun e=>by rw[e,dS] at au;cases au
   rw[cW j mz] at au
   obtain⟨b1,_,b3⟩:=lN.none_ j au
   exact⟨by unfold jt;rw[if_neg mz];exact b1,rfl,fun b ag=>by rw[if_neg mz] at ag;exact b3 b ag⟩
  ·by_cases mz:j=k
   ·subst mz
    rw[dS] at au
    injection au with au
    subst au
    exact⟨xs,ρ d,if_pos rfl,aF,eR.congr fun b=>by rw[if_pos rfl]⟩
   ·rw[cW j mz] at au
    obtain⟨zs,r,b1,b2,b3⟩:=lN.some_ j z au rfl
    exact⟨zs,r,(if_neg mz).trans b1,b2,b3.congr fun b=>by rw[if_neg mz]⟩
  ·by_cases aD:i=k
   ·rw[if_pos aD] at ha
    have au:j≠k:=fun e'=>fG (aD.trans e'.symm)
    rw[if_neg au] at ag
    exact fU b ((af b).2 (.inr ⟨j,ag⟩)) ha
   ·rw[if_neg aD] at ha
    by_cases au:j=k
    ·rw[if_pos au] at ag
     exact fU b ((af b).2 (.inr ⟨i,ha⟩)) ag
    ·rw[if_neg au] at ag
     exact aa.e8 i j b fG ha ag
  ·show(F c b∨F d b)↔(b=(ρ c).bI∨ ∃j,(if j=k then F d b else G j b))
   rw[af]
   have VG:=(aa.none_ k H7).2.2
   constructor
   ·rintro((h |⟨j,h⟩) |h)
    ·exact .inl h
    ·refine .inr ⟨j,?_⟩
     have au:j≠k:=fun e=>VG b (e▸h)
     rw[if_neg au];exact h
    ·exact .inr ⟨k,by rw[if_pos rfl];exact h⟩
   ·rintro(h |⟨j,h⟩)
    ·exact .inl (.inl h)
    ·by_cases au:j=k
     ·rw[if_pos au] at h;exact .inr h
     ·rw[if_neg au] at h;exact .inl (.inr ⟨j,h⟩)
  ·replace au:(if j=k then F d (ρ c).bI else G j (ρ c).bI):=au
   by_cases oS:j=k
   ·rw[if_pos oS] at au
    exact fU _ ((af _).2 (.inl rfl)) au
   ·rw[if_neg oS] at au
    exact ay j au
 exact hK _ _ ⟨lC.trans hn,put_defers.trans o3,ρ,_,bR,(hS.mono bz fun _ _ _=>rfl).lD (fun e he=>by rw[hn];exact bF e he) rfl⟩
theorem VH {o:Oper} {T eN kt et:TypeId} {x i:Operand} {c:Nat} {f:k3} {k:Int} (az:o.op= .call {callee:=.builtin .delete,args:= #[x,i],argTypes:= #[T,eN]}) (cn:P.underlying T=some (.map kt et)) {dk:TypeDesc} (qB:P.underlying kt=some dk) (rG:nQ bt dk=true)
  (hx:aU K x= .c (.one (.mp c))) (aq:aU K i= .c (.one (.d (.int .i64 k)))) (hc:ax B c=some (.obj (mX f))) (N:Nat):
  bH P N ids o K B (.c6 []) ⟨[c],[],[(c,some (.obj (mX (BL f k))))]⟩:=by
 have m1:x∈o.op.operands:=by rw[az];simp[Op.operands,Call.operands]
 have m2:i∈o.op.operands:=by rw[az];simp[Op.operands,Call.operands]
 rintro K' B' g1 g2 - C a w ⟨hn,o3,ρ,F,aA,hS⟩ bF fl Q hK
 have dm:=(g2 c (by simp)).trans hc
 obtain⟨es,G,aa,af,ay,cX,clock,bu,dI,kr⟩:(mX f).R (bO C B' F w) (F c) w (ρ c):=aA.holds c _ dm
 have aj:=hS.mp ((g1 x m1).trans hx)
 have ak:a.eval i=ir bt k:=hS.int ((g1 i m2).trans aq)
 obtain⟨g6,hr,gB,r7⟩:=KV (P:=P) (ty:=o.type) cn qB rG bu dI kr k eN
 have BM:=(Array.getElem?_eq_some_iff.1 bu).1
 obtain⟨dS,cW⟩:=HU (aN:=bt) (aP:=.c9) x2 k es aa.lQ
 have x3: ∀z,z≠(ρ c).bI→({w with heap:=w.heap.setIfInBounds (ρ c).bI (.map (List.toArray g6) clock)}:World).heap[z]? =w.heap[z]? :=fun z aS=>Array.getElem?_setIfInBounds_ne (Ne.symm aS)
 have BN:(execOp a.eval o).run P w= .ok (.value (.tuple #[])) {w with heap:=w.heap.setIfInBounds (ρ c).bI (.map (List.toArray g6) clock)}:=by simp[execOp,az,resolve,invoke,builtin,aj,ak,hr]
 unfold Oper.wp
 rw[BN,Oper.upon_value]
 obtain⟨bR,bz⟩:=aA.VB (ch:=.obj (mX (BL f k))) (w':={w with heap:=w.heap.setIfInBounds (ρ c).bI (.map (List.toArray g6) clock)}) dm (fun b=>b=(ρ c).bI∨ ∃j,j≠k∧G j b) (fun b ag=>(af b).2 (ag.imp id fun⟨j,_,h⟩=>⟨j,h⟩)) (xu (S:=F c) ((af _).2 (.inl rfl))) fun I bC=>by
  have lN:=aa.cy bC (fun j b ag=>x3 b fun e=>ay j (e▸ag)) (by simp)
  refine⟨iF (aN:=bt) (aP:=.c9) es k,fun j b=>j≠k∧G j b,⟨oq.del aa.lQ,fun j au=>?_,fun j z au _=>?_,fun _ _ _ _ bZ=>(by cases bZ),fun i j b fG ha ag=>aa.e8 i j b fG ha.2 ag.2⟩,fun b=>Iff.rfl,fun j au=>ay j au.2,g6,clock,by simp[BM],gB.mono bC,r7⟩
  ·by_cases mz:j=k
   ·exact⟨if_pos mz,rfl,fun b ag=>ag.1 mz⟩
   ·rw[cW j mz] at au
    obtain⟨b1,_,b3⟩:=lN.none_ j au
    exact⟨(if_neg mz).trans b1,rfl,fun b ag=>b3 b ag.2⟩
  ·have mz:j≠k:=fun e=>by rw[e,dS] at au;cases au
   rw[cW j mz] at au
   obtain⟨zs,r,b1,b2,b3⟩:=lN.some_ j z au rfl
   exact⟨zs,r,(if_neg mz).trans b1,b2,b3.congr fun b=>⟨fun h=>h.2,fun h=>⟨mz,h⟩⟩⟩
 exact hK _ _ ⟨lC.trans hn,put_defers.trans o3,ρ,_,bR,(hS.mono bz fun _ _ _=>rfl).lD (fun e he=>by rw[hn];exact bF e he) ⟨[],rfl,rfl⟩⟩
theorem ah.Nv (c:Nat) {aP:U} (hc:ax B c=some (.map bt aP [])):ah ids K B K ((c,.obj (mX HZ))::B):=by
 rintro N C a w ⟨hn,hd,ρ,F,aA,hS⟩
 obtain⟨hF,cX,clock,ay,bu,kr⟩:=aA.holds c _ hc
 have bu:cX=[]:=bu
 subst bu
 obtain⟨bR,bz⟩:=aA.jP (w':=w) (ch:=.obj (mX HZ)) hc (Fr.refl _ _) fun I bC=>⟨[],fun _ _=>False,⟨.nil,fun _ _=>⟨rfl,rfl,fun _ h=>h⟩,fun _ _ h=>(by cases h),fun _ _ _ h=>(by cases h),fun _ _ _ _ h=>h.elim⟩,fun b=>by rw[hF];simp,fun _ h=>h,[],clock,ay,rfl,kr⟩
 exact⟨hn,hd,ρ,F,bR,hS.mono bz fun _ _ _=>rfl⟩
end
end Go.Proofs.YteoamepgonpdlaaGreat
namespace Go.Proofs.YteoamepgonpdlaaGreat
open Go.RowKit
def zH (l:List Nat):aG→Bool
 | []=>true
 |(c,ch)::B=> !l.contains c&&(l.all fun d=> !ch.has d)&&zH l B
theorem D6 {l:List Nat}: ∀{B:aG},zH l B=true→ ∀{c ch},ax B c=some ch→c∉l∧ ∀d,d∈l→ch.has d=false
 | [],_,c,ch,hc=>by cases hc
 |(e,x)::B,h,c,ch,hc=>by
  simp only[zH,Bool.and_eq_true,Bool.not_eq_true'] at h
  obtain⟨⟨aa,af⟩,ay⟩:=h
  rw[cD] at hc
  split at hc
  ·rename_i e
   injection hc with hc
   subst e hc
   refine⟨fun hm=>(by rw[List.contains_iff_mem.2 hm] at aa;cases aa),fun d hd=>?_⟩
   have:=List.all_eq_true.1 af d hd
   simpa using this
  ·exact D6 ay hc
theorem Fn.more {P:Program} {f:FuncId} {args:List aO} {aR:aG} {bA:List Nat} {res:aO} {bl:aG} (p0:aG) (h:Fn P f args aR bA res bl) (aa:((cQ p0).all fun d=> !(cQ aR).contains d&& !(cQ bl).contains d)=true) (af:zH bA p0=true):
  Fn P f args (aR++p0) bA res (bl++p0):=by
 have cz: ∀{c ch},ax p0 c=some ch→ax aR c=none∧ax bl c=none:=fun {c ch} hc=>by
  have:=List.all_eq_true.1 aa c (gu.2 ⟨ch,hc⟩)
  simp only[Bool.and_eq_true,Bool.not_eq_true'] at this
  constructor
  ·cases e:ax aR c with
   |none=>rfl
   |some x=>rw[List.contains_iff_mem.2 (gu.2 ⟨x,e⟩)] at this;cases this.1
  ·cases e:ax bl c with
   |none=>rfl
   |some x=>rw[List.contains_iff_mem.2 (gu.2 ⟨x,e⟩)] at this;cases this.2
 have wm: ∀{c ch},ax aR c=some ch→ax (aR++p0) c=some ch:=fun {c ch} hc=>by rw[mT,hc]
 have uZ: ∀{c ch},ax p0 c=some ch→ax (aR++p0) c=some ch:=fun {c ch} hc=>by rw[mT,(cz hc).1];exact hc
 have un: ∀{c ch},ax (bl++p0) c=some ch→ax bl c=some ch∨ax p0 c=some ch:=fun {c ch} hc=>by
  rw[mT] at hc
  cases e:ax bl c with
  |none=>rw[e] at hc;exact .inr hc
  |some x=>rw[e] at hc;exact .inl hc
 refine⟨h.1,fun ρ F I w bW cj cu a3 a4 a5 g5=>?_⟩
 refine(h.2 ρ F I w bW cj (fun c ch hc=>cu c ch (wm hc)) (fun c ch hc=>a3 c ch (wm hc)) (fun c bS ch ch' b hc dm=>a4 c bS ch ch' b (wm hc) (wm dm)) a5 g5).mono ?_
 rintro e w' ⟨x,ρ',F',r1,r2,gv,I',mU,nB,oh,mV,om,pU⟩
 let cU:Nat→Nat→Prop:=fun c=>if(ax p0 c).isSome=true then F c else F' c
 have f1: ∀{c ch},ax p0 c=some ch→cU c=F c:=fun {c ch} hc=>if_pos (by rw[hc];rfl)
 have f2: ∀{c ch},ax bl c=some ch→cU c=F' c:=fun {c ch} hc=>if_neg (fun hs=>by
  cases e:ax p0 c with
  |none=>rw[e] at hs;cases hs
  |some x=>rw[(cz e).2] at hc;cases hc)
 have D7: ∀{c ch} {b:Nat},ax p0 c=some ch→F c b→ ¬ ∃d ch',ax aR d=some ch'∧F d b:=fun {c ch b} hc ag=>by
  rintro⟨d,ch',hd,dw⟩
  refine a4 c d ch ch' b (uZ hc) (wm hd) (fun e=>?_) ag dw
  subst e
  rw[(cz hc).1] at hd
  cases hd
 refine⟨x,ρ',cU,r1,r2.mono fun b _ ⟨c,ch,hc,ag⟩=>⟨c,ch,wm hc,ag⟩,gv,I',mU,fun b ag=>⟨(nB b ag).1,(nB b ag).2.imp id (Or.imp (fun⟨c,ch,hc,ag⟩=>⟨c,ch,wm hc,ag⟩) id)⟩,fun c ch hc=>?_,fun c ch hc b ag=>?_,fun c bS ch ch' b hc dm bg ag dw=>?_,pU⟩
 ·rcases un hc with hc |hc
  ·rw[f2 hc];exact oh c ch hc
  ·rw[f1 hc]
   obtain⟨g1,g2⟩:=D6 af hc
   rw[gv c g1]
   exact Holds.cy mU (fun b ag=>r2.block b (a3 c ch (uZ hc) b ag).1 (D7 hc ag)) r2.size ch (fun d hd=>gv d fun hm=>by rw[g2 d hm] at hd;cases hd) (cu c ch (uZ hc))
 ·rcases un hc with hc |hc
  ·rw[f2 hc] at ag
   obtain⟨g1,g2,bL⟩:=mV c ch hc b ag
   exact⟨g1,g2,bL.imp (fun⟨d,ch',hd,ag⟩=>⟨d,ch',wm hd,ag⟩) id⟩
  ·rw[f1 hc] at ag
   obtain⟨g1,g2⟩:=a3 c ch (uZ hc) b ag
   refine⟨Nat.lt_of_lt_of_le g1 r2.size,fun bC=>?_,.inl ⟨c,ch,uZ hc,ag⟩⟩
   rcases(nB b bC).2 with h |h |h
   ·exact g2 h
   ·exact D7 hc ag h
   ·omega
 ·rcases un hc with hc |hc <;>rcases un dm with dm |dm
  ·rw[f2 hc] at ag;rw[f2 dm] at dw;exact om c bS ch ch' b hc dm bg ag dw
  ·rw[f2 hc] at ag;rw[f1 dm] at dw
   rcases(mV c ch hc b ag).2.2 with h |h
   ·exact D7 dm dw h
   ·have:=(a3 bS ch' (uZ dm) b dw).1;omega
  ·rw[f1 hc] at ag;rw[f2 dm] at dw
   rcases(mV bS ch' dm b dw).2.2 with h |h
   ·exact D7 hc ag h
   ·have:=(a3 c ch (uZ hc) b ag).1;omega
  ·rw[f1 hc] at ag;rw[f1 dm] at dw;exact a4 c bS ch ch' b (uZ hc) (uZ dm) bg ag dw
theorem Fn.dU {P:Program} {f:FuncId} {args:List aO} {aR:aG} {bA:List Nat} {d:Nat} {e:TypeId} {u:U} {xs:List (aI u)} {bl:aG} (h:Fn P f args aR (d::bA) (.c (.one (.own d))) (bl++[(d,.row e u xs)])) (aa:(cQ bl).contains d=false) (af:zH [d] bl=true):
  Fn P f args aR bA (.c (.one (.d (.cT u xs)))) bl:=by
 have cz:ax bl d=none:=by
  cases e:ax bl d with
  |none=>rfl
  |some x=>rw[List.contains_iff_mem.2 (gu.2 ⟨x,e⟩)] at aa;cases aa
 have rH:ax (bl++[(d,bw.row e u xs)]) d=some (.row e u xs):=by rw[mT,cz];simp[ax]
 have k4: ∀{c ch},ax bl c=some ch→ax (bl++[(d,bw.row e u xs)]) c=some ch:=fun {c ch} hc=>by rw[mT,hc]
 have bg: ∀{c ch},ax bl c=some ch→c≠d:=fun {c ch} hc e=>by rw[e,cz] at hc;cases hc
 refine⟨h.1,fun ρ F I w bW cj cu a3 a4 a5 g5=>?_⟩
 refine(h.2 ρ F I w bW cj cu a3 a4 a5 g5).mono ?_
 rintro ex w' ⟨x,ρ',F',r1,r2,gv,I',mU,nB,oh,mV,om,pU⟩
 have iZ:=oh d _ rH
 have zj: ∀b,I' b→(fun b=>I' b∨F' d b) b:=fun b ag=>.inl ag
 have bz:Ext I' w' (fun b=>I' b∨F' d b) w':=fun b ag=>⟨.inl ag,rfl⟩
 have eu:Den (fun b=>I' b∨F' d b) w' (.cT u xs) (ρ' d).hdr:=AT iZ zj (fun b ag=>.inr ag)
 refine⟨x,dA ρ' d (ρ d),F',r1,r2,fun c hc=>?_,fun b=>I' b∨F' d b,fun b ag=>⟨.inl (mU b ag).1,(mU b ag).2⟩,fun b ag=>?_,fun c ch hc=>?_,fun c ch hc b ag=>?_,fun c bS ch ch' b hc dm=>om c bS ch ch' b (k4 hc) (k4 dm),?_⟩
 ·by_cases e:c=d
  ·rw[e,dR]
  ·rw[dP _ _ e];exact gv c (fun hm=>by rcases List.mem_cons.1 hm with h |h;exact e h;exact hc h)
 ·rcases ag with ag |ag
  ·exact nB b ag
  ·obtain⟨g1,g2,bL⟩:=mV d _ rH b ag
   exact⟨g1,.inr bL⟩
 ·have sC:=bg hc
  obtain⟨_,g2⟩:=D6 af hc
  rw[dP _ _ sC]
  exact Holds.cy bz (fun _ _=>rfl) (Nat.le_refl _) ch (fun j au=>dP _ _ fun e=>by rw[e,g2 d (List.mem_singleton.2 rfl)] at au;cases au) (oh c ch (k4 hc))
 ·obtain⟨g1,g2,bL⟩:=mV c ch (k4 hc) b ag
  refine⟨g1,fun bC=>?_,bL⟩
  rcases bC with bC |bC
  ·exact g2 bC
  ·exact om c d ch _ b (k4 hc) rH (bg hc) ag bC
 ·have hx:x=(ρ' d).hdr:=pU
  rw[hx]
  exact eu
theorem Fn.Nw {P:Program} {f:FuncId} {args:List aO} {aR:aG} {bA:List Nat} {d:Nat} {e:TypeId} {u:U} {xs:List (aI u)} {res:aO} {bl:aG} (h:Fn P f args aR (d::bA) res (bl++[(d,.row e u xs)])) (aa:(cQ bl).contains d=false) (af:zH [d] bl=true) (ay:(res.dU d (.cT u xs)).has d=false):
  Fn P f args aR bA (res.dU d (.cT u xs)) bl:=by
 have cz:ax bl d=none:=by
  cases e:ax bl d with
  |none=>rfl
  |some x=>rw[List.contains_iff_mem.2 (gu.2 ⟨x,e⟩)] at aa;cases aa
 have rH:ax (bl++[(d,bw.row e u xs)]) d=some (.row e u xs):=by rw[mT,cz];simp[ax]
 have k4: ∀{c ch},ax bl c=some ch→ax (bl++[(d,bw.row e u xs)]) c=some ch:=fun {c ch} hc=>by rw[mT,hc]
 have bg: ∀{c ch},ax bl c=some ch→c≠d:=fun {c ch} hc e=>by rw[e,cz] at hc;cases hc
 refine⟨h.1,fun ρ F I w bW cj cu a3 a4 a5 g5=>?_⟩
 refine(h.2 ρ F I w bW cj cu a3 a4 a5 g5).mono ?_
 rintro ex w' ⟨x,ρ',F',r1,r2,gv,I',mU,nB,oh,mV,om,pU⟩
 have iZ:=oh d _ rH
 have zj: ∀b,I' b→(fun b=>I' b∨F' d b) b:=fun b ag=>.inl ag
 have bz:Ext I' w' (fun b=>I' b∨F' d b) w':=fun b ag=>⟨.inl ag,rfl⟩
 have eu:Den (fun b=>I' b∨F' d b) w' (.cT u xs) (ρ' d).hdr:=AT iZ zj (fun b ag=>.inr ag)
 refine⟨x,dA ρ' d (ρ d),F',r1,r2,fun c hc=>?_,fun b=>I' b∨F' d b,fun b ag=>⟨.inl (mU b ag).1,(mU b ag).2⟩,fun b ag=>?_,fun c ch hc=>?_,fun c ch hc b ag=>?_,fun c bS ch ch' b hc dm=>om c bS ch ch' b (k4 hc) (k4 dm),?_⟩
 ·by_cases e:c=d
  ·rw[e,dR]
  ·rw[dP _ _ e];exact gv c (fun hm=>by rcases List.mem_cons.1 hm with h |h;exact e h;exact hc h)
 ·rcases ag with ag |ag
  ·exact nB b ag
  ·obtain⟨g1,g2,bL⟩:=mV d _ rH b ag
   exact⟨g1,.inr bL⟩
 ·have sC:=bg hc
  obtain⟨_,g2⟩:=D6 af hc
  rw[dP _ _ sC]
  exact Holds.cy bz (fun _ _=>rfl) (Nat.le_refl _) ch (fun j au=>dP _ _ fun e=>by rw[e,g2 d (List.mem_singleton.2 rfl)] at au;cases au) (oh c ch (k4 hc))
 ·obtain⟨g1,g2,bL⟩:=mV c ch (k4 hc) b ag
  refine⟨g1,fun bC=>?_,bL⟩
  rcases bC with bC |bC
  ·exact g2 bC
  ·exact om c d ch _ b (k4 hc) rH (bg hc) ag bC
 ·have hv:b8 ρ' (fun b=>I' b∨F' d b) w' (res.dU d (.cT u xs)) x:=b8.dU bz eu res x pU
  exact b8.mono (Ext.refl _ _) _ _ (fun c hc=>dP _ _ fun e=>by subst e;rw[ay] at hc;cases hc) hv
theorem Fn.own {P:Program} {f:FuncId} {args:List aO} {aR:aG} {bA:List Nat} {d:Nat} {e:TypeId} {u:U} {xs:List (aI u)} {res:aO} {bl:aG} (h:Fn P f (args.map (aO.dU d (.cT u xs))) aR bA res bl) (aa:(cQ aR).contains d=false):
  Fn P f args (aR++[(d,.row e u xs)]) bA res bl:=by
 have cz:ax aR d=none:=by
  cases e:ax aR d with
  |none=>rfl
  |some x=>rw[List.contains_iff_mem.2 (gu.2 ⟨x,e⟩)] at aa;cases aa
 have rH:ax (aR++[(d,bw.row e u xs)]) d=some (.row e u xs):=by rw[mT,cz];simp[ax]
 have k4: ∀{c ch},ax aR c=some ch→ax (aR++[(d,bw.row e u xs)]) c=some ch:=fun {c ch} hc=>by rw[mT,hc]
 have bg: ∀{c ch},ax aR c=some ch→c≠d:=fun {c ch} hc e=>by rw[e,cz] at hc;cases hc
 refine⟨h.1,fun ρ F I w bW cj cu a3 a4 a5 g5=>?_⟩
 have iZ:=cu d _ rH
 have bz:Ext I w (fun b=>I b∨F d b) w:=fun b ag=>⟨.inl ag,rfl⟩
 have eu:Den (fun b=>I b∨F d b) w (.cT u xs) (ρ d).hdr:=AT iZ (fun b ag=>.inl ag) (fun b ag=>.inr ag)
 refine(h.2 ρ F (fun b=>I b∨F d b) w bW (fun b ag=>ag.elim (cj b) fun ag=>(a3 d _ rH b ag).1) (fun c ch hc=>Holds.cy bz (fun _ _=>rfl) (Nat.le_refl _) ch (fun _ _=>rfl) (cu c ch (k4 hc)))
  (fun c ch hc b ag=>⟨(a3 c ch (k4 hc) b ag).1,fun bC=>bC.elim (a3 c ch (k4 hc) b ag).2 fun hd=>a4 c d ch _ b (k4 hc) rH (bg hc) ag hd⟩) (fun c bS ch ch' b hc dm=>a4 c bS ch ch' b (k4 hc) (k4 dm)) (by rw[List.length_map];exact a5) (fun i v x hv hx=>?_)).mono ?_
 ·rw[List.getElem?_map] at hv
  obtain⟨s,hs,rfl⟩:=Option.map_eq_some_iff.1 hv
  exact b8.dU bz eu s x (g5 i s x hs hx)
 ·rintro ex w' ⟨x,ρ',F',r1,r2,gv,I',mU,nB,oh,mV,om,pU⟩
  refine⟨x,ρ',F',r1,r2.mono fun b _ ⟨c,ch,hc,ag⟩=>⟨c,ch,k4 hc,ag⟩,gv,I',fun b ag=>mU b (.inl ag),fun b ag=>⟨(nB b ag).1,?_⟩,oh,fun c ch hc b ag=>?_,om,pU⟩
  ·rcases(nB b ag).2 with h |⟨c,ch,hc,ag⟩ |h
   ·exact h.elim .inl fun h=>.inr (.inl ⟨d,_,rH,h⟩)
   ·exact .inr (.inl ⟨c,ch,k4 hc,ag⟩)
   ·exact .inr (.inr h)
  ·obtain⟨g1,g2,bL⟩:=mV c ch hc b ag
   exact⟨g1,g2,bL.imp (fun⟨c,ch,hc,ag⟩=>⟨c,ch,k4 hc,ag⟩) id⟩
end Go.Proofs.YteoamepgonpdlaaGreat
