/-
Part 9 of the proof that stands in YteoamepgonpdlaaGreatPbRow, with what it needs from the parts ahead; the parts of this text: Mg, Tb, Cn, Da, Fx.
-/
import Derived.Test.YteoamepgonpdlaaGreatPb8
namespace Go.Proofs.YteoamepgonpdlaaGreat
set_option linter.unusedVariables false
set_option linter.unusedSimpArgs false
open Go.RowKit
def nP {aO aV:U} (es:List (aJ aO×aJ aV)):Prop:=es.Pairwise fun p q=>jS aO p.1 q.1=false
theorem Ua (a b:Int):Cj a b=true↔a=b:=decide_eq_true_iff
theorem Ub (a b:List UInt8):Ck a b=true↔a=b:=decide_eq_true_iff
theorem xp {k:IntKind} (a b:aJ (.int k)):jS (.int k) a b=true↔a=b:=Ua a b
theorem Bc (a b:aJ .str):jS .str a b=true↔a=b:=Ub a b
section
variable {aO aV:U} (cL: ∀a b:aJ aO,jS aO a b=true↔a=b)
include cL
theorem sU {a b:aJ aO} (h:a≠b):jS aO a b=false:=by
 cases e:jS aO a b with
 |false=>rfl
 |true=>exact absurd ((cL a b).1 e) h
theorem Bd (a:aJ aO):jS aO a a=true:=(cL a a).2 rfl
theorem G9 (k:aJ aO) (x:aJ aV): ∀(es:List (aJ aO×aJ aV)),cz (gI es k x) k=some x∧ ∀j,j≠k→cz (gI es k x) j=cz es j
 | []=>by
  refine⟨?_,fun j ak=>?_⟩
  ·simp only[gI,cz,Bd cL]
  ·simp only[gI,cz,sU cL ak]
 |p::es=>by
  obtain⟨aa,af⟩:=G9 k x es
  unfold gI
  cases e:jS aO k p.1 with
  |true=>
   have ai:=(cL _ _).1 e
   simp only
   refine⟨by simp only[cz,Bd cL],fun j ak=>?_⟩
   simp only[cz,sU cL ak,sU cL (fun h=>ak (h.trans ai.symm))]
  |false=>
   simp only
   refine⟨by simp only[cz,e,aa],fun j ak=>?_⟩
   simp only[cz,af j ak]
theorem Ml {k:aJ aO}: ∀{es:List (aJ aO×aJ aV)},(∀p,p∈es→jS aO p.1 k=false)→cz es k=none
 | [],_=>rfl
 |p::es,h=>by
  have aa:=h p (List.mem_cons_self ..)
  have:jS aO k p.1=false:=sU cL fun e=>by rw[e,Bd cL] at aa;cases aa
  simp only[cz,this]
  exact Ml fun q bh=>h q (List.mem_cons_of_mem _ bh)
theorem He (k:aJ aO): ∀(es:List (aJ aO×aJ aV)),nP es→cz (jT es k) k=none∧ ∀j,j≠k→cz (jT es k) j=cz es j
 | [],_=>⟨rfl,fun _ _=>rfl⟩
 |p::es,hn=>by
  obtain⟨eM,gj⟩:=List.pairwise_cons.1 hn
  obtain⟨aa,af⟩:=He k es gj
  unfold jT
  cases e:jS aO k p.1 with
  |true=>
   have ai:=(cL _ _).1 e
   subst ai
   simp only
   refine⟨Ml cL fun q bh=>?_,fun j ak=>?_⟩
   ·have:=eM q bh
    exact sU cL fun e=>by rw[←e,Bd cL] at this;cases this
   ·simp only[cz,sU cL ak]
  |false=>
   simp only
   refine⟨by simp only[cz,e,aa],fun j ak=>?_⟩
   simp only[cz,af j ak]
omit cL in
theorem Hf {k:aJ aO} {x:aJ aV}: ∀{es:List (aJ aO×aJ aV)} {q:aJ aO×aJ aV},q∈gI es k x→q=(k,x)∨q∈es
 | [],q,h=>by
  unfold gI at h
  exact .inl (List.mem_singleton.1 h)
 |p::es,q,h=>by
  unfold gI at h
  split at h
  ·rcases List.mem_cons.1 h with h |h
   ·exact .inl h
   ·exact .inr (List.mem_cons_of_mem _ h)
  ·rcases List.mem_cons.1 h with h |h
   ·exact .inr (by rw[h];exact List.mem_cons_self ..)
   ·exact(Hf h).imp id (List.mem_cons_of_mem _)
omit cL in
theorem Hg {k:aJ aO}: ∀{es:List (aJ aO×aJ aV)} {q:aJ aO×aJ aV},q∈jT es k→q∈es
 | [],q,h=>by cases h
 |p::es,q,h=>by
  unfold jT at h
  split at h
  ·exact List.mem_cons_of_mem _ h
  ·rcases List.mem_cons.1 h with h |h
   ·rw[h];exact List.mem_cons_self ..
   ·exact List.mem_cons_of_mem _ (Hg h)
theorem nP.put {k:aJ aO} {x:aJ aV}: ∀{es:List (aJ aO×aJ aV)},nP es→nP (gI es k x)
 | [],_=>List.pairwise_singleton _ _
 |p::es,hn=>by
  obtain⟨eM,gj⟩:=List.pairwise_cons.1 hn
  unfold gI
  split
  ·rename_i e
   have ai:=(cL _ _).1 e
   refine List.pairwise_cons.2 ⟨fun q bh=>?_,gj⟩
   have:=eM q bh
   simp only
   rw[ai]
   exact this
  ·rename_i e
   refine List.pairwise_cons.2 ⟨fun q bh=>?_,nP.put gj⟩
   rcases Hf bh with rfl |bh
   ·simp only
    exact sU cL fun h=>by rw[h,Bd cL] at e;cases e
   ·exact eM q bh
omit cL in
theorem nP.del {k:aJ aO}: ∀{es:List (aJ aO×aJ aV)},nP es→nP (jT es k)
 | [],h=>h
 |p::es,hn=>by
  obtain⟨eM,gj⟩:=List.pairwise_cons.1 hn
  unfold jT
  split
  ·exact gj
  ·exact List.pairwise_cons.2 ⟨fun q bh=>eM q (Hg bh),nP.del gj⟩
theorem Mm {k:aJ aO} {x:aJ aV}: ∀{es:List (aJ aO×aJ aV)},cz es k=some x→(k,x)∈es
 | [],h=>by cases h
 |p::es,h=>by
  unfold cz at h
  split at h
  ·rename_i e
   injection h with h
   have ai:=(cL _ _).1 e
   subst h ai
   exact List.mem_cons_self ..
  ·exact List.mem_cons_of_mem _ (Mm h)
end
end Go.Proofs.YteoamepgonpdlaaGreat
namespace Go.Proofs.YteoamepgonpdlaaGreat
set_option linter.unusedVariables false
set_option linter.unusedSimpArgs false
set_option maxRecDepth 10000
open Go.RowKit Go.Proofs
@[reducible] def sV:U:=.pr (.int .i64) (.pr (.int .i64) .bool)
@[reducible] def eU:U:=.arr 16 sV
abbrev eD:=Int×Int×Bool
@[reducible] def p5 (s:eD):List bx:=[.d (.int .i64 s.1),.d (.int .i64 s.2.1),.d (.bool s.2.2)]
@[reducible] def oX (s:eD):dG:=.agg (p5 s)
@[reducible] def s0:eD:=(0,0,false)
def sW (s:eD):Prop:=(-1000000≤s.1∧s.1≤1000000)∧ -1000000≤s.2.1∧s.2.1≤1000000
def g0:List eD:=List.replicate 16 s0
@[reducible] def oz (n:Int) (es:List (aJ c7×aJ eU)):aG:=[(1001,.cells [.d (.int .i64 n),.mp 1002]),(1002,.map c7 eU es)]
def gO (es:List (aJ c7×aJ eU)) (k:Int):List eD:=(cz (aO:=c7) (aV:=eU) es k).getD g0
structure nQ (t:List eD) (es:List (aJ c7×aJ eU)):Prop where
 sX:nP es
 wf: ∀p,p∈es→List.length (α:=eD) p.2=16
 ok: ∀k i,sW ((gO es k).getD i s0)
 at_: ∀c (h:c < t.length),(gO es ((c/16:Nat):Int)).getD (c % 16) s0=t[c]
theorem nQ.len {t:List eD} {es:List (aJ c7×aJ eU)} (h:nQ t es) (k:Int):(gO es k).length=16:=by
 unfold gO
 cases e:cz (aO:=c7) (aV:=eU) es k with
 |none=>rfl
 |some g=>exact h.wf _ (Mm xp e)
theorem Uc (es:List (aJ c7×aJ eU)) (k:Int) (g:List eD):gO (gI (aO:=c7) (aV:=eU) es k g) k=g∧ ∀j,j≠k→gO (gI (aO:=c7) (aV:=eU) es k g) j=gO es j:=by
 obtain⟨aa,af⟩:=G9 (aO:=c7) (aV:=eU) xp k g es
 refine⟨by unfold gO;rw[aa];rfl,fun j ak=>?_⟩
 unfold gO
 rw[af j ak]
theorem Ud {es:List (aJ c7×aJ eU)} (hn:nP es) (k:Int):gO (jT (aO:=c7) (aV:=eU) es k) k=g0∧ ∀j,j≠k→gO (jT (aO:=c7) (aV:=eU) es k) j=gO es j:=by
 obtain⟨aa,af⟩:=He (aO:=c7) (aV:=eU) xp k es hn
 refine⟨by unfold gO;rw[aa];rfl,fun j ak=>?_⟩
 unfold gO
 rw[af j ak]
def qI (es:List (aJ c7×aJ eU)) (c:Nat) (s:eD):List (aJ c7×aJ eU):=
 if(gO es ((c/16:Nat):Int)).set (c % 16) s=g0 then jT (aO:=c7) (aV:=eU) es ((c/16:Nat):Int) else gI (aO:=c7) (aV:=eU) es ((c/16:Nat):Int) ((gO es ((c/16:Nat):Int)).set (c % 16) s)
theorem Ue {t:List eD} {es:List (aJ c7×aJ eU)} (h:nQ t es) (c:Nat) (s:eD):gO (qI es c s) ((c/16:Nat):Int)=(gO es ((c/16:Nat):Int)).set (c % 16) s∧ ∀j,j≠((c/16:Nat):Int)→gO (qI es c s) j=gO es j:=by
 unfold qI
 split
 ·rename_i e
  obtain⟨aa,af⟩:=Ud h.sX ((c/16:Nat):Int)
  exact⟨aa.trans e.symm,af⟩
 ·exact Uc es _ _
theorem nQ.set {t:List eD} {es:List (aJ c7×aJ eU)} (h:nQ t es) (c:Nat) (s:eD) (hs:sW s):nQ (t.set c s) (qI es c s):=by
 obtain⟨g1,g2⟩:=Ue h c s
 refine⟨?_,?_,fun k i=>?_,fun d hd=>?_⟩
 ·unfold qI
  split
  ·exact nP.del h.sX
  ·exact nP.put xp h.sX
 ·intro p hp
  unfold qI at hp
  split at hp
  ·exact h.wf p (Hg hp)
  ·rcases Hf hp with rfl |hp
   ·show List.length (α:=eD) ((gO es ((c/16:Nat):Int)).set (c % 16) s)=16
    rw[List.length_set];exact h.len _
   ·exact h.wf p hp
 ·by_cases e:k=((c/16:Nat):Int)
  ·rw[e,g1,List.getD_eq_getElem?_getD,List.getElem?_set]
   split
   ·split
    ·exact hs
    ·exact⟨by decide,by decide⟩
   ·rw[←List.getD_eq_getElem?_getD]
    exact h.ok _ _
  ·rw[g2 _ e]
   exact h.ok _ _
 ·rw[List.length_set] at hd
  have aB:=h.len ((c/16:Nat):Int)
  by_cases e:d/16=c/16
  ·rw[e,g1]
   by_cases aq:d=c
   ·subst aq
    rw[List.getElem_set_self,List.getD_eq_getElem?_getD,List.getElem?_set_self (by rw[aB];omega)]
    rfl
   ·have bf:c % 16≠d % 16:=fun h=>aq (by omega)
    rw[List.getElem_set_ne (Ne.symm aq),List.getD_eq_getElem?_getD,List.getElem?_set_ne bf,←List.getD_eq_getElem?_getD,←e]
    exact h.at_ d hd
  ·have bf:((d/16:Nat):Int)≠((c/16:Nat):Int):=fun h=>e (by omega)
   rw[g2 _ bf,List.getElem_set_ne (fun aq=>e (by rw[aq]))]
   exact h.at_ d hd
theorem Mn:(Tryz.prog.info? 188).map (·.size)=some 3:=by kernel_rfl
def qJ (s:eD):Bool:=if s.1=1 then decide (0≤s.2.1)&&decide (s.2.1 < 512) else decide (s=s0)||decide (s=(2,0,false))
theorem Mo (s q:eD):decide (s=q)=true↔gY (p5 s)=gY (p5 q):=by
 rw[decide_eq_true_iff]
 simp only[gY,xl,p5,List.cons.injEq,Lit.int.injEq,Lit.bool.injEq,true_and,and_true]
 constructor
 ·intro h;subst h;exact⟨rfl,rfl,rfl⟩
 ·rintro⟨aa,af,aA⟩;exact Prod.ext aa (Prod.ext af aA)
theorem Uf {n:Int} (h: -1000000≤n∧n≤1000000):(Lit.int .i64 n).wf=true:=by
 simp only[Lit.wf,Bool.and_eq_true,decide_eq_true_eq]
 have aa:IntKind.min .i64= -9223372036854775808:=by decide
 have af:IntKind.max .i64=9223372036854775807:=by decide
 rw[aa,af]
 omega
theorem Mp (d:Nat) {n:Int} (h: -1000000≤n∧n≤1000000):Tryz.prog.keyLits (d+1) 3 [.int .i64 n]=some [.int .i64 n]:=by
 unfold Program.keyLits
 simp only[Tryz.underlying3]
 have hw:=Uf h
 simp[hw]
theorem kZ (d:Nat) {s:eD} (h:sW s):Tryz.prog.keyLits (d+2) 188 (kf (p5 s))=some (gY (p5 s)):=by
 have bp:Tryz.prog.cellsOf 188=3:=by kernel_rfl
 have bq:Tryz.prog.cellsOf 3=1:=by kernel_rfl
 have b8:Tryz.prog.cellsOf 4=1:=by kernel_rfl
 have cE:=Mp d h.1
 have ey:=Mp d h.2
 have fo:Tryz.prog.keyLits (d+1) 4 [.bool s.2.2]=some [.bool s.2.2]:=by
  unfold Program.keyLits
  simp only[Tryz.underlying4]
 unfold Program.keyLits
 simp only[Tryz.underlying188,bp]
 simp[kf,Dr,p5,bq,b8,cE,ey,fo,gY,xl]
theorem Ug (s:eD) (hs:sW s):Fn Tryz.prog 151 [.c (oX s)] [] [] (g9 (qJ s)) []:=by
 refine Fn.of aj [] _ _ _ _ _ Tryz.func151 rfl rfl (by kernel_rfl) (by kernel_rfl) rfl (aK aj) rfl ?_
 refine⟨rfl,?_⟩
 refine⟨fun aa=>?_,fun aa=>?_⟩
 ·have aa:=of_decide_eq_true aa
  refine⟨fun af=>?_,fun af=>?_⟩
  ·refine⟨_,_,_,ah.refl _ _,rfl,?_,trivial,rfl⟩
   show decide (s.2.1 < 512)=qJ s
   unfold qJ
   have af:decide (0≤s.2.1)=true:=af
   rw[if_pos aa,af,Bool.true_and]
  ·refine⟨_,_,_,ah.refl _ _,rfl,?_,trivial,rfl⟩
   show false=qJ s
   unfold qJ
   have af:decide (0≤s.2.1)=false:=af
   rw[if_pos aa,af,Bool.false_and]
 ·have aa:=of_decide_eq_false aa
  refine⟨_,_,fun N=>GZ (m:=5) (D:=5) (lx:=p5 s) (ly:=[.d (.int .i64 0),.d (.int .i64 0),.d (.lit false)]) rfl (by kernel_rfl) (by kernel_rfl) (by decide) rfl rfl rfl rfl rfl (kZ 3 hs) (kZ 3 (s:=s0) ⟨by decide,by decide⟩) (Mo s s0) N,rfl,?_⟩
  refine⟨fun af=>?_,fun af=>?_⟩
  ·refine⟨_,_,_,ah.refl _ _,rfl,?_,trivial,rfl⟩
   show true=qJ s
   unfold qJ
   rw[if_neg aa,af,Bool.true_or]
  ·refine⟨_,_,fun N=>GZ (m:=5) (D:=5) (lx:=p5 s) (ly:=[.d (.int .i64 2),.d (.int .i64 0),.d (.lit false)]) rfl (by kernel_rfl) (by kernel_rfl) (by decide) rfl rfl rfl rfl rfl (kZ 3 hs) (kZ 3 (s:=(2,0,false)) ⟨by decide,by decide⟩) (Mo s (2,0,false)) N,rfl,?_⟩
   refine⟨_,_,_,ah.refl _ _,rfl,?_,trivial,rfl⟩
   show decide (s=(2,0,false))=qJ s
   unfold qJ
   rw[if_neg aa,af,Bool.false_or]
def vp (s:eD):Bool:=decide (s.1=1)&&s.2.2
theorem Uh (s:eD):Fn Tryz.prog 134 [.c (oX s)] [] [] (g9 (vp s)) []:=by
 refine Fn.of aj [] _ _ _ _ _ Tryz.func134 rfl rfl (by kernel_rfl) (by kernel_rfl) rfl (aK aj) rfl ?_
 refine⟨rfl,?_⟩
 refine⟨fun aa=>?_,fun aa=>?_⟩
 ·refine⟨_,_,_,ah.refl _ _,rfl,?_,trivial,rfl⟩
  show s.2.2=vp s
  unfold vp
  have aa:decide (s.1=1)=true:=aa
  rw[aa,Bool.true_and]
 ·refine⟨_,_,_,ah.refl _ _,rfl,?_,trivial,rfl⟩
  show false=vp s
  unfold vp
  have aa:decide (s.1=1)=false:=aa
  rw[aa,Bool.false_and]
theorem Mq (n:Int):Fn Tryz.prog 113 [aD n] [] [] (g9 (decide (0≤n)&&decide (n≤256))) []:=by
 refine Fn.of aj [] _ _ _ _ _ Tryz.func113 rfl rfl (by kernel_rfl) (by kernel_rfl) rfl (aK aj) rfl ?_
 refine⟨fun h=>?_,fun h=>?_⟩
 ·refine⟨_,_,_,ah.refl _ _,rfl,?_,trivial,rfl⟩
  show decide (n≤256)=_
  have h:decide (0≤n)=true:=h
  rw[h,Bool.true_and]
 ·refine⟨_,_,_,ah.refl _ _,rfl,?_,trivial,rfl⟩
  show false=_
  have h:decide (0≤n)=false:=h
  rw[h,Bool.false_and]
theorem Ui (n:Int) (es:List (aJ c7×aJ eU)):Fn Tryz.prog 105 [aI 1001] (oz n es) [] (aD n) (oz n es):=by
 refine Fn.of aj [] _ _ _ _ _ Tryz.func105 rfl rfl (by kernel_rfl) (by kernel_rfl) rfl (aK aj) rfl ?_
 exact⟨_,_,_,ah.refl _ _,rfl,rfl,⟨rfl,rfl,trivial⟩,rfl⟩
theorem Mr {t:List eD} {es:List (aJ c7×aJ eU)} (hR:nQ t es) (aB:t.length≤256) (c:Nat) (hc:c < t.length):Fn Tryz.prog 108 [aI 1001,aD (c:Int)] (oz (t.length:Nat) es) [] (.c (oX t[c])) (oz (t.length:Nat) es):=by
 have bl:(gO es ((c:Int)/16)).getD ((c:Int) % 16).toNat s0=t[c]:=by
  rw[←hR.at_ c hc]
  congr 1
 obtain⟨Uj,Be,Ds⟩: ∃i,Tryz.prog.info? 188=some i∧i.size=3:=by
  have:=Mn
  cases e:Tryz.prog.info? 188 with
  |none=>rw[e] at this;cases this
  |some i=>rw[e] at this;exact⟨i,rfl,by simpa using this⟩
 refine Fn.of aj [] _ _ _ _ _ Tryz.func108 rfl rfl (by kernel_rfl) (by kernel_rfl) rfl (aK aj) rfl ?_
 refine⟨rfl,?_⟩
 refine⟨fun aa=>absurd (of_decide_eq_true aa) (by omega),fun aa=>?_⟩
 refine⟨fun aa=>absurd (of_decide_eq_true aa) (by omega),fun aa=>?_⟩
 refine⟨⟨by omega,by omega⟩,⟨by omega,by omega⟩,?_⟩
 refine⟨⟨by omega,by omega⟩,⟨by omega,by omega⟩,?_⟩
 refine⟨_,_,fun N=>TZ (n:=16) (e:=188) (u:=sV) (g:=gO es ((c:Int)/16)) (j:=(c:Int) % 16) rfl Tryz.underlying217 Tryz.underlying188 rfl Be Ds rfl rfl (by omega) (by omega) N,rfl,?_⟩
 refine⟨_,_,_,ah.refl _ _,rfl,?_,⟨rfl,rfl,trivial⟩,rfl⟩
 show sq (.c (.agg (fE sV ((gO es ((c:Int)/16)).getD ((c:Int) % 16).toNat s0) 0 3))) _
 rw[bl]
 exact⟨rfl,rfl,rfl,trivial⟩
theorem Uk (g g':List eD) (aB:g.length=16) (gC:g'.length=16):gY (fE eU g 0 48)=gY (fE eU g' 0 48)→g=g':=by
 intro h
 have eP: ∀(l:List bx) (j:Nat),(gY l)[j]? =(l[j]?).map xl:=fun l=>by
  induction l with
  |nil=>intro j;simp[gY]
  |cons s l aY=>
   intro j
   match j with
   |0=>rfl
   |j+1=>simpa[gY] using aY j
 have hc: ∀i,i < 16→ ∀q,q < 3→xl (.d (eW sV (g.getD i s0) q))=xl (.d (eW sV (g'.getD i s0) q)):=fun i ay q bh=>by
  have aa:=congrArg (fun l=>l[i*3+q]?) h
  simp only[eP] at aa
  have ai:=yw eU g 48 0 (i*3+q) (by omega)
  have aq:=yw eU g' 48 0 (i*3+q) (by omega)
  rw[ai,aq] at aa
  simp only[Option.map_some,Option.some.injEq,Nat.zero_add] at aa
  have bp:eW eU g (i*3+q)=eW sV (g.getD i s0) q:=G7 (u:=sV) (n:=16) g i q bh
  have bq:eW eU g' (i*3+q)=eW sV (g'.getD i s0) q:=G7 (u:=sV) (n:=16) g' i q bh
  rw[bp,bq] at aa
  exact aa
 refine List.ext_getElem (aB.trans gC.symm) fun i aa af=>?_
 have a0:=hc i (by omega) 0 (by omega)
 have ct:=hc i (by omega) 1 (by omega)
 have cB:=hc i (by omega) 2 (by omega)
 have ai:g.getD i s0=g[i]:=by rw[List.getD_eq_getElem?_getD,List.getElem?_eq_getElem aa];rfl
 have aq:g'.getD i s0=g'[i]:=by rw[List.getD_eq_getElem?_getD,List.getElem?_eq_getElem af];rfl
 rw[ai,aq] at a0 ct cB
 have l9:Lit.int .i64 (g[i]).1=Lit.int .i64 (g'[i]).1:=a0
 have bQ:Lit.int .i64 (g[i]).2.1=Lit.int .i64 (g'[i]).2.1:=ct
 have cn:Lit.bool (g[i]).2.2=Lit.bool (g'[i]).2.2:=cB
 injection l9 with _ l9
 injection bQ with _ bQ
 injection cn with cn
 exact Prod.ext l9 (Prod.ext bQ cn)
theorem mapM_some {α β:Type} {f:α→Option β} {g:α→β}: ∀{l:List α},(∀a,a∈l→f a=some (g a))→l.mapM f=some (l.map g)
 | [],_=>rfl
 |a::l,h=>by
  rw[List.mapM_cons,h a (List.mem_cons_self ..),mapM_some fun b ag=>h b (List.mem_cons_of_mem _ ag)]
  rfl
theorem Ms (d:Nat) (g:List eD) (h: ∀i,i < 16→sW (g.getD i s0)):Tryz.prog.keyLits (d+3) 217 (kf (fE eU g 0 48))=some (gY (fE eU g 0 48)):=by
 have bp:Tryz.prog.cellsOf 217=48:=by kernel_rfl
 have bq:Tryz.prog.cellsOf 188=3:=by kernel_rfl
 have key: ∀i,i < 16→Tryz.prog.keyLits (d+2) 188 (((kf (fE eU g 0 48)).drop (i*3)).take 3)=some (gY (p5 (g.getD i s0))):=by
  intro i ay
  match i,ay with
  |0,_=>exact kZ d (h 0 (by omega))
  |1,_=>exact kZ d (h 1 (by omega))
  |2,_=>exact kZ d (h 2 (by omega))
  |3,_=>exact kZ d (h 3 (by omega))
  |4,_=>exact kZ d (h 4 (by omega))
  |5,_=>exact kZ d (h 5 (by omega))
  |6,_=>exact kZ d (h 6 (by omega))
  |7,_=>exact kZ d (h 7 (by omega))
  |8,_=>exact kZ d (h 8 (by omega))
  |9,_=>exact kZ d (h 9 (by omega))
  |10,_=>exact kZ d (h 10 (by omega))
  |11,_=>exact kZ d (h 11 (by omega))
  |12,_=>exact kZ d (h 12 (by omega))
  |13,_=>exact kZ d (h 13 (by omega))
  |14,_=>exact kZ d (h 14 (by omega))
  |15,_=>exact kZ d (h 15 (by omega))
  |n+16,ay=>exact absurd ay (by omega)
 unfold Program.keyLits
 simp only[Tryz.underlying217,bp,bq]
 have aB:(kf (fE eU g 0 48)).length=48:=rfl
 have hr:((List.range 16).map fun i=>gY (p5 (g.getD i s0))).flatten=gY (fE eU g 0 48):=rfl
 generalize kf (fE eU g 0 48)=vl at aB key⊢
 rw[if_pos aB,mapM_some (g:=fun i=>gY (p5 (g.getD i s0))) fun i ay=>key i (List.mem_range.1 ay)]
 exact congrArg some hr
theorem Ul:(Tryz.prog.info? 217).map (·.size)=some 48:=by kernel_rfl
theorem m0 {T n:Nat} (h:(Tryz.prog.info? T).map (·.size)=some n): ∃i,Tryz.prog.info? T=some i∧i.size=n:=by
 cases e:Tryz.prog.info? T with
 |none=>rw[e] at h;cases h
 |some i=>rw[e] at h;exact⟨i,rfl,by simpa using h⟩
theorem Mt (i:Nat):g0.getD i s0=s0:=by
 unfold g0
 rw[List.getD_eq_getElem?_getD,List.getElem?_replicate]
 split <;>rfl
@[reducible] def nR:List bx:=[.d (.int .i64 0),.d (.int .i64 0),.d (.lit false)]
@[reducible] def Dt:List bx:=nR++(nR++(nR++(nR++(nR++(nR++(nR++(nR++(nR++(nR++(nR++(nR++(nR++(nR++(nR++nR))))))))))))))
theorem Um:Tryz.prog.keyLits 5 217 (kf Dt)=some (gY Dt):=Ms 2 g0 fun i _=>by rw[Mt];exact⟨by decide,by decide⟩
@[reducible] def Un (c:Nat):aQ:=[(0,aI 1001),(1,aD (c:Int)),(5,aI 5),(6,aI 6)]
@[reducible] def Uo (n:Int) (es:List (aJ c7×aJ eU)) (s:eD) (g:List eD):aG:=[(6,.val eU g),(5,.cells (p5 s)),(1001,.cells [.d (.int .i64 n),.mp 1002]),(1002,.map c7 eU es)]
set_option maxHeartbeats 1000000 in
theorem Up {t:List eD} {es:List (aJ c7×aJ eU)} (hR:nQ t es) (n:Int) (c:Nat) (hc:c < 100000) (s:eD) (hs:sW s):Fn Tryz.prog 152 [aI 1001,aD (c:Int),.c (oX s)] (oz n es) [] sM (oz n (qI es c s)):=by
 obtain⟨Uj,Be,Ds⟩:=m0 Mn
 obtain⟨abm,Mu,Mv⟩:=m0 Ul
 have hlen:=hR.len ((c:Int)/16)
 have vq:((c/16:Nat):Int)=(c:Int)/16:=by omega
 have rN:((c:Int) % 16).toNat=c % 16:=by omega
 have y5:(gO es ((c:Int)/16)).set (c % 16) s=g0→qI es c s=jT (aO:=c7) (aV:=eU) es ((c:Int)/16):=fun h=>by
  unfold qI
  rw[vq,if_pos h]
  rfl
 have Mw: ¬(gO es ((c:Int)/16)).set (c % 16) s=g0→qI es c s=gI (aO:=c7) (aV:=eU) es ((c:Int)/16) ((gO es ((c:Int)/16)).set (c % 16) s):=fun h=>by
  unfold qI
  rw[vq,if_neg h]
  rfl
 have Hh:((gO es ((c:Int)/16)).set (c % 16) s).length=16:=by rw[List.length_set];exact hlen
 have Mx: ∀i,i < 16→sW (((gO es ((c:Int)/16)).set (c % 16) s).getD i s0):=fun i _=>by
  rw[List.getD_eq_getElem?_getD,List.getElem?_set]
  split
  ·split
   ·exact hs
   ·exact⟨by decide,by decide⟩
  ·rw[←List.getD_eq_getElem?_getD];exact hR.ok _ _
 obtain⟨g',um⟩: ∃g':List eD,g'=(gO es ((c:Int)/16)).set (c % 16) s:=⟨_,rfl⟩
 rw[←um] at y5 Mw Mx Hh
 have heq:decide (g'=g0)=true↔gY (fE eU g' 0 48)=gY Dt:=by
  rw[decide_eq_true_iff]
  exact⟨fun h=>by rw[h];rfl,Uk g' g0 Hh rfl⟩
 refine Fn.of aj [2] _ _ _ _ _ Tryz.func152 rfl rfl (by kernel_rfl) (by kernel_rfl) rfl (aK aj) rfl ?_
 refine⟨rfl,?_⟩
 refine⟨⟨by omega,by omega⟩,⟨by omega,by omega⟩,?_⟩
 refine⟨rfl,?_⟩
 show aE _ _ _ _ _ _ _
 refine aE.go aj (aK aj) [] (by kernel_rfl) ((ah.T1 6 (u:=eU) (x:=gO es ((c:Int)/16)) ⟨hlen,fun _ _=>⟨trivial,trivial,trivial⟩⟩ rfl).trans (ah.sub (K':=Un c) (B':=Uo n es s (gO es ((c:Int)/16))) ⟨rfl,rfl,rfl,rfl,trivial⟩ ⟨rfl,rfl,rfl,rfl,trivial⟩)) ?_
 refine⟨⟨by omega,by omega⟩,⟨by omega,by omega⟩,?_⟩
 refine⟨_,_,fun N=>T2 (s:=3) (j:=(c:Int) % 16) rfl Tryz.underlying217 Be Ds rfl rfl (by omega) (by omega) N,rfl,?_⟩
 rw[rN]
 refine⟨_,⟨[6],[],[(6,some (.val eU g'))]⟩,fun N=>by rw[um];exact T4 (n:=16) (u:=sV) (g:=gO es ((c:Int)/16)) (y:=s) rfl Be Ds rfl (by omega) rfl rfl ⟨trivial,trivial,trivial⟩ N,rfl,?_⟩
 refine⟨_,_,fun N=>Mi (u:=eU) (y:=g') rfl Tryz.underlying217 rfl Mu Mv rfl rfl N,rfl,?_⟩
 refine⟨_,_,fun N=>T5 aj rfl rfl Tryz.underlying217 Be rfl N,rfl,?_⟩
 refine⟨_,_,fun N=>GZ (m:=5) (D:=5) (r:=decide (g'=g0)) (lx:=fE eU g' 0 48) (ly:=Dt) rfl (by kernel_rfl) (by kernel_rfl) (by decide) rfl rfl rfl rfl rfl (Ms 2 g' Mx) Um (heq) N,rfl,?_⟩
 refine⟨fun h=>?_,fun h=>?_⟩
 ·have h:=of_decide_eq_true h
  refine⟨⟨by omega,by omega⟩,⟨by omega,by omega⟩,?_⟩
  rw[y5 h]
  exact⟨_,_,_,ah.refl _ _,rfl,trivial,⟨rfl,rfl,trivial⟩,rfl⟩
 ·have h:=of_decide_eq_false h
  refine⟨⟨by omega,by omega⟩,⟨by omega,by omega⟩,?_⟩
  refine⟨_,_,fun N=>Mi (u:=eU) (y:=g') rfl Tryz.underlying217 rfl Mu Mv rfl rfl N,rfl,?_⟩
  refine⟨g',⟨⟨Hh,fun _ _=>⟨trivial,trivial,trivial⟩⟩,rfl⟩,?_⟩
  refine⟨rfl,?_⟩
  rw[Mw h]
  exact⟨_,_,_,ah.refl _ _,rfl,trivial,⟨rfl,rfl,trivial⟩,rfl⟩
theorem Uq {t:List eD} {es:List (aJ c7×aJ eU)} (hR:nQ t es) (aB:t.length≤256) (c:Nat) (hc:c < t.length) (s:eD) (hs:sW s) (hr:qJ s=true):
  Fn Tryz.prog 145 [aI 1001,aD (c:Int),.c (oX s)] (oz (t.length:Nat) es) [] (.c8 [oX t[c],fO 0]) (oz (t.length:Nat) (qI es c s)):=by
 refine Fn.of aj [] _ _ _ _ _ Tryz.func145 rfl rfl (by kernel_rfl) (by kernel_rfl) rfl (aK aj) rfl ?_
 refine⟨rfl,?_⟩
 refine⟨rfl,?_⟩
 refine⟨fun aa=>absurd (of_decide_eq_true aa) (by omega),fun aa=>?_⟩
 refine⟨fun aa=>absurd (of_decide_eq_true aa) (by omega),fun aa=>?_⟩
 refine⟨_,_,_,_,Ug s hs,trivial,rfl,?_⟩
 refine⟨fun aa=>absurd aa (by rw[hr];decide),fun _=>?_⟩
 refine⟨_,_,_,_,Mr hR aB c hc,⟨rfl,rfl,trivial⟩,rfl,?_⟩
 refine⟨rfl,?_⟩
 refine⟨_,_,_,_,Up hR (t.length:Nat) c (by omega) s hs,⟨rfl,rfl,trivial⟩,rfl,?_⟩
 exact⟨_,_,_,ah.refl _ _,rfl,⟨⟨rfl,rfl,rfl,trivial⟩,rfl,trivial⟩,⟨rfl,rfl,trivial⟩,rfl⟩
def qK (t:List eD):bK where
 R:=fun I F w p=> ∃es,nQ t es∧mX 1001 (oz (t.length:Nat) es) I F w p
 cA:=fun I F w I' w' p ⟨es,h,bl⟩ he hF aS=>⟨es,h,(bK.ud 1001 (oz (t.length:Nat) es)).cA I F w I' w' p bl he hF aS⟩
theorem nQ.new (n:Nat):nQ (List.replicate n s0) []:=by
 have bl: ∀k i,(gO [] k).getD i s0=s0:=fun k i=>Mt i
 refine⟨.nil,fun p hp=>(nomatch hp),fun k i=>?_,fun c hc=>?_⟩
 ·rw[bl];exact⟨by decide,by decide⟩
 ·rw[bl,List.getElem_replicate]
theorem Ur (n:Int) (h: ¬(0≤n∧n≤256)):Fn Tryz.prog 85 [aD n] [] [] (.c8 [yX,fO 1]) []:=by
 have ag:(decide (0≤n)&&decide (n≤256))=false:=by
  rw[Bool.and_eq_false_iff,decide_eq_false_iff_not,decide_eq_false_iff_not]
  omega
 refine Fn.of aj [] _ _ _ _ _ Tryz.func85 rfl rfl (by kernel_rfl) (by kernel_rfl) rfl (aK aj) rfl ?_
 refine⟨_,_,_,_,Mq n,trivial,rfl,?_⟩
 rw[ag]
 refine⟨fun _=>?_,fun aa=>absurd aa (by decide)⟩
 exact⟨_,_,_,ah.refl _ _,rfl,⟨rfl,rfl,trivial⟩,trivial,rfl⟩
theorem Hi (n:Nat) (h:n≤256):Fn Tryz.prog 85 [aD (n:Int)] [] [1001] (.c8 [.one (.ptr 1001 0),fO 0]) [(1001,.obj (qK (List.replicate n s0)))]:=by
 have ag:(decide ((0:Int)≤n)&&decide ((n:Int)≤256))=true:=by
  rw[Bool.and_eq_true,decide_eq_true_iff,decide_eq_true_iff]
  omega
 have aB:((List.replicate n s0).length:Nat)=n:=List.length_replicate
 refine Fn.of aj [] _ _ _ _ _ Tryz.func85 rfl rfl (by kernel_rfl) (by kernel_rfl) rfl (aK aj) rfl ?_
 refine⟨_,_,_,_,Mq n,trivial,rfl,?_⟩
 rw[ag]
 refine⟨fun aa=>absurd aa (by decide),fun _=>?_⟩
 refine⟨rfl,?_⟩
 refine⟨rfl,?_⟩
 refine⟨_,_,_,(ah.ren 10 1001 rfl).trans ((ah.ren 8 1002 rfl).trans (ah.close 1001 (oz (n:Nat) []) (o:=qK (List.replicate n s0)) ⟨rfl,rfl,trivial⟩ rfl fun _ _ _ _ h=>⟨[],nQ.new n,by rw[aB];exact h⟩)),rfl,⟨rfl,rfl,trivial⟩,⟨rfl,trivial⟩,rfl⟩
end Go.Proofs.YteoamepgonpdlaaGreat
namespace Go.Proofs.YteoamepgonpdlaaGreat
set_option linter.unusedVariables false
set_option linter.unusedSimpArgs false
set_option maxRecDepth 10000
open Go.RowKit Go.Proofs
@[reducible] def oY (l:List Int):aG:=[(1001,.cells [.own 1002]),(1002,.row 3 c7 l)]
def qL (l:List Int):bK:=.ud 1001 (oY l)
theorem Us:(Tryz.prog.info? 3).map (fun i=>(i.zero,i.size,i.bytes))=some (some (.int .i64 0),1,8):=by kernel_rfl
theorem My (n:Int) (h: ¬(0≤n∧n≤512)):Fn Tryz.prog 86 [aD n] [] [] (.c8 [yX,fO 1]) []:=by
 refine Fn.of aj [] _ _ _ _ _ Tryz.func86 rfl rfl (by kernel_rfl) (by kernel_rfl) rfl (aK aj) rfl ?_
 refine⟨fun aa=>?_,fun aa=>?_⟩
 ·exact⟨_,_,_,ah.refl _ _,rfl,⟨rfl,rfl,trivial⟩,trivial,rfl⟩
 refine⟨fun af=>?_,fun af=>?_⟩
 ·exact⟨_,_,_,ah.refl _ _,rfl,⟨rfl,rfl,trivial⟩,trivial,rfl⟩
 ·exfalso
  simp at aa af
  omega
theorem Du (n:Int) (aC:0≤n) (hn:n≤512):Fn Tryz.prog 86 [aD n] [] [1001] (.c8 [.one (.ptr 1001 0),fO 0]) [(1001,.obj (qL (List.replicate n.toNat (0:Int))))]:=by
 obtain⟨inf,i1,i2,i3,i4⟩:=info_parts Us
 refine Fn.of aj [] _ _ _ _ _ Tryz.func86 rfl rfl (by kernel_rfl) (by kernel_rfl) rfl (aK aj) rfl ?_
 refine⟨fun aa=>?_,fun aa=>?_⟩
 ·exfalso;simp at aa;omega
 refine⟨fun af=>?_,fun af=>?_⟩
 ·exfalso;simp at af;omega
 refine⟨_,_,fun N=>T8 (d:=11) rfl Tryz.underlying128 i1 i2 i3 i4 rfl rfl aC (by omega) N,rfl,?_⟩
 refine⟨rfl,?_⟩
 exact⟨_,_,_,(ah.ren 13 1001 rfl).trans ((ah.ren 11 1002 rfl).trans (ah.close 1001 (oY (List.replicate n.toNat (0:Int))) (o:=qL (List.replicate n.toNat (0:Int))) ⟨rfl,rfl,trivial⟩ rfl fun _ _ _ _ h=>h)),rfl,⟨rfl,rfl,trivial⟩,⟨rfl,trivial⟩,rfl⟩
theorem Ut (l:List Int) (h:Int):Fn Tryz.prog 173 [aI 1001,aD h] (oY l) [] (g9 (decide (0≤h)&&decide (h < l.length))) (oY l):=by
 refine Fn.of aj [] _ _ _ _ _ Tryz.func173 rfl rfl (by kernel_rfl) (by kernel_rfl) rfl (aK aj) rfl ?_
 refine⟨fun aa=>?_,fun aa=>?_⟩
 ·refine⟨_,_,_,ah.refl _ _,rfl,?_,⟨rfl,rfl,trivial⟩,rfl⟩
  show decide (h < (l.length:Nat))=(decide (0≤h)&&decide (h < (l.length:Nat)))
  have aa:decide (0≤h)=true:=aa
  rw[aa,Bool.true_and]
 ·refine⟨_,_,_,ah.refl _ _,rfl,?_,⟨rfl,rfl,trivial⟩,rfl⟩
  show false=(decide (0≤h)&&decide (h < (l.length:Nat)))
  have aa:decide (0≤h)=false:=aa
  rw[aa,Bool.false_and]
theorem Uu (n:Int) (h:n≠0):Fn Tryz.prog 166 [aD n] [] [] (aD 0) []:=by
 refine Fn.of aj [] _ _ _ _ _ Tryz.func166 rfl rfl (by kernel_rfl) (by kernel_rfl) rfl (aK aj) rfl ?_
 refine⟨fun aa=>absurd (of_decide_eq_true aa) h,fun aa=>?_⟩
 exact⟨_,_,_,ah.refl _ _,rfl,rfl,trivial,rfl⟩
theorem Uv (l:List Int) (h:Nat) (n:Int) (hn:l[h]? =some n) (aa:1≤n) (af:n≤65535):Fn Tryz.prog 165 [aI 1001,aD (h:Int),aD (-1),v1 (.eH 166 [])] (oY l) [] (aD 0) (oY (l.set h (n - 1))):=by
 have aB:h < l.length:=(List.getElem?_eq_some_iff.1 hn).1
 refine Fn.of aj [] _ _ _ _ _ Tryz.func165 rfl rfl (by kernel_rfl) (by kernel_rfl) rfl (aK aj) rfl ?_
 refine⟨_,_,_,_,Ut l h,⟨rfl,rfl,trivial⟩,rfl,?_⟩
 have bw:(0:Int)≤(h:Int):=by omega
 have bX:(h:Int) < (l.length:Nat):=by omega
 refine⟨fun _=>?_,fun hf=>?_⟩
 ·refine⟨⟨bw,bX⟩,n,hn,?_⟩
  refine⟨_,_,_,_,Uu n (by omega),trivial,rfl,?_⟩
  refine⟨fun _=>?_,fun h=>absurd h (by decide)⟩
  refine⟨⟨bw,bX⟩,n,hn,⟨by omega,by omega⟩,⟨bw,bX⟩,⟨trivial,aB⟩,?_⟩
  exact⟨_,_,_,ah.refl _ _,rfl,rfl,⟨rfl,rfl,trivial⟩,rfl⟩
 ·exfalso
  have hf:(decide ((0:Int)≤h)&&decide ((h:Int) < l.length))=false:=hf
  rw[decide_eq_true (by omega),decide_eq_true (by omega)] at hf
  cases hf
theorem Uw (l:List Int) (h:Nat) (n:Int) (hn:l[h]? =some n) (aa:1≤n) (af:n≤65535):Fn Tryz.prog 153 [aI 1001,aD (h:Int)] (oY l) [] (.c8 [.one (.d (.int .i64 (n - 1))),fO 0]) (oY (l.set h (n - 1))):=by
 have aB:h < l.length:=(List.getElem?_eq_some_iff.1 hn).1
 refine Fn.of aj [] _ _ _ _ _ Tryz.func153 rfl rfl (by kernel_rfl) (by kernel_rfl) rfl (aK aj) rfl ?_
 refine⟨_,_,_,_,Uv l h n hn aa af,⟨rfl,rfl,trivial⟩,rfl,?_⟩
 refine⟨fun h=>absurd h (by decide),fun _=>?_⟩
 have rq:h < (l.set h (n - 1)).length:=by rw[List.length_set];exact aB
 have bw:(0:Int)≤(h:Int):=by omega
 have bX:(h:Int) < ((l.set h (n - 1)).length:Nat):=by omega
 have fT:(l.set h (n - 1))[h]? =some (n - 1):=by rw[List.getElem?_set_self aB]
 refine⟨⟨bw,bX⟩,n - 1,fT,?_⟩
 exact⟨_,_,_,ah.refl _ _,rfl,⟨rfl,rfl,trivial⟩,⟨rfl,rfl,trivial⟩,rfl⟩
def zeros (l:List Int):Nat:=(l.filter fun x=>decide (x=0)).length
theorem Hj (l:List Int):zeros l≤l.length:=List.length_filter_le _ _
theorem Ux {l:List Int} {k:Nat} (h:k < l.length):zeros (l.take (k+1))=zeros (l.take k)+(if l[k]=0 then 1 else 0):=by
 unfold zeros
 rw[List.take_succ_eq_append_getElem h,List.filter_append,List.length_append]
 congr 1
 by_cases e:l[k]=0
 ·simp[e]
 ·simp[e]
@[reducible] def Uy (l:List Int) (k:Nat):aQ:=[(3,aD (zeros (l.take k):Nat)),(9,iL 1002),(10,aD (l.length:Nat)),(11,aD (k:Nat))]
theorem Uz (l:List Int) (aB:l.length≤1000000):Fn Tryz.prog 135 [aI 1001] (oY l) [] (aD (zeros l:Nat)) (oY l):=by
 refine Fn.of aj [] _ _ _ _ _ Tryz.func135 rfl rfl (by kernel_rfl) (by kernel_rfl) rfl (aK aj) rfl ?_
 show aE _ _ _ _ _ _ _
 refine aE.loop aj (aK aj) [] (by kernel_rfl) (X:=Nat) (Uy l) (fun _=>oY l) (fun k=>k≤l.length) (fun k=>l.length - k) 0 (Nat.zero_le _) ?_ ?_
 ·exact ah.sub ⟨rfl,rfl,rfl,rfl,trivial⟩ ⟨rfl,rfl,trivial⟩
 intro k au
 have aS:=Hj (l.take k)
 have qz:(l.take k).length≤l.length:=by rw[List.length_take];omega
 refine⟨fun h=>?_,fun h=>?_⟩
 ·have h:decide ((k:Int) < (l.length:Nat))=true:=h
  have e8:k < l.length:=by simpa using h
  have hs:=Ux e8
  have bw:(0:Int)≤(k:Int):=by omega
  have bX:(k:Int) < (l.length:Nat):=by omega
  refine⟨⟨bw,bX⟩,l[k],eY (n:=k) e8,?_⟩
  refine⟨fun aC=>?_,fun aC=>?_⟩
  ·have aC:=of_decide_eq_true aC
   refine⟨by omega,by omega,k+1,by omega,by omega,ah.sub ⟨?_,rfl,rfl,rfl,trivial⟩ ⟨rfl,rfl,trivial⟩⟩
   show((zeros (l.take k):Nat):Int)+1=(zeros (l.take (k+1)):Nat)
   rw[hs,if_pos aC]
   omega
  ·have aC:=of_decide_eq_false aC
   refine⟨by omega,k+1,by omega,by omega,ah.sub ⟨?_,rfl,rfl,rfl,trivial⟩ ⟨rfl,rfl,trivial⟩⟩
   show((zeros (l.take k):Nat):Int)=(zeros (l.take (k+1)):Nat)
   rw[hs,if_neg aC]
   omega
 ·have h:decide ((k:Int) < (l.length:Nat))=false:=h
  have e8:k=l.length:=by simp at h;omega
  subst e8
  refine⟨_,_,_,ah.refl _ _,rfl,?_,⟨rfl,rfl,trivial⟩,rfl⟩
  show((zeros (l.take l.length):Nat):Int)=_
  rw[List.take_length]
@[reducible] def UA (l:List Int) (k:Nat):aQ:=[(0,aI 1001),(9,aD (l.length:Nat)),(10,aD (k:Nat))]
theorem UB (l:List Int) (aB:l.length≤1000000) (h:Nat) (bM:l[h]? =some 0) (hf: ∀j,j < h→l[j]? ≠some 0):Fn Tryz.prog 136 [aI 1001] (oY l) [] (.c8 [.one (.d (.int .i64 (h:Int))),fO 0]) (oY (l.set h 1)):=by
 have bH:h < l.length:=(List.getElem?_eq_some_iff.1 bM).1
 refine Fn.of aj [] _ _ _ _ _ Tryz.func136 rfl rfl (by kernel_rfl) (by kernel_rfl) rfl (aK aj) rfl ?_
 show aE _ _ _ _ _ _ _
 refine aE.loop aj (aK aj) [] (by kernel_rfl) (X:=Nat) (UA l) (fun _=>oY l) (fun k=>k≤h) (fun k=>l.length - k) 0 (Nat.zero_le _) ?_ ?_
 ·exact ah.sub ⟨rfl,rfl,rfl,trivial⟩ ⟨rfl,rfl,trivial⟩
 intro k au
 refine⟨fun _=>?_,fun aa=>?_⟩
 ·have e8:k < l.length:=by omega
  have bw:(0:Int)≤(k:Int):=by omega
  have bX:(k:Int) < (l.length:Nat):=by omega
  refine⟨⟨bw,bX⟩,l[k],eY (n:=k) e8,?_⟩
  refine⟨fun aC=>?_,fun aC=>?_⟩
  ·have aC:=of_decide_eq_true aC
   have Mz:k=h:=by
    rcases Nat.lt_or_ge k h with aA |aA
    ·exact absurd (by rw[List.getElem?_eq_getElem e8,aC]) (hf k aA)
    ·omega
   subst Mz
   refine⟨⟨bw,bX⟩,⟨trivial,e8⟩,?_⟩
   exact⟨_,_,_,ah.refl _ _,rfl,⟨rfl,rfl,trivial⟩,⟨rfl,rfl,trivial⟩,rfl⟩
  ·have aC:=of_decide_eq_false aC
   have Mz:k≠h:=fun e=>by
    subst e
    rw[List.getElem?_eq_getElem e8] at bM
    exact aC (by injection bM)
   exact⟨by omega,k+1,by omega,by omega,ah.sub ⟨rfl,rfl,rfl,trivial⟩ ⟨rfl,rfl,trivial⟩⟩
 ·exfalso
  have aa:decide ((k:Int) < (l.length:Nat))=false:=aa
  simp at aa
  omega
end Go.Proofs.YteoamepgonpdlaaGreat
namespace Go.Proofs.YteoamepgonpdlaaGreat
set_option linter.unusedVariables false
set_option linter.unusedSimpArgs false
set_option maxRecDepth 10000
open Go.RowKit Go.Proofs
section
variable {P:Program} {tt:c4} {N:Nat} {ids:List Nat} {o:Oper} {K:aQ} {B:aG} {C:Ctx} {ρ:Nat→bn} {F:Nat→Nat→Prop} {w w':World}
theorem Mem.split (h:Mem ids C B ρ F w) {c d:Nat} {cr ko pO:bF} (hc:ax B c=some cr) (hf:gu ids K B d=true) (pl:bn) (cG cY:Nat→Prop) (aa: ∀b,cG b→F c b) (af: ∀b,cY b→F c b) (fZ: ∀b,cG b→ ¬cY b)
  (H1: ∀I,Ext (bS C B F w) w I w→Holds (dx ρ d pl) I cG w (ρ c) ko) (UC: ∀I,Ext (bS C B F w) w I w→Holds (dx ρ d pl) I cY w pl pO):
  Mem ids C ((d,pO)::(c,ko)::B) (dx ρ d pl) (dx (dx F c cG) d cY) w∧Ext (bS C B F w) w (bS C ((d,pO)::(c,ko)::B) (dx (dx F c cG) d cY) w) w:=by
 obtain⟨f1,f2,f3,f4⟩:=kT hf
 have rO:c≠d:=fun e=>by rw[←e,hc] at f2;cases f2
 have rP: ∀j ch,ax ((d,pO)::(c,ko)::B) j=some ch→(j=c∨j=d)→(j=c∧ch=ko)∨(j=d∧ch=pO):=fun j ch ak hm=>by
  rw[cC] at ak
  split at ak
  ·rename_i e;injection ak with ak;exact .inr ⟨e.symm,ak.symm⟩
  ·rename_i e
   rw[cC] at ak
   split at ak
   ·rename_i e;injection ak with ak;exact .inl ⟨e.symm,ak.symm⟩
   ·rename_i aq
    rcases hm with hm |hm
    ·exact absurd hm.symm aq
    ·exact absurd hm.symm e
 have Dv:dx (dx F c cG) d cY c=cG:=by rw[dL _ _ rO,dN]
 have Dw:dx (dx F c cG) d cY d=cY:=by rw[dN]
 refine h.step (fun j=>j=c∨j=d) (fun j=>j=d) (Fr.refl _ _) (fun j ch ak hm=>?_) (fun j ak=>dL _ _ ak) (fun j ak=>?_) (fun j ak e=>f4 (e▸ak)) (fun j ak=>.inr ak) (fun j ch ak _ k au e=>?_) (fun j ch ak hm bA=>?_) (fun j ch ak hm b ag=>?_) (fun j sG ch bg b ak oq hm gL bf ag dm=>?_)
 ·rw[cC,if_neg (fun e=>hm (.inr e.symm)),cC,if_neg (fun e=>hm (.inl e.symm))] at ak
  exact ak
 ·rw[dL _ _ (fun e=>ak (.inr e)),dL _ _ (fun e=>ak (.inl e))]
 ·subst e
  rw[f3 j ch ak] at au
  cases au
 ·rcases rP j ch ak hm with⟨rfl,rfl⟩ |⟨rfl,rfl⟩
  ·rw[Dv,dL _ _ rO];exact H1 _ bA
  ·rw[Dw,dN];exact UC _ bA
 ·have:F c b:=by
   rcases rP j ch ak hm with⟨rfl,rfl⟩ |⟨rfl,rfl⟩
   ·rw[Dv] at ag;exact aa b ag
   ·rw[Dw] at ag;exact af b ag
  exact⟨(h.own c _ hc b this).1,.inl ⟨c,_,hc,.inl rfl,this⟩⟩
 ·rcases rP j ch ak hm with⟨rfl,rfl⟩ |⟨rfl,rfl⟩ <;>rcases rP sG bg oq gL with⟨rfl,rfl⟩ |⟨rfl,rfl⟩
  ·exact bf rfl
  ·rw[Dv] at ag;rw[Dw] at dm;exact fZ b ag dm
  ·rw[Dw] at ag;rw[Dv] at dm;exact fZ b dm ag
  ·exact bf rfl
theorem Mem.join (h:Mem ids C B ρ F w) {c d:Nat} {cr ko ch:bF} (hc:ax B c=some cr) (hd:ax B d=some ko) (bf:c≠d) (G:Nat→Prop) (oo: ∀b,G b→F c b∨F d b) (cv:Fr (fun b=>F c b∨F d b) w w')
  (eo: ∀I,Ext (bS C B F w) w I w'→Holds ρ I G w' (ρ c) ch):
  Mem ids C ((c,ch)::g8 B d) ρ (dx F c G) w'∧Ext (bS C B F w) w (bS C ((c,ch)::g8 B d) (dx F c G) w') w':=by
 have rP: ∀j bg,ax ((c,ch)::g8 B d) j=some bg→(j=c∨j=d)→j=c∧bg=ch:=fun j bg ak hm=>by
  rw[cC] at ak
  split at ak
  ·rename_i e;injection ak with ak;exact⟨e.symm,ak.symm⟩
  ·rename_i e
   rcases hm with hm |hm
   ·exact absurd hm.symm e
   ·rw[hm,jR,if_pos rfl] at ak;cases ak
 refine h.step (fun j=>j=c∨j=d) (fun _=>False) (cv.mono fun b _ ag=>?_) (fun j bg ak hm=>?_) (fun _ _=>rfl) (fun j hm=>dL _ _ (fun e=>hm (.inl e))) (fun _ _ h=>h) (fun _ h=>h.elim) (fun _ _ _ _ _ _ h=>h) (fun j bg ak hm bA=>?_) (fun j bg ak hm b ag=>?_) (fun j sG bp bq b ak oq hm gL hn=>?_)
 ·rcases ag with ag |ag
  ·exact⟨c,_,hc,.inl rfl,ag⟩
  ·exact⟨d,_,hd,.inr rfl,ag⟩
 ·rw[cC,if_neg (fun e=>hm (.inl e.symm)),jR,if_neg (fun e=>hm (.inr e.symm))] at ak
  exact ak
 ·obtain⟨rfl,rfl⟩:=rP j bg ak hm
  rw[dN]
  exact eo _ bA
 ·obtain⟨rfl,rfl⟩:=rP j bg ak hm
  rw[dN] at ag
  rcases oo b ag with ag |ag
  ·exact⟨Nat.lt_of_lt_of_le (h.own j _ hc b ag).1 cv.size,.inl ⟨j,_,hc,.inl rfl,ag⟩⟩
  ·exact⟨Nat.lt_of_lt_of_le (h.own d _ hd b ag).1 cv.size,.inl ⟨d,_,hd,.inr rfl,ag⟩⟩
 ·exact absurd ((rP j bp ak hm).1.trans (rP sG bq oq gL).1.symm) hn
theorem Mem.UD (h:Mem ids C B ρ F w) {c:Nat} {cr ch:bF} (hc:ax B c=some cr) (G:Nat→Prop) (oo: ∀b,G b→F c b) (cv:Fr (F c) w w') (eo: ∀I,Ext (bS C B F w) w I w'→Holds ρ I G w' (ρ c) ch):
  Mem ids C ((c,ch)::B) ρ (dx F c G) w'∧Ext (bS C B F w) w (bS C ((c,ch)::B) (dx F c G) w') w':=by
 have rP: ∀j bg,ax ((c,ch)::B) j=some bg→j=c→bg=ch:=fun j bg ak hm=>by
  rw[cC,if_pos hm.symm] at ak
  injection ak with ak;exact ak.symm
 refine h.step (fun j=>j=c) (fun _=>False) (cv.mono fun b _ ag=>⟨c,_,hc,rfl,ag⟩) (fun j bg ak hm=>?_) (fun _ _=>rfl) (fun j hm=>dL _ _ hm) (fun _ _ h=>h) (fun _ h=>h.elim) (fun _ _ _ _ _ _ h=>h) (fun j bg ak hm bA=>?_) (fun j bg ak hm b ag=>?_) (fun j sG bp bq b ak oq hm gL hn=>absurd (hm.trans gL.symm) hn)
 ·rw[cC,if_neg (fun e=>hm e.symm)] at ak
  exact ak
 ·have e:=rP j bg ak hm
  subst hm e
  rw[dN]
  exact eo _ bA
 ·subst hm
  rw[dN] at ag
  exact⟨Nat.lt_of_lt_of_le (h.own _ _ hc b (oo b ag)).1 cv.size,.inl ⟨_,_,hc,rfl,oo b ag⟩⟩
end
abbrev kI:=Int→Option (List UInt8)
def jf (f:kI) (k:Int) (xs:List UInt8):kI:=fun j=>if j=k then some xs else f j
def Bf (f:kI) (k:Int):kI:=fun j=>if j=k then none else f j
def Hl:kI:=fun _=>none
def sY (I F:Nat→Prop) (w:World) (p:bn) (xs:List UInt8):Prop:=Holds (fun _=>p) I F w p (.row 5 .u8 xs)
theorem sY.congr {I F F':Nat→Prop} {w:World} {p:bn} {xs:List UInt8} (h:sY I F w p xs) (e: ∀b,F' b↔F b):sY I F' w p xs:=
 ⟨fun b=>(e b).trans (h.1 b),h.2⟩
theorem UE {I F:Nat→Prop} {w:World} {p:bn} {xs:List UInt8} (h:sY I F w p xs): ∃x:aJ .dg,p.hdr=qm x:=by
 obtain⟨_,_,cs,⟨_,h⟩,_⟩:=h
 rcases h with⟨h,_⟩ |⟨g,cap,cur,h,_⟩
 ·exact⟨none,h⟩
 ·exact⟨some (g,_,cap),h⟩
structure Dx (hs:Int→Option bn) (f:kI) (es:List (aJ c7×aJ .dg)) (G:Int→Nat→Prop) (I:Nat→Prop) (w:World):Prop where
 sX:nP es
 none_: ∀k:Int,cz (aO:=c7) (aV:=.dg) es k=none→f k=none∧hs k=none∧ ∀b,¬G k b
 some_: ∀(k:Int) h,cz (aO:=c7) (aV:=.dg) es k=some h→hs k=none→ ∃xs p,f k=some xs∧p.hdr=qm h∧sY I (G k) w p xs
 MA: ∀(k:Int) h q,cz (aO:=c7) (aV:=.dg) es k=some h→hs k=some q→q.hdr=qm h∧ ∀b,¬G k b
 e4: ∀(j k:Int) b,j≠k→G j b→ ¬G k b
theorem Dx.cA {hs:Int→Option bn} {f:kI} {es:List (aJ c7×aJ .dg)} {G:Int→Nat→Prop} {I I':Nat→Prop} {w w':World} (h:Dx hs f es G I w) (he:Ext I w I' w') (hF: ∀k b,G k b→w'.heap[b]? =w.heap[b]?) (aS:w.heap.size≤w'.heap.size):Dx hs f es G I' w':=
 ⟨h.sX,h.none_,fun k x aa af=>let⟨xs,p,ct,cB,a3⟩:=h.some_ k x aa af;⟨xs,p,ct,cB,Holds.cA he (fun b ag=>hF k b ag) aS _ (fun _ _=>rfl) a3⟩,h.MA,h.e4⟩
def vr (hs:Int→Option bn) (f:kI) (I F:Nat→Prop) (w:World) (p:bn):Prop:=
 ∃es G,Dx hs f es G I w∧(∀b,F b↔b=p.bO∨ ∃k,G k b)∧(∀k,¬G k p.bO)∧ ∃dM clock,w.heap[p.bO]? =some (.map (List.toArray dM) clock)∧kj I w c7 .dg es dM∧pK dM clock
def MB (hs:Int→Option bn) (f:kI):bK where
 R:=vr hs f
 cA:=fun I F w I' w' p ⟨es,G,aa,af,aA,dM,clock,bE,ec,j5⟩ he hF aS=>
  ⟨es,G,aa.cA he (fun k b ag=>hF b ((af b).2 (.inr ⟨k,ag⟩))) aS,af,aA,dM,clock,(hF _ ((af _).2 (.inl rfl))).trans bE,ec.mono he,j5⟩
def mz (f:kI):bK:=MB (fun _=>none) f
def Dy (k:Int) (q:bn):Int→Option bn:=fun j=>if j=k then some q else none
def vt (f:kI) (k:Int):bn→bK:=fun q=>MB (Dy k q) f
theorem vr.out {f:kI} {k:Int} {xs:List UInt8} {I F:Nat→Prop} {w:World} {p:bn} (hf:f k=some xs) (h:(mz f).R I F w p):
  ∃(cG cY:Nat→Prop) (q:bn) (es:List (aJ c7×aJ .dg)) (x:aJ .dg),(∀b,cG b→F b)∧(∀b,cY b→F b)∧(∀b,cG b→ ¬cY b)∧q.hdr=qm x∧cz (aO:=c7) (aV:=.dg) es k=some x∧(∃dM clock,w.heap[p.bO]? =some (.map (List.toArray dM) clock)∧kj I w c7 .dg es dM)∧sY I cY w q xs∧(vt f k q).R I cG w p:=by
 obtain⟨es,G,aa,af,aA,dM,clock,bE,ec,j5⟩:=h
 cases e:cz (aO:=c7) (aV:=.dg) es k with
 |none=>rw[(aa.none_ k e).1] at hf;cases hf
 |some x=>
  obtain⟨ys,q,ct,cB,a3⟩:=aa.some_ k x e rfl
  rw[hf] at ct
  injection ct with ct
  subst ct
  refine⟨fun b=>b=p.bO∨ ∃j,j≠k∧G j b,G k,q,es,x,fun b ag=>(af b).2 (ag.imp id fun⟨j,_,ak⟩=>⟨j,ak⟩),fun b ag=>(af b).2 (.inr ⟨k,ag⟩),fun b ag au=>?_,cB,e,⟨dM,clock,bE,ec⟩,a3,?_⟩
  ·rcases ag with rfl |⟨j,ak,ag⟩
   ·exact aA k au
   ·exact aa.e4 j k b ak ag au
  ·refine⟨es,fun j b=>j≠k∧G j b,⟨aa.sX,fun j ak=>?_,fun j y ak bM=>?_,fun j y q' ak bM=>?_,fun i j b fD a b=>aa.e4 i j _ fD a.2 b.2⟩,fun b=>Iff.rfl,fun j ak=>aA j ak.2,dM,clock,bE,ec,j5⟩
   ·obtain⟨bQ,_,eT⟩:=aa.none_ j ak
    have:j≠k:=fun e'=>by rw[e',e] at ak;cases ak
    exact⟨bQ,if_neg this,fun b ag=>eT b ag.2⟩
   ·have bf:j≠k:=fun e'=>by rw[show Dy k q j=some q from if_pos e'] at bM;cases bM
    obtain⟨ys,r,bQ,cn,eT⟩:=aa.some_ j y ak rfl
    exact⟨ys,r,bQ,cn,eT.congr fun b=>⟨fun h=>h.2,fun h=>⟨bf,h⟩⟩⟩
   ·simp only[Dy] at bM
    split at bM
    ·rename_i e'
     injection bM with bM
     subst e' bM
     rw[e] at ak
     injection ak with ak
     subst ak
     exact⟨cB,fun b ag=>ag.1 rfl⟩
    ·cases bM
theorem vr.UF {f:kI} {k:Int} {xs:List UInt8} {I cG cY:Nat→Prop} {w:World} {p q:bn} (h:(vt f k q).R I cG w p) (hr:sY I cY w q xs) (hd: ∀b,cG b→ ¬cY b) (au: ∃ys,f k=some ys):(mz (jf f k xs)).R I (fun b=>cG b∨cY b) w p:=by
 obtain⟨es,G,aa,af,aA,dM,clock,bE,ec,j5⟩:=h
 obtain⟨ys,au⟩:=au
 have iz:Dy k q k=some q:=if_pos rfl
 cases e:cz (aO:=c7) (aV:=.dg) es k with
 |none=>rw[(aa.none_ k e).1] at au;cases au
 |some x=>
  obtain⟨ct,cB⟩:=aa.MA k x q e iz
  refine⟨es,fun j b=>if j=k then cY b else G j b,⟨aa.sX,fun j ak=>?_,fun j y ak _=>?_,fun _ _ _ _ bM=>(by cases bM),fun i j b fD ha ag=>?_⟩,fun b=>?_,fun j ak=>?_,dM,clock,bE,ec,j5⟩
  ·have bf:j≠k:=fun e'=>by rw[e',e] at ak;cases ak
   obtain⟨bQ,_,eT⟩:=aa.none_ j ak
   exact⟨by unfold jf;rw[if_neg bf];exact bQ,rfl,fun b ag=>by rw[if_neg bf] at ag;exact eT b ag⟩
  ·by_cases bf:j=k
   ·subst bf
    rw[e] at ak
    injection ak with ak
    subst ak
    exact⟨xs,q,if_pos rfl,ct,hr.congr fun b=>by rw[if_pos rfl]⟩
   ·obtain⟨zs,r,bQ,cn,eT⟩:=aa.some_ j y ak (if_neg bf)
    exact⟨zs,r,(if_neg bf).trans bQ,cn,eT.congr fun b=>by rw[if_neg bf]⟩
  ·by_cases ay:i=k
   ·rw[if_pos ay] at ha
    have ak:j≠k:=fun e'=>fD (ay.trans e'.symm)
    rw[if_neg ak] at ag
    exact hd b ((af b).2 (.inr ⟨j,ag⟩)) ha
   ·rw[if_neg ay] at ha
    by_cases ak:j=k
    ·rw[if_pos ak] at ag
     exact hd b ((af b).2 (.inr ⟨i,ha⟩)) ag
    ·rw[if_neg ak] at ag
     exact aa.e4 i j b fD ha ag
  ·show(cG b∨cY b)↔(b=p.bO∨ ∃j,(if j=k then cY b else G j b))
   rw[af]
   constructor
   ·rintro((h |⟨j,h⟩) |h)
    ·exact .inl h
    ·refine .inr ⟨j,?_⟩
     by_cases ak:j=k
     ·subst ak;exact absurd h (cB b)
     ·rw[if_neg ak];exact h
    ·exact .inr ⟨k,by rw[if_pos rfl];exact h⟩
   ·rintro(h |⟨j,h⟩)
    ·exact .inl (.inl h)
    ·by_cases ak:j=k
     ·rw[if_pos ak] at h;exact .inr h
     ·rw[if_neg ak] at h;exact .inl (.inr ⟨j,h⟩)
  ·replace ak:(if j=k then cY p.bO else G j p.bO):=ak
   by_cases oq:j=k
   ·rw[if_pos oq] at ak
    exact hd _ ((af _).2 (.inl rfl)) ak
   ·rw[if_neg oq] at ak
    exact aA j ak
section
variable {P:Program} {tt:c4} {ids:List Nat} {K:aQ} {B:aG}
theorem Dz {o:Oper} {T kt et:TypeId} {x i:Operand} {c d:Nat} {f:kI} {k:Int} {xs:List UInt8} (av:o.op= .lookup T x i false) (cu:P.underlying T=some (.map kt et)) {dk:TypeDesc} (xq:P.underlying kt=some dk) (qM:nv c7 dk=true) {inf:TypeInfo} (ay:P.info? et=some inf) (aS:inf.zero=some (.slice none 0 0))
  (hx:aU K x= .c (.one (.mp c))) (au:aU K i= .c (.one (.d (.int .i64 k)))) (hc:ax B c=some (.obj (mz f))) (hf:f k=some xs) (N:Nat):bI P N ids o K B (.c (.one (.own d))) ⟨[c],[d],[(c,some (.dep d (vt f k))),(d,some (.row 5 .u8 xs))]⟩:=by
 have bw:x∈o.op.operands:=by rw[av];simp[Op.operands]
 have bX:i∈o.op.operands:=by rw[av];simp[Op.operands]
 rintro K' B' g1 g2 bL C a w ⟨hn,oA,ρ,F,az,hS⟩ bH fl Q hK
 have dw:=(g2 c (by simp)).trans hc
 have cv:=bL d (by simp)
 obtain⟨f1,f2,f3,f4⟩:=kT cv
 have rO:c≠d:=fun e=>by rw[←e,dw] at f2;cases f2
 obtain⟨cG,cY,q,es,y,aa,af,aA,bE,ec,⟨dM,clock,j5,wG⟩,j6,q6⟩:=vr.out hf (az.holds c _ dw)
 have ai:=hS.mp ((g1 x bw).trans hx)
 have aq:a.eval i=iE c7 k:=hS.int ((g1 i bX).trans au)
 have UG:(zeroValue et).run P w= .ok (.slice none 0 0) w:=by simp[zeroValue,typeInfo,ay,aS]
 obtain⟨v,hr,hv⟩:=JZ (P:=P) (aV:=.dg) cu xq qM j5 wG UG ⟨rfl,⟨fun _=>rfl,fun h=>by cases h⟩,rfl⟩ k false
 have tT:v=qm y:=by
  have h:=KE (ρ:=ρ) rfl hv
  rw[ec] at h
  exact h
 have hx:(execOp a.eval o).run P w= .ok (.value v) w:=by simp only[execOp,av,Sem.run_bind,ai,aq,hr,Result.andThen_ok,Sem.run_pure];rfl
 unfold Oper.wp
 rw[hx,Oper.upon_value]
 obtain⟨bT,bA⟩:=az.split (K:=K') (ko:=.dep d (vt f k)) (pO:=.row 5 .u8 xs) dw cv q cG cY aa af aA
  (fun I bC=>by
   show(vt f k (dx ρ d q d)).R I cG w (ρ c)
   rw[dN]
   exact(vt f k q).cA _ _ _ _ _ _ q6 bC (fun _ _=>rfl) (Nat.le_refl _))
  (fun I bC=>Holds.cA bC (fun _ _=>rfl) (Nat.le_refl _) _ (fun _ h=>by cases h) j6)
 refine hK _ _ ⟨lz.trans hn,put_defers.trans oA,_,_,bT,(hS.mono bA fun s e he=>dL _ _ (fun e'=>by subst e';rw[f1 s] at he;cases he)).lB (fun e he=>by rw[hn];exact bH e he) ?_⟩
 show v=(dx ρ d q d).hdr
 rw[dN,tT,bE]
theorem ah.DA (c d:Nat) {f f':kI} {k:Int} {xs:List UInt8} (UH:jf f k xs=f') (hc:ax B c=some (.dep d (vt f k))) (hd:ax B d=some (.row 5 .u8 xs)) (bf:c≠d) (au:(f k).isSome=true):ah ids K B K ((c,.obj (mz f'))::g8 B d):=by
 subst UH
 rintro N C a w ⟨hn,oA,ρ,F,az,hS⟩
 have aa:(vt f k (ρ d)).R (bS C B F w) (F c) w (ρ c):=az.holds c _ hc
 have af:sY (bS C B F w) (F d) w (ρ d) xs:=az.holds d _ hd
 have au: ∃ys,f k=some ys:=by
  cases e:f k with
  |none=>rw[e] at au;cases au
  |some ys=>exact⟨ys,rfl⟩
 obtain⟨bT,bA⟩:=az.join (w':=w) (ch:=.obj (mz (jf f k xs))) hc hd bf (fun b=>F c b∨F d b) (fun _ h=>h) (Fr.refl _ _) fun I bC=>
  (mz (jf f k xs)).cA _ _ _ _ _ _ (vr.UF aa af (fun b ag dm=>az.e4 c d _ _ b hc hd bf ag dm) au) bC (fun _ _=>rfl) (Nat.le_refl _)
 exact⟨hn,oA,ρ,_,bT,hS.mono bA fun _ _ _=>rfl⟩
theorem UI {o:Oper} {T kt et:TypeId} {x i v:Operand} {c d:Nat} {f:kI} {k:Int} {xs:List UInt8} (av:o.op= .mapUpdate T x i v) (cu:P.underlying T=some (.map kt et)) {dk:TypeDesc} (xq:P.underlying kt=some dk) (qM:nv c7 dk=true)
  (hx:aU K x= .c (.one (.mp c))) (au:aU K i= .c (.one (.d (.int .i64 k)))) (hv:aU K v= .c (.one (.own d))) (hc:ax B c=some (.obj (mz f))) (hd:ax B d=some (.row 5 .u8 xs)) (bf:c≠d) (hf:f k=none) (N:Nat):
  bI P N ids o K B .undef ⟨[c,d],[],[(d,none),(c,some (.obj (mz (jf f k xs))))]⟩:=by
 have bw:x∈o.op.operands:=by rw[av];simp[Op.operands]
 have bX:i∈o.op.operands:=by rw[av];simp[Op.operands]
 have fT:v∈o.op.operands:=by rw[av];simp[Op.operands]
 rintro K' B' g1 g2 - C a w ⟨hn,oA,ρ,F,az,hS⟩ bH fl Q hK
 have dw:=(g2 c (by simp)).trans hc
 have dQ:=(g2 d (by simp)).trans hd
 obtain⟨es,G,aa,af,aA,dM,clock,bE,ec,j5⟩:(mz f).R (bS C B' F w) (F c) w (ρ c):=az.holds c _ dw
 have jz:sY (bS C B' F w) (F d) w (ρ d) xs:=az.holds d _ dQ
 obtain⟨y,aF⟩:=UE jz
 have ai:=hS.mp ((g1 x bw).trans hx)
 have aq:a.eval i=iE c7 k:=hS.int ((g1 i bX).trans au)
 have bk:a.eval v=(ρ d).hdr:=hS.ev ((g1 v fT).trans hv)
 have cX:kS (bS C B' F w) w .dg y (a.eval v):=by
  rw[bk,aF]
  have fF:(qm y).cells= #[qm y]:=by
   match y with
   |none=>rfl
   |some (_,_,_)=>rfl
  exact⟨by rw[fF];rfl,⟨fun _=>fF,fun h=>by cases h⟩,by rw[fF];rfl⟩
 obtain⟨iF,nw,hr,gL,tO⟩:=E3 (P:=P) cu xq qM bE ec j5 k cX
 have Bg:=(Array.getElem?_eq_some_iff.1 bE).1
 have fZ: ∀y,F c y→ ¬F d y:=fun y aF eL=>az.e4 c d _ _ y dw dQ bf aF eL
 have Ho:cz (aO:=c7) (aV:=.dg) es k=none:=by
  cases e:cz (aO:=c7) (aV:=.dg) es k with
  |none=>rfl
  |some z=>
   obtain⟨_,_,ct,_⟩:=aa.some_ k z e rfl
   rw[hf] at ct
   cases ct
 obtain⟨dO,cZ⟩:=G9 (aO:=c7) (aV:=.dg) xp k y es
 have xu: ∀z,z≠(ρ c).bO→({w with heap:=w.heap.setIfInBounds (ρ c).bO (.map (List.toArray iF) nw)}:World).heap[z]? =w.heap[z]? :=fun z aS=>Array.getElem?_setIfInBounds_ne (Ne.symm aS)
 have Bh:(execOp a.eval o).run P w= .ok .skip {w with heap:=w.heap.setIfInBounds (ρ c).bO (.map (List.toArray iF) nw)}:=by simp only[execOp,av,Sem.run_bind,ai,aq,hr,Result.andThen_ok,Sem.run_pure]
 unfold Oper.wp
 rw[Bh,Oper.upon_skip]
 obtain⟨bT,bA⟩:=az.join (ch:=.obj (mz (jf f k xs))) (w':={w with heap:=w.heap.setIfInBounds (ρ c).bO (.map (List.toArray iF) nw)}) dw dQ bf (fun b=>F c b∨F d b) (fun _ h=>h) (Au (S:=fun b=>F c b∨F d b) (.inl ((af _).2 (.inl rfl)))) fun I bC=>by
  have sP:=aa.cA bC (fun j b ag=>xu b fun e=>aA j (e▸ag)) (by simp)
  have e6:sY I (F d) {w with heap:=w.heap.setIfInBounds (ρ c).bO (.map (List.toArray iF) nw)} (ρ d) xs:=Holds.cA bC (fun b ag=>xu b fun e=>fZ b (e▸(af _).2 (.inl rfl)) ag) (by simp) _ (fun _ h=>by cases h) jz
  refine⟨gI (aO:=c7) (aV:=.dg) es k y,fun j b=>if j=k then F d b else G j b,⟨nP.put xp aa.sX,fun j ak=>?_,fun j z ak _=>?_,fun _ _ _ _ bM=>(by cases bM),fun i j b fD ha ag=>?_⟩,fun b=>?_,fun j ak=>?_,iF,nw,by simp[Bg],gL.mono bC,tO⟩
  ·have lK:j≠k:=fun e=>by rw[e,dO] at ak;cases ak
   rw[cZ j lK] at ak
   obtain⟨bQ,_,eT⟩:=sP.none_ j ak
   exact⟨by unfold jf;rw[if_neg lK];exact bQ,rfl,fun b ag=>by rw[if_neg lK] at ag;exact eT b ag⟩
  ·by_cases lK:j=k
   ·subst lK
    rw[dO] at ak
    injection ak with ak
    subst ak
    exact⟨xs,ρ d,if_pos rfl,aF,e6.congr fun b=>by rw[if_pos rfl]⟩
   ·rw[cZ j lK] at ak
    obtain⟨zs,r,bQ,cn,eT⟩:=sP.some_ j z ak rfl
    exact⟨zs,r,(if_neg lK).trans bQ,cn,eT.congr fun b=>by rw[if_neg lK]⟩
  ·by_cases ay:i=k
   ·rw[if_pos ay] at ha
    have ak:j≠k:=fun e'=>fD (ay.trans e'.symm)
    rw[if_neg ak] at ag
    exact fZ b ((af b).2 (.inr ⟨j,ag⟩)) ha
   ·rw[if_neg ay] at ha
    by_cases ak:j=k
    ·rw[if_pos ak] at ag
     exact fZ b ((af b).2 (.inr ⟨i,ha⟩)) ag
    ·rw[if_neg ak] at ag
     exact aa.e4 i j b fD ha ag
  ·show(F c b∨F d b)↔(b=(ρ c).bO∨ ∃j,(if j=k then F d b else G j b))
   rw[af]
   have UJ:=(aa.none_ k Ho).2.2
   constructor
   ·rintro((h |⟨j,h⟩) |h)
    ·exact .inl h
    ·refine .inr ⟨j,?_⟩
     have ak:j≠k:=fun e=>UJ b (e▸h)
     rw[if_neg ak];exact h
    ·exact .inr ⟨k,by rw[if_pos rfl];exact h⟩
   ·rintro(h |⟨j,h⟩)
    ·exact .inl (.inl h)
    ·by_cases ak:j=k
     ·rw[if_pos ak] at h;exact .inr h
     ·rw[if_neg ak] at h;exact .inl (.inr ⟨j,h⟩)
  ·replace ak:(if j=k then F d (ρ c).bO else G j (ρ c).bO):=ak
   by_cases oq:j=k
   ·rw[if_pos oq] at ak
    exact fZ _ ((af _).2 (.inl rfl)) ak
   ·rw[if_neg oq] at ak
    exact aA j ak
 exact hK _ _ ⟨lz.trans hn,put_defers.trans oA,ρ,_,bT,(hS.mono bA fun _ _ _=>rfl).lB (fun e he=>by rw[hn];exact bH e he) rfl⟩
theorem UK {o:Oper} {T eG kt et:TypeId} {x i:Operand} {c:Nat} {f:kI} {k:Int} (av:o.op= .call {callee:=.builtin .delete,args:= #[x,i],argTypes:= #[T,eG]}) (cu:P.underlying T=some (.map kt et)) {dk:TypeDesc} (xq:P.underlying kt=some dk) (qM:nv c7 dk=true)
  (hx:aU K x= .c (.one (.mp c))) (au:aU K i= .c (.one (.d (.int .i64 k)))) (hc:ax B c=some (.obj (mz f))) (N:Nat):
  bI P N ids o K B (.c8 []) ⟨[c],[],[(c,some (.obj (mz (Bf f k))))]⟩:=by
 have bw:x∈o.op.operands:=by rw[av];simp[Op.operands,Call.operands]
 have bX:i∈o.op.operands:=by rw[av];simp[Op.operands,Call.operands]
 rintro K' B' g1 g2 - C a w ⟨hn,oA,ρ,F,az,hS⟩ bH fl Q hK
 have dw:=(g2 c (by simp)).trans hc
 obtain⟨es,G,aa,af,aA,dM,clock,bE,ec,j5⟩:(mz f).R (bS C B' F w) (F c) w (ρ c):=az.holds c _ dw
 have ai:=hS.mp ((g1 x bw).trans hx)
 have aq:a.eval i=iE c7 k:=hS.int ((g1 i bX).trans au)
 obtain⟨iF,hr,gL,tO⟩:=J4 (P:=P) (ty:=o.type) cu xq qM bE ec j5 k eG
 have Bg:=(Array.getElem?_eq_some_iff.1 bE).1
 obtain⟨dO,cZ⟩:=He (aO:=c7) (aV:=.dg) xp k es aa.sX
 have xu: ∀z,z≠(ρ c).bO→({w with heap:=w.heap.setIfInBounds (ρ c).bO (.map (List.toArray iF) clock)}:World).heap[z]? =w.heap[z]? :=fun z aS=>Array.getElem?_setIfInBounds_ne (Ne.symm aS)
 have Bh:(execOp a.eval o).run P w= .ok (.value (.tuple #[])) {w with heap:=w.heap.setIfInBounds (ρ c).bO (.map (List.toArray iF) clock)}:=by simp[execOp,av,resolve,invoke,builtin,ai,aq,hr]
 unfold Oper.wp
 rw[Bh,Oper.upon_value]
 obtain⟨bT,bA⟩:=az.UD (ch:=.obj (mz (Bf f k))) (w':={w with heap:=w.heap.setIfInBounds (ρ c).bO (.map (List.toArray iF) clock)}) dw (fun b=>b=(ρ c).bO∨ ∃j,j≠k∧G j b) (fun b ag=>(af b).2 (ag.imp id fun⟨j,_,h⟩=>⟨j,h⟩)) (Au (S:=F c) ((af _).2 (.inl rfl))) fun I bC=>by
  have sP:=aa.cA bC (fun j b ag=>xu b fun e=>aA j (e▸ag)) (by simp)
  refine⟨jT (aO:=c7) (aV:=.dg) es k,fun j b=>j≠k∧G j b,⟨nP.del aa.sX,fun j ak=>?_,fun j z ak _=>?_,fun _ _ _ _ bM=>(by cases bM),fun i j b fD ha ag=>aa.e4 i j b fD ha.2 ag.2⟩,fun b=>Iff.rfl,fun j ak=>aA j ak.2,iF,clock,by simp[Bg],gL.mono bC,tO⟩
  ·by_cases lK:j=k
   ·exact⟨if_pos lK,rfl,fun b ag=>ag.1 lK⟩
   ·rw[cZ j lK] at ak
    obtain⟨bQ,_,eT⟩:=sP.none_ j ak
    exact⟨(if_neg lK).trans bQ,rfl,fun b ag=>eT b ag.2⟩
  ·have lK:j≠k:=fun e=>by rw[e,dO] at ak;cases ak
   rw[cZ j lK] at ak
   obtain⟨zs,r,bQ,cn,eT⟩:=sP.some_ j z ak rfl
   exact⟨zs,r,(if_neg lK).trans bQ,cn,eT.congr fun b=>⟨fun h=>h.2,fun h=>⟨lK,h⟩⟩⟩
 exact hK _ _ ⟨lz.trans hn,put_defers.trans oA,ρ,_,bT,(hS.mono bA fun _ _ _=>rfl).lB (fun e he=>by rw[hn];exact bH e he) ⟨[],rfl,rfl⟩⟩
theorem ah.MC (c:Nat) {aV:U} (hc:ax B c=some (.map c7 aV [])):ah ids K B K ((c,.obj (mz Hl))::B):=by
 rintro N C a w ⟨hn,hd,ρ,F,az,hS⟩
 obtain⟨hF,dM,clock,aA,bE,j5⟩:=az.holds c _ hc
 have bE:dM=[]:=bE
 subst bE
 obtain⟨bT,bA⟩:=az.jV (w':=w) (ch:=.obj (mz Hl)) hc (Fr.refl _ _) fun I bC=>⟨[],fun _ _=>False,⟨.nil,fun _ _=>⟨rfl,rfl,fun _ h=>h⟩,fun _ _ h=>(by cases h),fun _ _ _ h=>(by cases h),fun _ _ _ _ h=>h.elim⟩,fun b=>by rw[hF];simp,fun _ h=>h,[],clock,aA,rfl,j5⟩
 exact⟨hn,hd,ρ,F,bT,hS.mono bA fun _ _ _=>rfl⟩
end
end Go.Proofs.YteoamepgonpdlaaGreat
namespace Go.Proofs.YteoamepgonpdlaaGreat
set_option linter.unusedVariables false
set_option linter.unusedSimpArgs false
open Go.RowKit
def y6 (l:List Nat):aG→Bool
 | []=>true
 |(c,ch)::B=> !l.contains c&&(l.all fun d=> !ch.has d)&&y6 l B
theorem DB {l:List Nat}: ∀{B:aG},y6 l B=true→ ∀{c ch},ax B c=some ch→c∉l∧ ∀d,d∈l→ch.has d=false
 | [],_,c,ch,hc=>by cases hc
 |(e,x)::B,h,c,ch,hc=>by
  simp only[y6,Bool.and_eq_true,Bool.not_eq_true'] at h
  obtain⟨⟨aa,af⟩,aA⟩:=h
  rw[cC] at hc
  split at hc
  ·rename_i e
   injection hc with hc
   subst e hc
   refine⟨fun hm=>(by rw[List.contains_iff_mem.2 hm] at aa;cases aa),fun d hd=>?_⟩
   have:=List.all_eq_true.1 af d hd
   simpa using this
  ·exact DB aA hc
theorem Fn.more {P:Program} {f:FuncId} {args:List aN} {aP:aG} {bu:List Nat} {res:aN} {aZ:aG} (oZ:aG) (h:Fn P f args aP bu res aZ) (aa:((cS oZ).all fun d=> !(cS aP).contains d&& !(cS aZ).contains d)=true) (af:y6 bu oZ=true):
  Fn P f args (aP++oZ) bu res (aZ++oZ):=by
 have cE: ∀{c ch},ax oZ c=some ch→ax aP c=none∧ax aZ c=none:=fun {c ch} hc=>by
  have:=List.all_eq_true.1 aa c (gi.2 ⟨ch,hc⟩)
  simp only[Bool.and_eq_true,Bool.not_eq_true'] at this
  constructor
  ·cases e:ax aP c with
   |none=>rfl
   |some x=>rw[List.contains_iff_mem.2 (gi.2 ⟨x,e⟩)] at this;cases this.1
  ·cases e:ax aZ c with
   |none=>rfl
   |some x=>rw[List.contains_iff_mem.2 (gi.2 ⟨x,e⟩)] at this;cases this.2
 have vu: ∀{c ch},ax aP c=some ch→ax (aP++oZ) c=some ch:=fun {c ch} hc=>by rw[mj,hc]
 have uo: ∀{c ch},ax oZ c=some ch→ax (aP++oZ) c=some ch:=fun {c ch} hc=>by rw[mj,(cE hc).1];exact hc
 have un: ∀{c ch},ax (aZ++oZ) c=some ch→ax aZ c=some ch∨ax oZ c=some ch:=fun {c ch} hc=>by
  rw[mj] at hc
  cases e:ax aZ c with
  |none=>rw[e] at hc;exact .inr hc
  |some x=>rw[e] at hc;exact .inl hc
 refine⟨h.1,fun ρ F I w b6 ct cB a3 a4 a5 gT=>?_⟩
 refine(h.2 ρ F I w b6 ct (fun c ch hc=>cB c ch (vu hc)) (fun c ch hc=>a3 c ch (vu hc)) (fun c bY ch bg b hc dw=>a4 c bY ch bg b (vu hc) (vu dw)) a5 gT).mono ?_
 rintro e w' ⟨x,ρ',F',r1,r2,gv,I',mm,mZ,nM,mo,nN,oT⟩
 let cY:Nat→Nat→Prop:=fun c=>if(ax oZ c).isSome=true then F c else F' c
 have f1: ∀{c ch},ax oZ c=some ch→cY c=F c:=fun {c ch} hc=>if_pos (by rw[hc];rfl)
 have f2: ∀{c ch},ax aZ c=some ch→cY c=F' c:=fun {c ch} hc=>if_neg (fun hs=>by
  cases e:ax oZ c with
  |none=>rw[e] at hs;cases hs
  |some x=>rw[(cE e).2] at hc;cases hc)
 have DC: ∀{c ch} {b:Nat},ax oZ c=some ch→F c b→ ¬ ∃d bg,ax aP d=some bg∧F d b:=fun {c ch b} hc ag=>by
  rintro⟨d,bg,hd,dm⟩
  refine a4 c d ch bg b (uo hc) (vu hd) (fun e=>?_) ag dm
  subst e
  rw[(cE hc).1] at hd
  cases hd
 refine⟨x,ρ',cY,r1,r2.mono fun b _ ⟨c,ch,hc,ag⟩=>⟨c,ch,vu hc,ag⟩,gv,I',mm,fun b ag=>⟨(mZ b ag).1,(mZ b ag).2.imp id (Or.imp (fun⟨c,ch,hc,ag⟩=>⟨c,ch,vu hc,ag⟩) id)⟩,fun c ch hc=>?_,fun c ch hc b ag=>?_,fun c bY ch bg b hc dw bf ag dm=>?_,oT⟩
 ·rcases un hc with hc |hc
  ·rw[f2 hc];exact nM c ch hc
  ·rw[f1 hc]
   obtain⟨g1,g2⟩:=DB af hc
   rw[gv c g1]
   exact Holds.cA mm (fun b ag=>r2.block b (a3 c ch (uo hc) b ag).1 (DC hc ag)) r2.size ch (fun d hd=>gv d fun hm=>by rw[g2 d hm] at hd;cases hd) (cB c ch (uo hc))
 ·rcases un hc with hc |hc
  ·rw[f2 hc] at ag
   obtain⟨g1,g2,bL⟩:=mo c ch hc b ag
   exact⟨g1,g2,bL.imp (fun⟨d,bg,hd,ag⟩=>⟨d,bg,vu hd,ag⟩) id⟩
  ·rw[f1 hc] at ag
   obtain⟨g1,g2⟩:=a3 c ch (uo hc) b ag
   refine⟨Nat.lt_of_lt_of_le g1 r2.size,fun bC=>?_,.inl ⟨c,ch,uo hc,ag⟩⟩
   rcases(mZ b bC).2 with h |h |h
   ·exact g2 h
   ·exact DC hc ag h
   ·omega
 ·rcases un hc with hc |hc <;>rcases un dw with dw |dw
  ·rw[f2 hc] at ag;rw[f2 dw] at dm;exact nN c bY ch bg b hc dw bf ag dm
  ·rw[f2 hc] at ag;rw[f1 dw] at dm
   rcases(mo c ch hc b ag).2.2 with h |h
   ·exact DC dw dm h
   ·have:=(a3 bY bg (uo dw) b dm).1;omega
  ·rw[f1 hc] at ag;rw[f2 dw] at dm
   rcases(mo bY bg dw b dm).2.2 with h |h
   ·exact DC hc ag h
   ·have:=(a3 c ch (uo hc) b ag).1;omega
  ·rw[f1 hc] at ag;rw[f1 dw] at dm;exact a4 c bY ch bg b (uo hc) (uo dw) bf ag dm
theorem Fn.dV {P:Program} {f:FuncId} {args:List aN} {aP:aG} {bu:List Nat} {d:Nat} {e:TypeId} {u:U} {xs:List (aJ u)} {aZ:aG} (h:Fn P f args aP (d::bu) (.c (.one (.own d))) (aZ++[(d,.row e u xs)])) (aa:(cS aZ).contains d=false) (af:y6 [d] aZ=true):
  Fn P f args aP bu (.c (.one (.d (.cW u xs)))) aZ:=by
 have cE:ax aZ d=none:=by
  cases e:ax aZ d with
  |none=>rfl
  |some x=>rw[List.contains_iff_mem.2 (gi.2 ⟨x,e⟩)] at aa;cases aa
 have qN:ax (aZ++[(d,bF.row e u xs)]) d=some (.row e u xs):=by rw[mj,cE];simp[ax]
 have kJ: ∀{c ch},ax aZ c=some ch→ax (aZ++[(d,bF.row e u xs)]) c=some ch:=fun {c ch} hc=>by rw[mj,hc]
 have bf: ∀{c ch},ax aZ c=some ch→c≠d:=fun {c ch} hc e=>by rw[e,cE] at hc;cases hc
 refine⟨h.1,fun ρ F I w b6 ct cB a3 a4 a5 gT=>?_⟩
 refine(h.2 ρ F I w b6 ct cB a3 a4 a5 gT).mono ?_
 rintro ex w' ⟨x,ρ',F',r1,r2,gv,I',mm,mZ,nM,mo,nN,oT⟩
 have jz:=nM d _ qN
 have yL: ∀b,I' b→(fun b=>I' b∨F' d b) b:=fun b ag=>.inl ag
 have bA:Ext I' w' (fun b=>I' b∨F' d b) w':=fun b ag=>⟨.inl ag,rfl⟩
 have ep:Den (fun b=>I' b∨F' d b) w' (.cW u xs) (ρ' d).hdr:=Al jz yL (fun b ag=>.inr ag)
 refine⟨x,dx ρ' d (ρ d),F',r1,r2,fun c hc=>?_,fun b=>I' b∨F' d b,fun b ag=>⟨.inl (mm b ag).1,(mm b ag).2⟩,fun b ag=>?_,fun c ch hc=>?_,fun c ch hc b ag=>?_,fun c bY ch bg b hc dw=>nN c bY ch bg b (kJ hc) (kJ dw),?_⟩
 ·by_cases e:c=d
  ·rw[e,dN]
  ·rw[dL _ _ e];exact gv c (fun hm=>by rcases List.mem_cons.1 hm with h |h;exact e h;exact hc h)
 ·rcases ag with ag |ag
  ·exact mZ b ag
  ·obtain⟨g1,g2,bL⟩:=mo d _ qN b ag
   exact⟨g1,.inr bL⟩
 ·have rO:=bf hc
  obtain⟨_,g2⟩:=DB af hc
  rw[dL _ _ rO]
  exact Holds.cA bA (fun _ _=>rfl) (Nat.le_refl _) ch (fun j ak=>dL _ _ fun e=>by rw[e,g2 d (List.mem_singleton.2 rfl)] at ak;cases ak) (nM c ch (kJ hc))
 ·obtain⟨g1,g2,bL⟩:=mo c ch (kJ hc) b ag
  refine⟨g1,fun bC=>?_,bL⟩
  rcases bC with bC |bC
  ·exact g2 bC
  ·exact nN c d ch _ b (kJ hc) qN (bf hc) ag bC
 ·have hx:x=(ρ' d).hdr:=oT
  rw[hx]
  exact ep
theorem Fn.MD {P:Program} {f:FuncId} {args:List aN} {aP:aG} {bu:List Nat} {d:Nat} {e:TypeId} {u:U} {xs:List (aJ u)} {res:aN} {aZ:aG} (h:Fn P f args aP (d::bu) res (aZ++[(d,.row e u xs)])) (aa:(cS aZ).contains d=false) (af:y6 [d] aZ=true) (aA:(res.dV d (.cW u xs)).has d=false):
  Fn P f args aP bu (res.dV d (.cW u xs)) aZ:=by
 have cE:ax aZ d=none:=by
  cases e:ax aZ d with
  |none=>rfl
  |some x=>rw[List.contains_iff_mem.2 (gi.2 ⟨x,e⟩)] at aa;cases aa
 have qN:ax (aZ++[(d,bF.row e u xs)]) d=some (.row e u xs):=by rw[mj,cE];simp[ax]
 have kJ: ∀{c ch},ax aZ c=some ch→ax (aZ++[(d,bF.row e u xs)]) c=some ch:=fun {c ch} hc=>by rw[mj,hc]
 have bf: ∀{c ch},ax aZ c=some ch→c≠d:=fun {c ch} hc e=>by rw[e,cE] at hc;cases hc
 refine⟨h.1,fun ρ F I w b6 ct cB a3 a4 a5 gT=>?_⟩
 refine(h.2 ρ F I w b6 ct cB a3 a4 a5 gT).mono ?_
 rintro ex w' ⟨x,ρ',F',r1,r2,gv,I',mm,mZ,nM,mo,nN,oT⟩
 have jz:=nM d _ qN
 have yL: ∀b,I' b→(fun b=>I' b∨F' d b) b:=fun b ag=>.inl ag
 have bA:Ext I' w' (fun b=>I' b∨F' d b) w':=fun b ag=>⟨.inl ag,rfl⟩
 have ep:Den (fun b=>I' b∨F' d b) w' (.cW u xs) (ρ' d).hdr:=Al jz yL (fun b ag=>.inr ag)
 refine⟨x,dx ρ' d (ρ d),F',r1,r2,fun c hc=>?_,fun b=>I' b∨F' d b,fun b ag=>⟨.inl (mm b ag).1,(mm b ag).2⟩,fun b ag=>?_,fun c ch hc=>?_,fun c ch hc b ag=>?_,fun c bY ch bg b hc dw=>nN c bY ch bg b (kJ hc) (kJ dw),?_⟩
 ·by_cases e:c=d
  ·rw[e,dN]
  ·rw[dL _ _ e];exact gv c (fun hm=>by rcases List.mem_cons.1 hm with h |h;exact e h;exact hc h)
 ·rcases ag with ag |ag
  ·exact mZ b ag
  ·obtain⟨g1,g2,bL⟩:=mo d _ qN b ag
   exact⟨g1,.inr bL⟩
 ·have rO:=bf hc
  obtain⟨_,g2⟩:=DB af hc
  rw[dL _ _ rO]
  exact Holds.cA bA (fun _ _=>rfl) (Nat.le_refl _) ch (fun j ak=>dL _ _ fun e=>by rw[e,g2 d (List.mem_singleton.2 rfl)] at ak;cases ak) (nM c ch (kJ hc))
 ·obtain⟨g1,g2,bL⟩:=mo c ch (kJ hc) b ag
  refine⟨g1,fun bC=>?_,bL⟩
  rcases bC with bC |bC
  ·exact g2 bC
  ·exact nN c d ch _ b (kJ hc) qN (bf hc) ag bC
 ·have hv:cj ρ' (fun b=>I' b∨F' d b) w' (res.dV d (.cW u xs)) x:=cj.dV bA ep res x oT
  exact cj.mono (Ext.refl _ _) _ _ (fun c hc=>dL _ _ fun e=>by subst e;rw[aA] at hc;cases hc) hv
theorem Fn.own {P:Program} {f:FuncId} {args:List aN} {aP:aG} {bu:List Nat} {d:Nat} {e:TypeId} {u:U} {xs:List (aJ u)} {res:aN} {aZ:aG} (h:Fn P f (args.map (aN.dV d (.cW u xs))) aP bu res aZ) (aa:(cS aP).contains d=false):
  Fn P f args (aP++[(d,.row e u xs)]) bu res aZ:=by
 have cE:ax aP d=none:=by
  cases e:ax aP d with
  |none=>rfl
  |some x=>rw[List.contains_iff_mem.2 (gi.2 ⟨x,e⟩)] at aa;cases aa
 have qN:ax (aP++[(d,bF.row e u xs)]) d=some (.row e u xs):=by rw[mj,cE];simp[ax]
 have kJ: ∀{c ch},ax aP c=some ch→ax (aP++[(d,bF.row e u xs)]) c=some ch:=fun {c ch} hc=>by rw[mj,hc]
 have bf: ∀{c ch},ax aP c=some ch→c≠d:=fun {c ch} hc e=>by rw[e,cE] at hc;cases hc
 refine⟨h.1,fun ρ F I w b6 ct cB a3 a4 a5 gT=>?_⟩
 have jz:=cB d _ qN
 have bA:Ext I w (fun b=>I b∨F d b) w:=fun b ag=>⟨.inl ag,rfl⟩
 have ep:Den (fun b=>I b∨F d b) w (.cW u xs) (ρ d).hdr:=Al jz (fun b ag=>.inl ag) (fun b ag=>.inr ag)
 refine(h.2 ρ F (fun b=>I b∨F d b) w b6 (fun b ag=>ag.elim (ct b) fun ag=>(a3 d _ qN b ag).1) (fun c ch hc=>Holds.cA bA (fun _ _=>rfl) (Nat.le_refl _) ch (fun _ _=>rfl) (cB c ch (kJ hc)))
  (fun c ch hc b ag=>⟨(a3 c ch (kJ hc) b ag).1,fun bC=>bC.elim (a3 c ch (kJ hc) b ag).2 fun hd=>a4 c d ch _ b (kJ hc) qN (bf hc) ag hd⟩) (fun c bY ch bg b hc dw=>a4 c bY ch bg b (kJ hc) (kJ dw)) (by rw[List.length_map];exact a5) (fun i v x hv hx=>?_)).mono ?_
 ·rw[List.getElem?_map] at hv
  obtain⟨s,hs,rfl⟩:=Option.map_eq_some_iff.1 hv
  exact cj.dV bA ep s x (gT i s x hs hx)
 ·rintro ex w' ⟨x,ρ',F',r1,r2,gv,I',mm,mZ,nM,mo,nN,oT⟩
  refine⟨x,ρ',F',r1,r2.mono fun b _ ⟨c,ch,hc,ag⟩=>⟨c,ch,kJ hc,ag⟩,gv,I',fun b ag=>mm b (.inl ag),fun b ag=>⟨(mZ b ag).1,?_⟩,nM,fun c ch hc b ag=>?_,nN,oT⟩
  ·rcases(mZ b ag).2 with h |⟨c,ch,hc,ag⟩ |h
   ·exact h.elim .inl fun h=>.inr (.inl ⟨d,_,qN,h⟩)
   ·exact .inr (.inl ⟨c,ch,kJ hc,ag⟩)
   ·exact .inr (.inr h)
  ·obtain⟨g1,g2,bL⟩:=mo c ch hc b ag
   exact⟨g1,g2,bL.imp (fun⟨c,ch,hc,ag⟩=>⟨c,ch,kJ hc,ag⟩) id⟩
end Go.Proofs.YteoamepgonpdlaaGreat
