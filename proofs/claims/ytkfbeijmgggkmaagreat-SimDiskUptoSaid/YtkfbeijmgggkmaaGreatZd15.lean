/-
A part of the proof of this claim: lemmas, with no condition beyond what each says.
-/
import Derived.Test.YtkfbeijmgggkmaaGreatZd14
set_option linter.unusedVariables false
set_option linter.unusedSimpArgs false
set_option maxRecDepth 10000
set_option maxHeartbeats 4000000
namespace Go.Proofs.YtkfbeijmgggkmaaGreat
open Go.RowKit Go.Proofs
section
section
variable {P:Program} {N:Nat} {ids:aC4} {K:aY} {B:az} {o:Oper}
abbrev yw (f b:Nat):aP:=.c (.one (.bJ (.func (.func f) #[.pointer (some ⟨b,0,none⟩)] #[])))
theorem jQ {f:FuncId} {x:Operand} {d m b:Nat} (ah:o.op= .makeFunc (.func f) #[x] #[]) (hx:a2 K x= .c (.one (.ptr d 0))) (aA:ag B m=some (.b5 d (fc b))) (N:Nat):bA P N ids o K B (yw f b) ⟨[m],[],[]⟩:=by
 have m1:x∈o.op.operands:=az1
 refine bA.val fun K' B' g1 g2 C ρ F a w aj ar=>?_
 have ae:=ar.ptr ((g1 x m1).trans hx);have ao:=pF (N:=N) (a:=a) aj ((g2 m ay6).trans aA);rw[ao] at ae;refine⟨.func (.func f) #[.pointer (some ⟨b,0,none⟩)] #[],?_,rfl⟩;simp[execOp,ah,Instr.makeFunc,ae]
theorem ah6 {f:FuncId} {c:Call} {t b:Nat} {xs:List Operand} {aJ:az} {res:aP} {aO:az} (ah:o.op= .call c) (E:c.callee= .value (.tmp t)) (G:c.args.toList=xs) (ak:dI K t=yw f b) (hf:Fn P f (.c (.one (.d (.aM (some b))))::xs.map (a2 K)) aJ [] res aO) (hZ:k2 B aJ) (bv:mF aJ [] aO=true) (N:Nat):
  bA P N ids o K B res ⟨cr aJ,[],iI aJ aO⟩:=by
 have mem: ∀aB∈xs,aB∈o.op.operands:=fun aB aN=>by
  rw[ah];simp only[Op.operands,Call.operands,Array.mem_append];exact .inr (Array.mem_toList_iff.1 (by rw[G];exact aN))
 have xC:Operand.tmp t∈o.op.operands:=by
  rw[ah];simp only[Op.operands,Call.operands,Array.mem_append,E];exact .inl ay6
 obtain⟨v,e,⟨rfl,rfl⟩,ap,_⟩:cH P N ids o K B (fun v e=>v=res/\e=⟨cr aJ,[],iI aJ aO⟩):=BX (args:=.c (.one (.d (.aM (some b))))::xs.map (a2 K)) mem (fun K' ρ I a w g1 ar=>by
  have ay:=ar t;have aa:dI K' t=dI K t:=g1 (.tmp t) xC;rw[aa,ak] at ay;have e:a.tmps.getD t undef= .func (.func f) #[.pointer (some ⟨b,0,none⟩)] #[]:=ay;refine⟨.pointer (some ⟨b,0,none⟩)::xs.map a.eval,fun fT=>Q9 fT ah E G e,ay6,fun i v x ay hx=>?_⟩
  match i with
  |0=>
   simp only[ar3,aq4] at ay hx;subst ay hx;exact rfl
  |i+1=>exact zy mem g1 ar i v x aA6 aB9) ⟨aJ,[],res,aO,hf,hZ,by rw[bv];rfl,by rw[sd];exact⟨rfl,rfl⟩⟩
 exact ap
end
abbrev DB (p:Nat×aC3):Z al×Z jP:=@Prod.mk Int aC3 (p.1:Int) p.2
abbrev kw (g:List (Nat×aC3)):List (Z al×Z jP):=g.map DB
theorem T3 (g:List (Nat×aC3)):(kw g).length=g.length:=ar1 _
theorem ah7 {l:List (Z al×Z jP)} {p:Z al×Z jP} {k:Int} {x:aC3} (h:f0 al k p.1=false):dx (aI:=al) (aK:=jP) (p::l) k x=p::dx (aI:=al) (aK:=jP) l k x:=by
 simp only[dx,h]
theorem T4 (k:Nat) (x:aC3): ∀g:List (Nat×aC3),k∉g.map Prod.fst->dx (aI:=al) (aK:=jP) (kw g) (k:Int) x=kw (g++[(k,x)])
 | [],_=>rfl
 |p::g,h=>by
  rw[ar4,aq5,not_or] at h;refine(ah7 (p:=DB p) (l:=kw g) ((Dp k p.1).trans (at0 h.1))).trans ?_;rw[T4 k x g h.2];rfl
abbrev DC (nm:aC3) (bi n rm:Int) (over done:Bool):List bB:=[.ptr 1001 0,.d (.str nm),.d (.int .i64 bi),.d (.int .i64 n),.d (.int .i64 rm),.mp 2002,.mp 2003,.d (.bool over),.d (.bool done)]
abbrev iA (z R:Int) (L:List aL) (nm:aC3) (n rm:Int) (l:aC4) (g:List (Nat×aC3)) (over done:Bool):az:=bO z R L++[(2001,.cells (DC nm z n rm over done)),(2002,.map al al (f2 l)),(2003,.map al jP (kw g))]
section
variable {z R:Nat} {L:List aL} {nm:aC3}
theorem ah8 (z R:Int) (L:List aL) (nm:aC3) (n rm:Int) (l:aC4) (g:List (Nat×aC3)) (over done:Bool):Fn Tryz.prog 296 [aq 2001] (iA z R L nm n rm l g over done) [] (fI over) (iA z R L nm n rm l g over done):=by
 refine aU [] Tryz.func296 ?_;exact bg
theorem ah9 (z R:Int) (L:List aL) (nm:aC3) (n rm:Int) (l:aC4) (g:List (Nat×aC3)) (over done:Bool):Fn Tryz.prog 78 [aq 2001] (iA z R L nm n rm l g over done) [] (fI done) (iA z R L nm n rm l g over done):=by
 refine aU [] Tryz.func78 ?_;exact bg
theorem T5 (z R:Int) (L:List aL) (nm:aC3) (n rm:Int) (l:aC4) (g:List (Nat×aC3)) (over done:Bool):Fn Tryz.prog 198 [aq 2001] (iA z R L nm n rm l g over done) [] gO (iA z R L nm n rm [] g true done):=by
 refine aU [] Tryz.func198 ?_;refine⟨_,_,fun N=>TM rfl Tryz.underlying159 rfl rfl N,rfl,?_⟩;exact⟨_,_,_,ac.sJ 2001 (l':=DC nm z n rm true done) rfl aC,rfl,trivial,aC,rfl⟩
structure ah' where
 e:Int
 l:aC4
 g:List (Nat×aC3)
 over:Bool
def ez (z:Nat) (L:List aL) (nm:aC3) (rm:Int) (l:aC4) (g:List (Nat×aC3)) (k:Nat):ah':=if rm<=((g.length:Nat):Int) then⟨171,[],g,true⟩ else⟨0,l.erase k,g++[(k,gy z L nm (k:Int))],false⟩
theorem aia (h:cb z R L) (nm:aC3) (n rm:Int) (l:aC4) (g:List (Nat×aC3)) (done:Bool) (k:Nat) (aa:k∉g.map Prod.fst):Fn Tryz.prog 153 [aq 2001,ab (k:Int)] (iA z R L nm n rm l g false done) [] (ab (ez z L nm rm l g k).e) (iA z R L nm n rm (ez z L nm rm l g k).l (ez z L nm rm l g k).g (ez z L nm rm l g k).over done):=by
 have dH:=L1 h nm (k:Int);have bV:=T3 g;have rI:=T4 k (gy z L nm (k:Int)) g aa;have dm:=Mr k l
 by_cases c:rm<=((g.length:Nat):Int)
 .have e:ez z L nm rm l g k=⟨171,[],g,true⟩:=if_pos c;rw[e];refine aU [2] Tryz.func153 ?_;refine⟨rfl,fun _=>?_,fun bf=>?_⟩
  .show bw _ _ _ _ _ _ _;exact bu [] (br) <| av (T5 z R L nm n rm l g false done) bg
  .exfalso;have bf:decide (rm<=(((kw g).length:Nat):Int))=false:=bf;have:=mu bf;omega
 .have e:ez z L nm rm l g k=⟨0,l.erase k,g++[(k,gy z L nm (k:Int))],false⟩:=if_neg c;rw[e];generalize gy z L nm (k:Int)=x at*;refine aU [4] Tryz.func153 ?_;refine⟨rfl,fun bf=>?_,fun _=>?_⟩
  .exfalso;have bf:decide (rm<=(((kw g).length:Nat):Int))=true:=bf;have:=gd bf;omega
  exact bu [] (br) <| av dH ⟨trivial,rfl,sx br rfl rfl ⟨rfl,rfl,rfl,rfl,rfl,congrArg (fun aB=>some (ba.map al al aB)) dm,congrArg (fun aB=>some (ba.map al jP aB)) rI,trivial⟩ rfl⟩
abbrev tX (z R:Int) (L:List aL) (nm:aC3) (n rm:Int) (l:aC4) (g:List (Nat×aC3)) (over done:Bool) (b:Nat):az:=iA z R L nm n rm l g over done++[(9001,.b5 2001 (fc b))]
theorem T6 (h:cb z R L) (nm:aC3) (n rm:Int) (l:aC4) (g:List (Nat×aC3)) (done:Bool) (k:Nat) (aa:k∉g.map Prod.fst) (b:Nat):Fn Tryz.prog 153 [.c (.one (.d (.aM (some b)))),ab (k:Int)] (tX z R L nm n rm l g false done b) [] (ab (ez z L nm rm l g k).e) (tX z R L nm n rm (ez z L nm rm l g k).l (ez z L nm rm l g k).g (ez z L nm rm l g k).over done b):=by
 have J:=aia h nm n rm l g done k aa;generalize ez z L nm rm l g k=r at*
 refine Fn.via (X:=Unit) (args':=fun _=>[aq 2001,ab (k:Int)]) (uQ:=fun _=>tX z R L nm n rm l g false done b) (nc:=fun _=>iA z R L nm n rm l g false done) (jo:=fun _=>[]) (res':=fun _=>ab r.e) (n2:=fun _=>iA z R L nm n rm r.l r.g r.over done)
  ay7 2 rfl ?_ (fun _=>J) (fun _=>aC) (fun _=>rfl) (fun _=>rfl) ?_
 .intro N C a w aw;exact⟨(),e2.sub (ac.KD 0 2001 9001 b rfl rfl N C a w aw) aC aC⟩
 .intro _;exact⟨ab r.e,tX z R L nm n rm r.l r.g r.over done b,ac.sub aC aC,rfl,aC,rfl⟩
structure aib where
 tQ:Bool
 e:Int
 l:aC4
 g:List (Nat×aC3)
 over:Bool
 done:Bool
def ka (z:Nat) (L:List aL) (nm:aC3) (rm:Int) (l:aC4) (g:List (Nat×aC3)) (over done:Bool):aib:=if over=true then⟨false,170,l,g,true,done⟩ else if l=[] then⟨true,0,[],g,true,true⟩ else
 ⟨false,(ez z L nm rm l g (eN l)).e,(ez z L nm rm l g (eN l)).l,(ez z L nm rm l g (eN l)).g,(ez z L nm rm l g (eN l)).over,done⟩
theorem aic (h:cb z R L) (nm:aC3) (n rm:Int) (l:aC4) (g:List (Nat×aC3)) (over done:Bool) (ak: ∀k,k∈l->k<=100000) (qg:l.length<=100000) (hn:l.Nodup) (aZ: ∀k,k∈l->k∉g.map Prod.fst):Fn Tryz.prog 297 [aq 2001] (iA z R L nm n rm l g over done) [] (.ci [.one (.d (.bool (ka z L nm rm l g over done).tQ)),dz (ka z L nm rm l g over done).e])
  (iA z R L nm n rm (ka z L nm rm l g over done).l (ka z L nm rm l g over done).g (ka z L nm rm l g over done).over (ka z L nm rm l g over done).done):=by
 cases over with
 |true=>
  have e:ka z L nm rm l g true done=⟨false,170,l,g,true,done⟩:=if_pos rfl;rw[e];refine aU [] Tryz.func297 ?_;exact fb bg
 |false=>
  have rl:=Mq l
  by_cases a7:l=[]
  .have e:ka z L nm rm l g false done=⟨true,0,[],g,true,true⟩:=(if_neg ay5).trans (if_pos a7);rw[e];subst a7;refine aU [] Tryz.func297 ?_;exact dt <| fb ⟨_,_,_,ac.sJ 2001 (l':=DC nm z n rm true true) rfl aC,rfl,aC,aC,rfl⟩
  .have e:ka z L nm rm l g false done=⟨false,(ez z L nm rm l g (eN l)).e,(ez z L nm rm l g (eN l)).l,(ez z L nm rm l g (eN l)).g,(ez z L nm rm l g (eN l)).over,done⟩:=(if_neg ay5).trans (if_neg a7);rw[e];obtain⟨cA,cF,dF⟩:=G1 a7
   have Bz: ∀g:{hc:List Int//hc.Perm (gZ (f2 l))},pd g.1=((eN l:Nat):Int):=fun g=>by
    rw[TK g.2 (by rw[vc];simpa using a7),vc];exact cA
   have uW: ∀g:{hc:List Int//hc.Perm (gZ (f2 l))},g.1.length=l.length:=fun g=>by
    rw[g.2.length_eq,vc,ar1]
   have nl:0 < l.length:=List.length_pos_iff.2 a7;have My:=TI (f2 l) (Ms hn) (Mt fun k aa=>by have:=ak k aa;omega) ay4;have xP:=T6 h nm n rm l g done (eN l) (aZ _ cF);generalize ez z L nm rm l g (eN l)=r at*;generalize eN l=rQ at*;refine aU [6,7] Tryz.func297 ?_;refine dt ⟨fun J=>?_,fun _=>?_⟩
   .exfalso;have J:decide ((((f2 l).length:Nat):Int)=0)=true:=J;have:=gd J;omega
   refine bw.e4 (di.mark 2001 9001 rfl ay5) fun b=>?_
   refine bu [7] (cM [(0,aq 2001)] (tX z R L nm n rm l g false done b)) ⟨_,_,fun N=>jQ (m:=9001) (b:=b) rfl rfl rfl N,rfl,?_⟩;refine bw.le (cM [(0,aq 2001),(4,yw 153 b)] (tX z R L nm n rm l g false done b)) <| bw.iL e3 ay7 <| lP ((Fn.aV [(1001,2002),(2001,9101)] (Mm (f2 l))).x) fun _=>⟨_,_,_,fun g=>_,fun g=>_,cx.aV [(1001,2002),(2001,9101)] My,aC,rfl,fun _=>rfl,fun MF=>?_⟩
   have ahL:=uW MF;have Du:=Bz MF;refine lP ((Fn.res (res':=ab (rQ:Int)) (TL MF.1 ay4 ay4) Du).x) fun _=>?_
   refine lP ((xP b).x) fun _=>?_
   exact bg
end
abbrev tY:bz:=.bP al jP
def AO (g:List (Nat×aC3)) (k:Int):aC3:=(bY (aI:=al) (aK:=jP) (kw g) k).getD (cO jP)
def T7 (g:List (Nat×aC3)) (k:Int):Z tY:=@Prod.mk Int aC3 k (AO g k)
def ou (g:List (Nat×aC3)):List (Z tY):=(m0 (gZ (kw g))).map (T7 g)
theorem Hb (g:List (Nat×aC3)):gZ (kw g)=(g.map Prod.fst).map fun k:Nat=>(k:Int):=by
 unfold gZ kw;rw[at7,at7];rfl
theorem MG (g:List (Nat×aC3)):(ou g).length=g.length:=by
 unfold ou;rw[ar1,(DA _).length_eq,Hb,ar1,ar1]
theorem MH {B:Nat} (k:Int): ∀g:List (Nat×aC3),(∀p,p∈g->p.2.length<=B)->(AO g k).length<=B
 | [],_=>aq8 _
 |p::g,h=>by
  cases e:f0 al k (DB p).1 with
  |true=>
   have:AO (p::g) k=p.2:=by
    show(bY (aI:=al) (aK:=jP) (DB p::kw g) k).getD (cO jP)=p.2;simp only[bY,e];rfl
   rw[this];exact h p (ar2 ..)
  |false=>
   have:AO (p::g) k=AO g k:=by
    show(bY (aI:=al) (aK:=jP) (DB p::kw g) k).getD (cO jP)=(bY (aI:=al) (aK:=jP) (kw g) k).getD (cO jP);simp only[bY,e]
   rw[this];exact MH k g fun q aT=>h q (aq2 _ aT)
section
variable {z R:Nat} {L:List aL} {nm:aC3}
abbrev T8 (ks:List Int) (c k:Nat):aY:=[(0,aq 2001),(5,eM c),(18,bQ al ks),(19,ab (ks.length:Nat)),(20,ab (k:Nat))]
abbrev MI (z R:Int) (L:List aL) (nm:aC3) (n rm:Int) (l:aC4) (g:List (Nat×aC3)) (over done:Bool) (c:Nat) (x:List (Z tY)):az:=iA z R L nm n rm l g over done++[(c,.row 96 tY x)]
theorem aid (z R:Int) (L:List aL) (nm:aC3) (n rm:Int) (l:aC4) (g:List (Nat×aC3)) (over:Bool) (hn:(g.map Prod.fst).Nodup) (aa: ∀p,p∈g->p.1<=100000/\p.2.length<=100000) (ak:g.length<=100000):
  Fn Tryz.prog 121 [aq 2001] (iA z R L nm n rm l g over true) [] (.ci [.one (.d (.co tY (ou g))),dz n,.one (.d (.bool true))]) (iA z R L nm n rm l g over true):=by
 have dC:(gZ (kw g)).Nodup:=by
  rw[Hb];exact Mf (fun x _ y _ e=>by have e:(x:Int)=(y:Int):=e;omega) hn
 have nn: ∀s∈gZ (kw g),(Lit.int .i64 s).wf=true:=fun s aw=>by
  rw[Hb] at aw;obtain⟨k,ct,rfl⟩:=as9.1 aw;obtain⟨p,ai,rfl⟩:=as9.1 ct;have:=(aa p ai).1;show(decide (IntKind.i64.min<=(p.1:Int))&&decide ((p.1:Int)<=IntKind.i64.max))=true;rw[ar0 (show(IntKind.i64.min:Int)<=(p.1:Int) from Int.le_trans (by decide:IntKind.i64.min<=(0:Int)) ay4),ar0 (show(p.1:Int)<=IntKind.i64.max from Int.le_trans (by omega:(p.1:Int)<=1000000) ay5)];rfl
 have T9:=T3 g;have Hc:=ah5 (kw g) dC nn ay4;have hr:(m0 (gZ (kw g))).length=g.length:=by rw[(DA _).length_eq,Hb,ar1,ar1]
 have lI: ∀k:Nat,(h:k < (m0 (gZ (kw g))).length)->(ou g).take k++[T7 g (m0 (gZ (kw g)))[k]]=(ou g).take (k+1):=fun k h=>by
  rw[List.take_add_one];unfold ou;rw[as0,oj h];rfl
 have hl:=MG g;have jN:=fun k=>MH (B:=100000) k g fun p ai=>(aa p ai).2
 generalize m0 (gZ (kw g))=ks at*;generalize ou g=bD at*;refine aU [4,7,9] Tryz.func121 ?_;refine dt <| bu [7,9] (br) <| av (Fn.aV [(1001,2003),(2001,9201)] (ah3 (kw g))) <| av (Fn.aV [(1001,2003),(2001,9201)] Hc) <| d2 [7,9] (X:=Nat) (fun k=>T8 ks 5002 k) (fun k=>MI z R L nm n rm l g over true 5002 (bD.take k)) (fun k=>k<=ks.length) (fun k=>ks.length - k) 0 (aq8 _) ?_ ?_
 .exact ac.trans (cM [(0,aq 2001),(5,.c (.one .dK)),(18,bQ al ks),(19,ab (ks.length:Nat)),(20,ab 0)] (iA z R L nm n rm l g over true)) (ac.trans (ac.nil 5 5002 96 tY rfl rfl) (ac.sub aC aC))
 intro k ct;have ct:k<=ks.length:=ct;refine⟨fun J=>?_,fun J=>?_⟩
 .have J:decide ((k:Int) < ((ks.length:Nat):Int))=true:=J;have eD:k < ks.length:=aA7
  have mG:=jJ (n:=k) eD;have en:=lI k eD;generalize ks[k]=q at*;have hx:=jN q;have dH:=LG (AO g q) ay4
  have bV:List.length (α:=Z tY) (bD.take k)+1<=4294967296:=by
   show(bD.take k).length+1<=4294967296;rw[aq9];omega
  exact⟨ay4,q,mG,bu [9] (cM [(0,aq 2001),(5,eM 5002),(18,bQ al ks),(19,ab (ks.length:Nat)),(20,ab (k:Nat)),(7,ab q)] (MI z R L nm n rm l g over true 5002 (bD.take k))) <| av dH ⟨bV,rfl,ay4,k+1,eD,ay4,ac.trans (ac.sub (K':=T8 ks 35 (k+1)) (B':=MI z R L nm n rm l g over true 35 (bD.take (k+1))) aC ⟨rfl,rfl,rfl,rfl,rfl,rfl,rfl,congrArg (fun aB=>some (ba.row 96 tY aB)) en,trivial⟩) (ac.trans (ac.aV 35 5002 rfl) (ac.sub aC aC))⟩⟩
 .have J:decide ((k:Int) < ((ks.length:Nat):Int))=false:=J;have eD:k=ks.length:=aA4
  have dB:bD.take k=bD:=at2 ay4;exact bu [] (ac.d0 5002 rfl) ⟨rfl,eG br rfl ⟨dB,rfl,rfl,trivial⟩⟩
end
def ih (f:Nat->Bool) (z:Nat):Nat->aC4
 |0=>[]
 |s+1=>if f s=true then nu (ih f z s) (s/2 ^z) else ih f z s
theorem MJ (f:Nat->Bool) (z:Nat): ∀s,(ih f z s).Nodup
 |0=>av8
 |s+1=>by
  show(if f s=true then nu (ih f z s) (s/2 ^z) else ih f z s).Nodup
  split
  .exact TP (MJ f z s)
  .exact MJ f z s
theorem MK (f:Nat->Bool) (z n:Nat): ∀s,s<=n*2 ^z-> ∀k,k∈ih f z s->k < n
 |0,_,k,h=>by cases h
 |s+1,aw,k,h=>by
  have h:k∈(if f s=true then nu (ih f z s) (s/2 ^z) else ih f z s):=h;have H:s/2 ^z < n:=(ax0 (Nat.two_pow_pos z)).2 ay4
  split at h
  .rcases Dr.1 h with h |h
   .exact MK f z n s ay4 k h
   .omega
  .exact MK f z n s ay4 k h
section
variable {z R:Nat} {L:List aL} {nm:aC3}
abbrev DD (z R:Int) (L:List aL) (nm:aC3) (n rm:Int) (l:aC4):az:=bO z R L++[(46,.cells [.ptr 1001 0,.d (.str nm),.d (.int .i64 z),.d (.int .i64 n),.d (.int .i64 rm),.mp 43,.mp 44,.d (.bool false),.d (.bool false)]),(43,.map al al (f2 l)),(44,.map al jP [])]
theorem aie (h:cb z R L) {d:aL} (H:dk L nm=some d) (rm:Int) (ax:rm < 0):Fn Tryz.prog 76 [aq 1001,bT nm,.c (.one (.bJ (.pointer none))),ab rm] (bO z R L) [] (.ci [mP,dz 1]) (bO z R L):=by
 refine aU [] Tryz.func76 ?_;exact av (jM _ _ L h.toiP nm d H) ⟨fun _ _=>⟨fun _=>sx br rfl aC ⟨rfl,rfl,rfl,rfl,trivial⟩ rfl,fun h=>absurd (mu h) ay4⟩,fun h=>by cases h⟩
abbrev aif (am:Nat) (nm:aC3) (N s:Nat):aY:=[(2,.c (.one (.bJ (.pointer none)))),(11,aq 46),(55,ab (N:Nat)),(56,ab (s:Nat))]
theorem aig (h:cb z R L) {d:aL} (H:dk L nm=some d) (rm:Int) (ax:0<=rm):Fn Tryz.prog 76 [aq 1001,bT nm,.c (.one (.bJ (.pointer none))),ab rm] (bO z R L) [2001,2002,2003] (.ci [.one (.ptr 2001 0),dz 0]) (iA z R L nm (d.im.t.length:Nat) rm (ih (fun _=>true) z (d.im.t.length*2 ^z)) [] false false):=by
 have nr:=(h.gl d (cR H).1).1.eS;have fy:=h.toiP.M (cR H).1;have kE:d.im.z=z:=(h.gl d (cR H).1).2.1;have yt:=h.b3;have ai:=jc h.b3
 have pe:((d.im.t.length:Nat):Int)*((2 ^((d.im.z:Nat):Int).toNat:Nat):Int)=((d.im.t.length*2 ^z:Nat):Int):=by
  rw[kE];show((d.im.t.length:Nat):Int)*((2 ^z:Nat):Int)=_;rw[Int.natCast_mul]
 have mk:d.im.t.length*2 ^z<=256*8:=av1 nr ai.2;have m1:(0:Int)<=((d.im.t.length:Nat):Int)/\(0:Int)<=((d.im.z:Nat):Int)/\((d.im.z:Nat):Int)<=64:=az2
 have m2:c1 (((d.im.t.length:Nat):Int)*((2 ^((d.im.z:Nat):Int).toNat:Nat):Int)):=by rw[pe];omega
 have cU:(0:Int)<=((d.im.t.length:Nat):Int)/\(0:Int)<=((z:Nat):Int)/\((z:Nat):Int)<=64:=az2
 have DE:((d.im.t.length:Nat):Int)*((2 ^((z:Nat):Int).toNat:Nat):Int)=((d.im.t.length*2 ^z:Nat):Int):=by
  show((d.im.t.length:Nat):Int)*((2 ^z:Nat):Int)=_;rw[Int.natCast_mul]
 have dU:c1 (((d.im.t.length:Nat):Int)*((2 ^((z:Nat):Int).toNat:Nat):Int)):=by rw[DE];omega
 refine aU [6,7,10,11] Tryz.func76 ?_;refine av (jM _ _ L h.toiP nm d H) ⟨fun _ _=>⟨fun h=>absurd (gd h) ay4,fun _=>bu [7,10,11] (ac.sub (K':=[(0,aq 1001),(1,bT nm),(2,.c (.one (.bJ (.pointer none)))),(3,ab rm),(10,dr d.am)]) (B':=bO z R L) aC ⟨rfl,rfl,rfl,rfl,trivial⟩) <| av (h5 (wN d.im) fy rfl rfl rfl rfl) <| av (h5 (np d.im) fy rfl rfl rfl rfl) ⟨rfl,rfl,rfl,bu [10,11] (ac.trans (ac.sJ 46 (l':=[.ptr 1001 0,.d (.str nm),.d (.int .i64 ((z:Nat):Int)),.d (.int .i64 ((d.im.t.length:Nat):Int)),.d (.int .i64 rm),.mp 43,.mp 44,.d (.bool false),.d (.bool false)]) rfl ⟨rfl,rfl,congrArg Int.ofNat kE,rfl,rfl,rfl,rfl,rfl,rfl,trivial⟩) (ac.sub (K':=[(2,.c (.one (.bJ (.pointer none)))),(11,aq 46)]) (B':=DD z R L nm (d.im.t.length:Nat) rm []) aC ⟨rfl,rfl,rfl,rfl,rfl,rfl,rfl,trivial⟩)) ⟨cU,dU,rfl,d2 [10,11] (X:=Nat) (fun s=>aif d.am nm (d.im.t.length*2 ^z) s) (fun s=>DD z R L nm (d.im.t.length:Nat) rm (ih (fun _=>true) z s)) (fun s=>s<=d.im.t.length*2 ^z) (fun s=>d.im.t.length*2 ^z - s) 0 (aq8 _) ?_ ?_⟩⟩⟩,fun h=>by cases h⟩
 .exact ac.sub ⟨rfl,rfl,DE,rfl,trivial⟩ ⟨rfl,rfl,rfl,rfl,rfl,rfl,rfl,trivial⟩
 intro s aw;have aw:s<=d.im.t.length*2 ^z:=aw;refine⟨fun J=>?_,fun J=>?_⟩
 .have J:decide ((s:Int) < ((d.im.t.length*2 ^z:Nat):Int))=true:=J;have h1:s < d.im.t.length*2 ^z:=aA7
  have cA:(0:Int)<=(s:Int)/\(0:Int)<=((z:Nat):Int)/\((z:Nat):Int)<=64:=az2
  have sG:(s:Int)/((2 ^((z:Nat):Int).toNat:Nat):Int)=((s/2 ^z:Nat):Int):=by
   show(s:Int)/((2 ^z:Nat):Int)=_;rfl
  exact bu [11] (ac.sub (K':=[(2,.c (.one (.bJ (.pointer none)))),(11,aq 46),(55,ab ((d.im.t.length*2 ^z:Nat):Int)),(56,ab (s:Nat)),(12,ab (s:Nat))]) (B':=DD z R L nm (d.im.t.length:Nat) rm (ih (fun _=>true) z s)) aC ⟨rfl,rfl,rfl,rfl,rfl,rfl,rfl,trivial⟩) <| bu [] (ac.sub (K':=[(2,.c (.one (.bJ (.pointer none)))),(11,aq 46),(55,ab ((d.im.t.length*2 ^z:Nat):Int)),(56,ab (s:Nat)),(12,ab (s:Nat))]) (B':=DD z R L nm (d.im.t.length:Nat) rm (ih (fun _=>true) z s)) aC ⟨rfl,rfl,rfl,rfl,rfl,rfl,rfl,trivial⟩) ⟨cA,trivial,rfl,ay4,s+1,h1,ay4,ac.sub aC ⟨rfl,rfl,rfl,rfl,rfl,congrArg (fun aB=>some (ba.map al al aB)) ((Dq (s/2 ^z) _).trans (congrArg f2 (show nu (ih (fun _=>true) z s) (s/2 ^z)=ih (fun _=>true) z (s+1) from(if_pos rfl).symm))),rfl,trivial⟩⟩
 .have J:decide ((s:Int) < ((d.im.t.length*2 ^z:Nat):Int))=false:=J;have h1:s=d.im.t.length*2 ^z:=aA4
  subst h1;exact⟨_,_,_,ac.trans (ac.aV 46 2001 rfl) (ac.trans (ac.aV 43 2002 rfl) (ac.aV 44 2003 rfl)),rfl,aC,⟨rfl,rfl,rfl,rfl,rfl,rfl,rfl,trivial⟩,rfl⟩
abbrev yx (s g:Int) (es:List (Z al×Z al)):az:=[(5001,.cells [.d (.int .i64 s),.d (.int .i64 g),.mp 5002]),(5002,.map al al es)]
abbrev T' (z R:Int) (L:List aL) (s g:Int) (es:List (Z al×Z al)):az:=bO z R L++yx s g es
abbrev Hd (z R:Int) (L:List aL) (nm:aC3) (n rm:Int) (l:aC4) (s g:Int) (es:List (Z al×Z al)):az:=DD z R L nm n rm l++yx s g es
abbrev aih (z R:Int) (L:List aL) (nm:aC3) (n rm:Int) (l:aC4) (qu:List (Nat×aC3)) (over done:Bool) (s g:Int) (es:List (Z al×Z al)):az:=iA z R L nm n rm l qu over done++yx s g es
theorem aii (h:cb z R L) {d:aL} (H:dk L nm=some d) (rm:Int) (ax:rm < 0) (s g:Int) (es:List (Z al×Z al)):Fn Tryz.prog 76 [aq 1001,bT nm,aq 5001,ab rm] (bO z R L++[(5001,.cells [.d (.int .i64 s),.d (.int .i64 g),.mp 5002]),(5002,.map al al es)]) [] (.ci [mP,dz 1]) (bO z R L++[(5001,.cells [.d (.int .i64 s),.d (.int .i64 g),.mp 5002]),(5002,.map al al es)]):=by
 refine aU [] Tryz.func76 ?_;exact av (jM _ _ L h.toiP nm d H) ⟨fun _ _=>⟨fun _=>bg,fun h=>absurd (mu h) ay4⟩,fun h=>by cases h⟩
abbrev aij (am:Nat) (nm:aC3) (N s:Nat):aY:=[(2,aq 5001),(11,aq 46),(55,ab (N:Nat)),(56,ab (s:Nat))]
theorem aik (h:cb z R L) {d:aL} (H:dk L nm=some d) (rm:Int) (ax:0<=rm) (g:Int) (es:List (Z al×Z al)) (aZ:1<=g):Fn Tryz.prog 76 [aq 1001,bT nm,aq 5001,ab rm] (T' z R L ((d.im.t.length*2 ^z:Nat):Int) g es) [2001,2002,2003] (.ci [.one (.ptr 2001 0),dz 0]) (aih z R L nm (d.im.t.length:Nat) rm (ih (mZ g es) z (d.im.t.length*2 ^z)) [] false false ((d.im.t.length*2 ^z:Nat):Int) g es):=by
 have nr:=(h.gl d (cR H).1).1.eS;have fy:=h.toiP.M (cR H).1;have kE:d.im.z=z:=(h.gl d (cR H).1).2.1;have yt:=h.b3;have ai:=jc h.b3
 have pe:((d.im.t.length:Nat):Int)*((2 ^((d.im.z:Nat):Int).toNat:Nat):Int)=((d.im.t.length*2 ^z:Nat):Int):=by
  rw[kE];show((d.im.t.length:Nat):Int)*((2 ^z:Nat):Int)=_;rw[Int.natCast_mul]
 have mk:d.im.t.length*2 ^z<=256*8:=av1 nr ai.2;have m1:(0:Int)<=((d.im.t.length:Nat):Int)/\(0:Int)<=((d.im.z:Nat):Int)/\((d.im.z:Nat):Int)<=64:=az2
 have m2:c1 (((d.im.t.length:Nat):Int)*((2 ^((d.im.z:Nat):Int).toNat:Nat):Int)):=by rw[pe];omega
 have cU:(0:Int)<=((d.im.t.length:Nat):Int)/\(0:Int)<=((z:Nat):Int)/\((z:Nat):Int)<=64:=az2
 have DE:((d.im.t.length:Nat):Int)*((2 ^((z:Nat):Int).toNat:Nat):Int)=((d.im.t.length*2 ^z:Nat):Int):=by
  show((d.im.t.length:Nat):Int)*((2 ^z:Nat):Int)=_;rw[Int.natCast_mul]
 have dU:c1 (((d.im.t.length:Nat):Int)*((2 ^((z:Nat):Int).toNat:Nat):Int)):=by rw[DE];omega
 refine aU [6,7,10,11] Tryz.func76 ?_;refine av (jM _ _ L h.toiP nm d H) ⟨fun _ _=>⟨fun h=>absurd (gd h) ay4,fun _=>av (Fn.aV [(1001,5001),(1002,5002)] (MD ((d.im.t.length*2 ^z:Nat):Int) g es)) <| av (h5 (np d.im) fy rfl rfl rfl rfl) <| av (h5 (wN d.im) fy rfl rfl rfl rfl) ⟨m1,m2,fun bf=>?_,fun _=>?_⟩⟩,fun h=>by cases h⟩
 .exfalso;have bf:(!decide (((d.im.t.length*2 ^z:Nat):Int)=((d.im.t.length:Nat):Int)*((2 ^((d.im.z:Nat):Int).toNat:Nat):Int)))=true:=bf;rw[pe,ar0 rfl] at bf
  cases bf
 refine bu [7,10,11] (cM [(0,aq 1001),(1,bT nm),(2,aq 5001),(3,ab rm),(10,dr d.am)] (T' z R L ((d.im.t.length*2 ^z:Nat):Int) g es)) <| av (h5 (wN d.im) fy rfl rfl rfl rfl) <| av (h5 (np d.im) fy rfl rfl rfl rfl) ⟨rfl,rfl,rfl,bu [10,11] (ac.trans (ac.sJ 46 (l':=[.ptr 1001 0,.d (.str nm),.d (.int .i64 ((z:Nat):Int)),.d (.int .i64 ((d.im.t.length:Nat):Int)),.d (.int .i64 rm),.mp 43,.mp 44,.d (.bool false),.d (.bool false)]) rfl ⟨rfl,rfl,congrArg Int.ofNat kE,rfl,rfl,rfl,rfl,rfl,rfl,trivial⟩) (cM [(2,aq 5001),(11,aq 46)] (Hd z R L nm (d.im.t.length:Nat) rm [] ((d.im.t.length*2 ^z:Nat):Int) g es))) ⟨cU,dU,rfl,d2 [10,11] (X:=Nat) (fun s=>aij d.am nm (d.im.t.length*2 ^z) s) (fun s=>Hd z R L nm (d.im.t.length:Nat) rm (ih (mZ g es) z s) ((d.im.t.length*2 ^z:Nat):Int) g es) (fun s=>s<=d.im.t.length*2 ^z) (fun s=>d.im.t.length*2 ^z - s) 0 (aq8 _) ?_ ?_⟩⟩
 .exact ac.sub ⟨rfl,rfl,DE,rfl,trivial⟩ aC
 intro s aw;have aw:s<=d.im.t.length*2 ^z:=aw;refine⟨fun J=>?_,fun J=>?_⟩
 .have J:decide ((s:Int) < ((d.im.t.length*2 ^z:Nat):Int))=true:=J;have h1:s < d.im.t.length*2 ^z:=aA7
  have cA:(0:Int)<=(s:Int)/\(0:Int)<=((z:Nat):Int)/\((z:Nat):Int)<=64:=az2
  have sG:(s:Int)/((2 ^((z:Nat):Int).toNat:Nat):Int)=((s/2 ^z:Nat):Int):=by
   show(s:Int)/((2 ^z:Nat):Int)=_;rfl
  refine bu [11] (cM [(2,aq 5001),(11,aq 46),(55,ab ((d.im.t.length*2 ^z:Nat):Int)),(56,ab (s:Nat)),(12,ab (s:Nat))] (Hd z R L nm (d.im.t.length:Nat) rm (ih (mZ g es) z s) ((d.im.t.length*2 ^z:Nat):Int) g es)) <| av (Fn.aV [(1001,5001),(1002,5002)] (T1 ((d.im.t.length*2 ^z:Nat):Int) g es s aZ ay4 ay4)) ⟨fun hf=>?_,fun hf=>?_⟩
  .have hf:mZ g es s=true:=hf;exact bu [] (cM [(2,aq 5001),(11,aq 46),(55,ab ((d.im.t.length*2 ^z:Nat):Int)),(56,ab (s:Nat)),(12,ab (s:Nat))] (Hd z R L nm (d.im.t.length:Nat) rm (ih (mZ g es) z s) ((d.im.t.length*2 ^z:Nat):Int) g es)) ⟨cA,trivial,rfl,ay4,s+1,h1,ay4,ac.sub aC ⟨rfl,rfl,rfl,rfl,rfl,congrArg (fun aB=>some (ba.map al al aB)) ((Dq (s/2 ^z) _).trans (congrArg f2 (show nu (ih (mZ g es) z s) (s/2 ^z)=ih (mZ g es) z (s+1) from(if_pos hf).symm))),rfl,rfl,rfl,trivial⟩⟩
  .have hf:mZ g es s=false:=hf;exact⟨ay4,s+1,h1,ay4,ac.sub aC ⟨rfl,rfl,rfl,rfl,rfl,congrArg (fun aB=>some (ba.map al al (f2 aB))) (show ih (mZ g es) z s=ih (mZ g es) z (s+1) from(if_neg (by rw[hf];decide)).symm),rfl,rfl,rfl,trivial⟩⟩
 .have J:decide ((s:Int) < ((d.im.t.length*2 ^z:Nat):Int))=false:=J;have h1:s=d.im.t.length*2 ^z:=aA4
  subst h1;exact⟨_,_,_,ac.trans (ac.aV 46 2001 rfl) (ac.trans (ac.aV 43 2002 rfl) (ac.aV 44 2003 rfl)),rfl,aC,aC,rfl⟩
end
end
section
theorem ail (z R:Int) (L:List aL) (nm:aC3) (n rm:Int) (l:aC4) (g:List (Nat×aC3)) (done:Bool) (a aX:Int):Fn Tryz.prog 100 [aq 2001,ab a,ab aX] (iA z R L nm n rm l g true done) [] (ab 0) (iA z R L nm n rm l g true done):=by
 refine aU [] Tryz.func100 ?_;exact fb bg
def pf (l:aC4):aC4:=(m0 (l.map fun k:Nat=>(k:Int))).map Int.toNat
theorem aim (l:aC4):m0 (gZ (f2 l))=(pf l).map fun k:Nat=>(k:Int):=by
 unfold pf;rw[vc,at7]
 conv=>lhs;rw[<-List.map_id (m0 (l.map fun k:Nat=>(k:Int)))]
 refine as2 fun x hx=>?_
 obtain⟨k,_,rfl⟩:=as9.1 ((DA _).mem_iff.1 hx);rfl
theorem AP (l:aC4):(pf l).Perm l:=by
 have h:=(DA (l.map fun k:Nat=>(k:Int))).map Int.toNat;rw[at7] at h
 have e:l.map (Int.toNat∘fun k:Nat=>(k:Int))=l:=by
  conv=>rhs;rw[<-List.map_id l]
  exact as2 fun x _=>rfl
 rw[e] at h;exact h
structure Ua where
 e:Int
 l:aC4
 g:List (Nat×aC3)
 over:Bool
def lA (z:Nat) (L:List aL) (nm:aC3) (rm a aX:Int):aC4->aC4->List (Nat×aC3)->Ua
 | [],l,g=>⟨0,l,g,false⟩
 |k::ks,l,g=>if((k*2 ^z+2 ^z:Nat):Int)<=a\/a<=((k*2 ^z:Nat):Int) - aX then lA z L nm rm a aX ks l g else if(ez z L nm rm l g k).e=0 then lA z L nm rm a aX ks (ez z L nm rm l g k).l (ez z L nm rm l g k).g else⟨(ez z L nm rm l g k).e,(ez z L nm rm l g k).l,(ez z L nm rm l g k).g,(ez z L nm rm l g k).over⟩
theorem ain {z:Nat} {L:List aL} {nm:aC3} {rm:Int} {l:aC4} {g:List (Nat×aC3)} {k:Nat} (U:(ez z L nm rm l g k).e=0):(ez z L nm rm l g k).over=false/\(ez z L nm rm l g k).g=g++[(k,gy z L nm (k:Int))]:=by
 unfold ez at U⊢
 split at U
 .exact absurd U (show¬(171:Int)=0 by decide)
 .rename_i c;rw[if_neg c];exact⟨rfl,rfl⟩
abbrev aio (a aX:Int) (b:Nat) (ks:List Int) (i:Nat):aY:=[(0,aq 2001),(1,ab a),(2,ab aX),(7,yw 153 b),(27,bQ al ks),(28,ab (ks.length:Nat)),(29,ab (i:Nat))]
theorem aip {z R:Nat} {L:List aL} (h:cb z R L) (nm:aC3) (n rm:Int) (l:aC4) (g:List (Nat×aC3)) (done:Bool) (a aX:Int) (E:1<=aX) (G:aX<=9223372036854775807) (ak: ∀k,k∈l->k<=256) (qg:l.length<=256) (hn:l.Nodup) (aZ: ∀k,k∈l->k∉g.map Prod.fst):
  Fn Tryz.prog 100 [aq 2001,ab a,ab aX] (iA z R L nm n rm l g false done) [] (ab (lA z L nm rm a aX (pf l) l g).e) (iA z R L nm n rm (lA z L nm rm a aX (pf l) l g).l (lA z L nm rm a aX (pf l) l g).g (lA z L nm rm a aX (pf l) l g).over done):=by
 have Hc:=ah4 (f2 l) (Ms hn) (Mt fun k aa=>by have:=ak k aa;omega) (by rw[Mq];omega);rw[aim] at Hc;have ai:=jc h.b3;have yt:=h.b3;have hB:(pf l).length=l.length:=(AP l).length_eq;have va: ∀k,k∈pf l->k<=256/\k∉g.map Prod.fst:=fun k aa=>⟨ak k ((AP l).mem_iff.1 aa),aZ k ((AP l).mem_iff.1 aa)⟩
 have rU:(pf l).Nodup:=(AP l).nodup_iff.2 hn;generalize pf l=iB at*;generalize g':lA z L nm rm a aX iB l g=bo at*;refine aU [3,4,9] Tryz.func100 ?_;refine dt ⟨fun h=>absurd (gd h) ay4,fun _=>bw.e4 (di.mark 2001 9001 rfl ay5) fun b=>bu [4,9] (cM [(0,aq 2001),(1,ab a),(2,ab aX)] (tX z R L nm n rm l g false done b)) ⟨_,_,fun N=>jQ (m:=9001) (b:=b) rfl rfl rfl N,rfl,?_⟩⟩;refine bu [9] (cM [(0,aq 2001),(1,ab a),(2,ab aX),(7,yw 153 b)] (tX z R L nm n rm l g false done b)) <| av (Fn.aV [(1001,2002),(2001,9101)] (Mm (f2 l))) <| av (Fn.aV [(1001,2002),(2001,9101)] Hc) <| d2 [9] (X:=Nat×aC4×List (Nat×aC3)) (fun x=>aio a aX b (iB.map fun k:Nat=>(k:Int)) x.1) (fun x=>tX z R L nm n rm x.2.1 x.2.2 false done b) (fun x=>x.1<=iB.length/\lA z L nm rm a aX (iB.drop x.1) x.2.1 x.2.2=bo/\ ∀k,k∈iB.drop x.1->k∉x.2.2.map Prod.fst) (fun x=>iB.length - x.1) (0,l,g) ⟨aq8 _,g',fun k aa=>(va k aa).2⟩ ?_ ?_
 .exact ac.sub aC aC
 rintro⟨i,gU,g2⟩ ⟨aF,ax,aa⟩;have aF:i<=iB.length:=aF;have ax:lA z L nm rm a aX (iB.drop i) gU g2=bo:=ax;have aa: ∀k,k∈iB.drop i->k∉g2.map Prod.fst:=aa;refine⟨fun J=>?_,fun J=>?_⟩
 .have J:decide ((i:Int) < (((iB.map fun k:Nat=>(k:Int)).length:Nat):Int))=true:=J;have d1:i < iB.length:=by have:=gd J;rw[ar1] at this;omega
  have CT:iB.drop i=iB[i]::iB.drop (i+1):=av6 d1
  have mG:fE (α:=Z al) (iB.map fun k:Nat=>(k:Int)) i=some ((iB[i]:Nat):Int):=by
   show(iB.map fun k:Nat=>(k:Int))[i]? =_;rw[as0,oj d1];rfl
  have dC:=rU.sublist (List.drop_sublist i iB);rw[CT] at ax aa dC;have zU:=(as8.1 dC).1;have O:=(va _ (as3 d1)).1;generalize iB[i]=k at*;have xP:=T6 h nm n rm gU g2 done k (aa k (ar2 ..)) b;have bv:=ain (z:=z) (L:=L) (nm:=nm) (rm:=rm) (l:=gU) (g:=g2) (k:=k);have ax:(if((k*2 ^z+2 ^z:Nat):Int)<=a\/a<=((k*2 ^z:Nat):Int) - aX then lA z L nm rm a aX (iB.drop (i+1)) gU g2 else if(ez z L nm rm gU g2 k).e=0 then lA z L nm rm a aX (iB.drop (i+1)) (ez z L nm rm gU g2 k).l (ez z L nm rm gU g2 k).g else⟨(ez z L nm rm gU g2 k).e,(ez z L nm rm gU g2 k).l,(ez z L nm rm gU g2 k).g,(ez z L nm rm gU g2 k).over⟩)=bo:=ax;generalize ez z L nm rm gU g2 k=r at*;have mk:k*2 ^z<=256*8:=av1 O ai.2
  have pe:(k:Int)*((2 ^((z:Nat):Int).toNat:Nat):Int)=((k*2 ^z:Nat):Int):=by
   show(k:Int)*((2 ^z:Nat):Int)=_;rw[Int.natCast_mul]
  have rO:(1:Int)*((2 ^((z:Nat):Int).toNat:Nat):Int)=((2 ^z:Nat):Int):=by rw[Int.one_mul];rfl
  have cA:(0:Int)<=(k:Int)/\(0:Int)<=((z:Nat):Int)/\((z:Nat):Int)<=64:=az2
  have cF:c1 ((k:Int)*((2 ^((z:Nat):Int).toNat:Nat):Int)):=by rw[pe];omega
  have cU:(0:Int)<=(1:Int)/\(0:Int)<=((z:Nat):Int)/\((z:Nat):Int)<=64:=az2
  have dU:c1 ((1:Int)*((2 ^((z:Nat):Int).toNat:Nat):Int)):=by rw[rO];omega
  have ls:c1 ((k:Int)*((2 ^((z:Nat):Int).toNat:Nat):Int)+(1:Int)*((2 ^((z:Nat):Int).toNat:Nat):Int)):=by rw[pe,rO];omega
  have sF:c1 ((k:Int)*((2 ^((z:Nat):Int).toNat:Nat):Int) - aX):=by rw[pe];omega
  refine⟨ay4,_,mG,cA,cF,cU,dU,ls,fun cI=>?_,fun cI=>?_⟩
  .have cI:=gd (show decide ((k:Int)*((2 ^((z:Nat):Int).toNat:Nat):Int)+(1:Int)*((2 ^((z:Nat):Int).toNat:Nat):Int)<=a)=true from cI);rw[pe,rO] at cI;rw[if_pos (.inl ay4)] at ax;exact⟨ay4,(i+1,gU,g2),⟨d1,ax,fun q aT=>aa q (aq2 _ aT)⟩,by show iB.length - (i+1) < iB.length - i;omega,ac.sub aC aC⟩
  have cI:=mu (show decide ((k:Int)*((2 ^((z:Nat):Int).toNat:Nat):Int)+(1:Int)*((2 ^((z:Nat):Int).toNat:Nat):Int)<=a)=false from cI);rw[pe,rO] at cI;refine⟨sF,fun cE=>?_,fun cE=>?_⟩
  .have cE:=gd (show decide (a<=(k:Int)*((2 ^((z:Nat):Int).toNat:Nat):Int) - aX)=true from cE);rw[pe] at cE;rw[if_pos (.inr cE)] at ax;exact⟨ay4,(i+1,gU,g2),⟨d1,ax,fun q aT=>aa q (aq2 _ aT)⟩,by show iB.length - (i+1) < iB.length - i;omega,ac.sub aC aC⟩
  have cE:=mu (show decide (a<=(k:Int)*((2 ^((z:Nat):Int).toNat:Nat):Int) - aX)=false from cE);rw[pe] at cE;rw[if_neg (by rintro(e |e) <;>omega)] at ax;refine bu [] (cM [(0,aq 2001),(1,ab a),(2,ab aX),(7,yw 153 b),(27,bQ al (iB.map fun k:Nat=>(k:Int))),(28,ab ((iB.map fun k:Nat=>(k:Int)).length:Nat)),(29,ab (i:Nat)),(9,ab (k:Nat))] (tX z R L nm n rm gU g2 false done b)) ⟨_,_,fun N=>ah6 rfl rfl rfl rfl xP az7 rfl N,rfl,?_⟩;refine⟨fun U=>?_,fun U=>?_⟩
  .have U:(!decide (r.e=0))=true:=U;have U: ¬r.e=0:=by simpa using U
   rw[if_neg U] at ax;subst ax;exact bg
  .have U:(!decide (r.e=0))=false:=U;have U:r.e=0:=by simpa using U
   obtain⟨fq,gP⟩:=bv U;rw[if_pos U] at ax
   exact⟨ay4,(i+1,r.l,r.g),⟨d1,ax,fun q aT aA=>by
    rw[gP,au0,as1] at aA;rcases aA with aA |aA
    .exact aa q (aq2 _ aT) aA
    .have aA:q=k:=by simpa using aA
     exact zU (aA▸aT)⟩,by show iB.length - (i+1) < iB.length - i;omega,ac.sub aC ⟨rfl,rfl,rfl,rfl,congrArg (fun aB=>some (ba.cells (DC nm z n rm aB done))) fq,rfl,rfl,rfl,trivial⟩⟩
 .have J:decide ((i:Int) < (((iB.map fun k:Nat=>(k:Int)).length:Nat):Int))=false:=J;have d1:i=iB.length:=by have:=mu J;rw[ar1] at this;omega
  subst d1;rw[List.drop_length] at ax;subst ax;exact bg
section
variable {z R:Nat} {L:List aL} {nm:aC3} {rm:Int} {l:aC4} {g:List (Nat×aC3)}
theorem aiq {d:aL} (H:dk L nm=some d) {k:Nat} (aa:k < d.im.t.length):gy z L nm (k:Int)=fu z L nm (cl L nm) k:=by
 unfold gy;rw[H];simp only;rw[if_pos ⟨ay4,ay4⟩];rfl
structure ga (z R:Nat) (L:List aL) (nm:aC3) (l:aC4) (g:List (Nat×aC3)):Prop where
 cs:cb z R L
 iy:(dk L nm).isSome=true
 lt: ∀k,k∈l->k < b4 L nm
 hE:l.Nodup
 gt: ∀p,p∈g->p.1 < b4 L nm/\p.2.length=16*2 ^z
 DF:(g.map Prod.fst).Nodup
 dj: ∀k,k∈l->k∉g.map Prod.fst
theorem ga.aQ (h:ga z R L nm l g):b4 L nm<=256:=by
 obtain⟨d,H⟩:=at4.1 h.iy;have:=(h.cs.gl d (cR H).1).1.eS;unfold b4;rw[H];exact this
theorem ga.lu (h:ga z R L nm l g):l.length<=256:=aw2 (GX _ l h.hE h.lt) h.aQ
theorem ga.ML (h:ga z R L nm l g):g.length<=256:=by
 have:=GX (b4 L nm) (g.map Prod.fst) h.DF fun x hx=>by
  obtain⟨p,ai,rfl⟩:=as9.1 hx;exact(h.gt p ai).1
 rw[ar1] at this;exact aw2 this h.aQ
theorem ga.nil (h:ga z R L nm l g):ga z R L nm [] g:=⟨h.cs,h.iy,fun k aa=>(by cases aa),av8,h.gt,h.DF,fun k aa=>(by cases aa)⟩
theorem ga.rR {L':List aL} {t:aC3} (h:ga z R L nm l g) (ak:i0 L t L'):ga z R L' nm l g:=
 ⟨ak.cs h.cs,by rw[(ak.aQ nm).2];exact h.iy,fun k aa=>by rw[(ak.aQ nm).1];exact h.lt k aa,h.hE,fun p ai=>by rw[(ak.aQ nm).1];exact h.gt p ai,h.DF,h.dj⟩
theorem ga.Ub (h:ga z R L nm l g) (rm:Int) {k:Nat} (aa:k∈l):ga z R L nm (ez z L nm rm l g k).l (ez z L nm rm l g k).g:=by
 unfold ez
 split
 .exact h.nil
 .obtain⟨d,H⟩:=at4.1 h.iy;have aw:b4 L nm=d.im.t.length:=az9
  have hr:=h.lt k aa;refine⟨h.cs,h.iy,fun q aT=>h.lt q (List.mem_of_mem_erase aT),h.hE.erase _,fun p ai=>?_,?_,fun q aT aA=>?_⟩
  .have ai:p∈g++[(k,gy z L nm (k:Int))]:=ai;rcases as1.1 ai with ai |ai
   .exact h.gt p ai
   .obtain rfl:=ar5.1 ai;refine⟨hr,?_⟩;show(gy z L nm (k:Int)).length=_;rw[aiq H ay4,yf h.cs.tont H (h.cs.b5 nm).1 k]
  .show((g++[(k,gy z L nm (k:Int))]).map Prod.fst).Nodup;rw[au0];refine List.nodup_append.2 ⟨h.DF,List.pairwise_singleton _ _,fun a ha b O=>?_⟩;have O:b=k:=by simpa using O
   rintro rfl;exact h.dj k aa (O▸ha)
  .have aT:q∈l.erase k:=aT;have aA:q∈(g++[(k,gy z L nm (k:Int))]).map Prod.fst:=aA;rw[au0,as1] at aA;rcases aA with aA |aA
   .exact h.dj q (List.mem_of_mem_erase aT) aA
   .have aA:q=k:=by simpa using aA
    exact((h.hE.mem_erase_iff).1 aT).1 aA
theorem ga.MM (rm a aX:Int): ∀(ks l:aC4) (g:List (Nat×aC3)),ga z R L nm l g->(∀k,k∈ks->k∈l)->ks.Nodup->ga z R L nm (lA z L nm rm a aX ks l g).l (lA z L nm rm a aX ks l g).g
 | [],l,g,h,_,_=>h
 |k::ks,l,g,h,He,hn=>by
  unfold lA;have hn:=as8.1 hn
  split
  .exact ga.MM rm a aX ks l g h (fun q aT=>He q (aq2 _ aT)) hn.2
  .have aa:=h.Ub rm (He k (ar2 ..))
   split
   .rename_i U;refine ga.MM rm a aX ks _ _ aa (fun q aT=>?_) hn.2;have Kw:=He q (aq2 _ aT);unfold ez at U⊢
    split
    .rename_i c;rw[if_pos c] at U;exact absurd U (show¬(171:Int)=0 by decide)
    .exact(h.hE.mem_erase_iff).2 ⟨fun e=>hn.1 (e▸aT),Kw⟩
   .exact aa
theorem ga.Mz (h:ga z R L nm l g) (n rm:Int) (over done:Bool):Fn Tryz.prog 297 [aq 2001] (iA z R L nm n rm l g over done) [] (.ci [.one (.d (.bool (ka z L nm rm l g over done).tQ)),dz (ka z L nm rm l g over done).e])
  (iA z R L nm n rm (ka z L nm rm l g over done).l (ka z L nm rm l g over done).g (ka z L nm rm l g over done).over (ka z L nm rm l g over done).done):=
 aic h.cs nm n rm l g over done (fun k aa=>by have:=h.lt k aa;have:=h.aQ;omega) (by have:=h.lu;omega) h.hE h.dj
def jR (z:Nat) (L:List aL) (nm:aC3) (rm a aX:Int) (l:aC4) (g:List (Nat×aC3)) (over:Bool):Ua:=if over=true then⟨0,l,g,true⟩ else if aX < 1 then⟨0,l,g,false⟩ else lA z L nm rm a aX (pf l) l g
theorem ga.air (h:ga z R L nm l g) (rm a aX:Int) (over:Bool):ga z R L nm (jR z L nm rm a aX l g over).l (jR z L nm rm a aX l g over).g:=by
 unfold jR
 split
 .exact h
 .split
  .exact h
  .exact ga.MM rm a aX _ l g h (fun k aa=>(AP l).mem_iff.1 aa) ((AP l).nodup_iff.2 h.hE)
theorem ais (z R:Int) (L:List aL) (nm:aC3) (n rm:Int) (l:aC4) (g:List (Nat×aC3)) (done:Bool) (a aX:Int) (E:aX < 1):Fn Tryz.prog 100 [aq 2001,ab a,ab aX] (iA z R L nm n rm l g false done) [] (ab 0) (iA z R L nm n rm l g false done):=by
 refine aU [] Tryz.func100 ?_;exact dt ⟨fun _=>bg,fun h=>absurd (mu h) ay4⟩
theorem ga.ait (h:ga z R L nm l g) (n rm:Int) (over done:Bool) (a aX:Int) (G:aX<=9223372036854775807):Fn Tryz.prog 100 [aq 2001,ab a,ab aX] (iA z R L nm n rm l g over done) [] (ab (jR z L nm rm a aX l g over).e)
  (iA z R L nm n rm (jR z L nm rm a aX l g over).l (jR z L nm rm a aX l g over).g (jR z L nm rm a aX l g over).over done):=by
 cases over with
 |true=>exact ail z R L nm n rm l g done a aX
 |false=>
  by_cases E:aX < 1
  .have e:jR z L nm rm a aX l g false=⟨0,l,g,false⟩:=(if_neg ay5).trans (if_pos E);rw[e];exact ais z R L nm n rm l g done a aX E
  .have e:jR z L nm rm a aX l g false=lA z L nm rm a aX (pf l) l g:=(if_neg ay5).trans (if_neg E);rw[e];exact aip h.cs nm n rm l g done a aX ay4 G (fun k aa=>by have:=h.lt k aa;have:=h.aQ;omega) h.lu h.hE h.dj
theorem ga.aiu (h:ga z R L nm l g) (n rm:Int) (over:Bool):Fn Tryz.prog 121 [aq 2001] (iA z R L nm n rm l g over true) [] (.ci [.one (.d (.co tY (ou g))),.one (.d (.int .i64 n)),.one (.d (.bool true))]) (iA z R L nm n rm l g over true):=
 aid z R L nm n rm l g over h.DF (fun p ai=>by
  have E:=h.gt p ai;have G:=h.aQ;have af:=jc h.cs.b3;exact⟨ay4,by rw[E.2];omega⟩) (by have:=h.ML;omega)
end
theorem aiv (l:List Int):(m0 l).Pairwise fun a b=>yv a b=true:=
 List.pairwise_mergeSort (le:=yv) (fun a b c E G=>ar0 (Int.le_trans (gd E) (gd G))) (fun a b=>by
  rcases Int.le_total a b with h |h
  .rw[show yv a b=true from ar0 h];rfl
  .rw[show yv b a=true from ar0 h];exact Bool.or_true _) l
theorem Uc {l m:List Int} (ai:m.Perm l) (aw:m.Pairwise fun a b=>yv a b=true):m0 l=m:=
 List.Perm.eq_of_pairwise (fun a b _ _ E G=>Int.le_antisymm (gd E) (gd G)) (aiv l) aw ((DA l).trans ai.symm)
theorem aiw:pf [0,1]=[0,1]:=by
 show(m0 [(0:Int),1]).map Int.toNat=_;rw[Uc (m:=[0,1]) (List.Perm.refl _) ay5];rfl
end
section
section
variable {z R:Nat} {L:List aL} {top base:aC3}
theorem aix {j:Nat} (h:cb z R L) {d:aL} (H:dk L top=some d) (V:j<=cl L top) (fU: ∀i,i < j->eT L (i+1) top≠base) (lU:j=cl L top\/eT L (j+1) top=base):(c4 L (cl L top) top).take j=kv L top base:=by
 have cf:=(h.b5 top).1;have ak:=pO cf;unfold kv;refine(TA _ _ j ay4 (fun i x aF hx=>?_) ?_).symm
 .rw[GZ cf ay4] at hx;injection hx with hx
  subst hx;have:=fU i aF;simp[this]
 .rcases lU with lU |lU
  .exact .inl ay4
  .by_cases c:j=cl L top
   .exact .inl ay4
   .exact .inr ⟨_,GZ cf ay4,by rw[lU];simp⟩
theorem aiy {j:Nat} (h:cb z R L) {d:aL} (H:dk L top=some d) (V:j<=cl L top) (lU:eT L (j+1) top=base):hG L top base=true:=by
 have cf:=(h.b5 top).1;unfold hG;rw[H,Option.isSome_some,Bool.true_and,av5]
 by_cases c:j=cl L top
 .rw[c,L3 h cf ⟨d,H⟩] at lU;exact .inl (ar0 lU.symm)
 .refine .inr (ar0 ?_);have:=GZ cf (i:=j) ay4;rw[lU] at this;exact au5 this
theorem aiz (h:cb z R L) {d:aL} (H:dk L top=some d) (fU: ∀i,i<=cl L top->eT L (i+1) top≠base):hG L top base=false:=by
 have cf:=(h.b5 top).1;unfold hG;rw[H,Option.isSome_some,Bool.true_and,au4];constructor
 .refine at0 fun e=>fU _ (aq0 _) ?_
  rw[L3 h cf ⟨d,H⟩,e]
 .refine at0 fun e=>?_
  obtain⟨i,aF,hx⟩:=aw0 e;have ak:=pO cf;have:=GZ cf (i:=i) ay4;rw[oj aF,hx] at this;injection this with this
  exact fU i ay4 this.symm
abbrev Ud (base:aC3) (a:aC3) (c:Nat):aY:=[(0,aq 1001),(2,bT base),(8,eM c),(9,bT a),(10,ab 0)]
abbrev Ue (z R:Int) (L:List aL) (c:Nat) (x:List aC3):az:=bO z R L++[(c,.row 9 .str x)]
theorem MN (h:cb z R L) {d:aL} (H:dk L top=some d) (base:aC3):Fn Tryz.prog 117 [aq 1001,bT top,bT base] (bO z R L) [] (.ci [.one (.d (.co .str (kv L top base))),.one (.d (.bool (hG L top base)))]) (bO z R L):=by
 have cf:=(h.b5 top).1;have iu:=(h.b5 top).2;have fR:=pO cf;have ht:=fun j V=>L2 h cf ⟨d,H⟩ j V
 have lU:=L3 h cf ⟨d,H⟩
 have tT:fm L top=(eT L 1 top,0):=by
  unfold fm;rw[show eT L 1 top=d.back by rw[Ar];show(match dk L top with |none=>top |some d=>d.back)=_;rw[H],H]
 have i6: ∀j,j < cl L top->fm L (eT L (j+1) top)=(eT L (j+1+1) top,0)/\eT L (j+1) top≠[]:=fun j V=>by
  obtain⟨e,U⟩:=ht (j+1) V;refine⟨?_,Dh h ⟨e,U⟩⟩;unfold fm;rw[Ar L (j+1),U]
 have nb: ∀j,j < cl L top->(c4 L (cl L top) top).take (j+1)=(c4 L (cl L top) top).take j++[eT L (j+1) top]:=fun j V=>GB cf j V
 have jN:=fun j V fU U=>aix (j:=j) (base:=base) h H V fU U
 have MO:=fun j V U=>aiy (j:=j) (base:=base) h H V U
 have aiA:=fun fU=>aiz (base:=base) h H fU
 have zZ:=GQ h top;rw[tT] at zZ;generalize kv L top base=j' at*;generalize hG L top base=sL at*;generalize c4 L (cl L top) top=hH at*;generalize cl L top=tl at*;refine aU [3,5,7] Tryz.func117 ?_;refine av zZ <| d2 [5,7] (X:=Nat) (fun j=>Ud base (eT L (j+1) top) 5002) (fun j=>Ue z R L 5002 (hH.take j)) (fun j=>j<=tl/\ ∀i,i < j->eT L (i+1) top≠base) (fun j=>tl - j) 0 ⟨aq8 _,fun i aF=>absurd aF (ax7 i)⟩ ?_ ?_
 .exact(ac.nil 8 5002 9 .str rfl rfl).trans (ac.sub aC aC)
 rintro j ⟨V,fU⟩;refine fb ⟨fun E=>?_,fun E=>?_⟩
 .have E:(!decide (eT L (j+1) top=base))=true:=E;have E: ¬eT L (j+1) top=base:=aC0
  refine⟨fun G=>?_,fun G=>?_⟩
  .have G:eT L (j+1) top=[]:=gd G
   have DG:j=tl:=by
    rcases Nat.lt_or_ge j tl with bf |bf
    .exact absurd G (i6 j bf).2
    .omega
   have MP:hH.take j=j':=jN j V fU (.inl DG)
   have vS:sL=false:=aiA fun i aF=>by
    rcases Nat.lt_or_ge i j with bf |bf
    .exact fU i bf
    .rw[show i=j by omega];exact E
   exact bu [] (br) <| fb ⟨_,_,_,ac.d0 5002 rfl,rfl,⟨MP,(show decide (eT L (j+1) top=base)=sL by rw[at0 E,vS]),trivial⟩,aC,rfl⟩
  .have G: ¬eT L (j+1) top=[]:=mu G
   have DG:j < tl:=by
    rcases Nat.lt_or_ge j tl with bf |bf
    .exact bf
    .exact absurd (by rw[show j=tl by omega];exact lU) G
   have Uf:=GQ h (eT L (j+1) top);rw[(i6 j DG).1] at Uf;have m:List.length (α:=aC3) (hH.take j)+1<=4294967296:=aA2
   have e:=nb j DG;refine bu [7] (br) ⟨m,rfl,av Uf ⟨j+1,⟨DG,fun i aF=>?_⟩,ay4,?_⟩⟩
   .rcases Nat.lt_or_ge i j with bf |bf
    .exact fU i bf
    .rw[show i=j by omega];exact E
   refine ac.trans (ac.sub (K':=Ud base (eT L (j+1+1) top) 29) (B':=Ue z R L 29 (hH.take (j+1))) aC ⟨rfl,rfl,rfl,rfl,congrArg (fun aB:List aC3=>some (ba.row 9 .str aB)) e.symm,trivial⟩) ?_;exact(ac.aV 29 5002 rfl).trans (ac.sub aC aC)
 .have E:(!decide (eT L (j+1) top=base))=false:=E;have E:eT L (j+1) top=base:=aC0
  have MP:hH.take j=j':=jN j V fU (.inr E);have vS:sL=true:=MO j V E;exact bu [] (br) <| fb ⟨_,_,_,ac.d0 5002 rfl,rfl,⟨MP,(show decide (eT L (j+1) top=base)=sL by rw[ar0 E,vS]),trivial⟩,aC,rfl⟩
abbrev Hf (top base:aC3) (over:Bool):List bB:=[.ptr 1001 0,.d (.str top),.d (.str base),.d (.bool over)]
abbrev pS (z R:Int) (L:List aL) (top base:aC3) (over:Bool):az:=bO z R L++[(2001,.cells (Hf top base over))]
def tZ (L:List aL) (top base:aC3):Int:=if(dk L top).isSome=false then 140 else if hG L top base=false\/kv L top base=[] then 1 else 0
theorem aiB (h:cb z R L) (top base:aC3) (U:tZ L top base≠0):Fn Tryz.prog 73 [aq 1001,bT top,bT base] (bO z R L) [] (.ci [mP,dz (tZ L top base)]) (bO z R L):=by
 unfold tZ at U⊢
 cases H:dk L top with
 |none=>
  rw[if_pos (show(none:Option aL).isSome=false from rfl)];refine aU [] Tryz.func73 ?_;exact av (afp _ _ L top H) bg
 |some d=>
  have bF: ¬(some d).isSome=false:=by simp
  rw[H,if_neg bF] at U;rw[if_neg bF];have O:hG L top base=false\/kv L top base=[]:=av2 fun x=>U (if_neg x)
  rw[if_pos O];have kE:=MN h H base;generalize hG L top base=sL at*;generalize kv L top base=j' at*;refine aU [] Tryz.func73 ?_;refine av (jM _ _ L h.toiP top d H) ⟨fun _ _=>av kE ⟨fun _=>?_,fun E=>?_⟩,fun h=>by cases h⟩
  .exact bg
  .refine⟨fun _=>?_,fun G=>?_⟩
   .exact bg
   .exfalso;have E:(!sL)=false:=E;have G:decide (((j'.length:Nat):Int)=0)=false:=G;have G:=mu G;rcases O with O |O
    .rw[O] at E;cases E
    .rw[O] at G;exact G rfl
theorem aiC (U:tZ L top base=0):(∃d,dk L top=some d)/\hG L top base=true/\kv L top base≠[]:=by
 unfold tZ at U
 split at U
 .exact absurd U ay5
 .rename_i E
  split at U
  .exact absurd U ay5
  .rename_i G;refine⟨at4.1 (by rw[Bool.not_eq_false] at E;exact E),?_,fun e=>G (.inr e)⟩
   cases e:hG L top base with
   |true=>rfl
   |false=>exact absurd (.inl e) G
theorem aiD (h:cb z R L) (top base:aC3) (U:tZ L top base=0):Fn Tryz.prog 73 [aq 1001,bT top,bT base] (bO z R L) [2001] (.ci [.one (.ptr 2001 0),dz 0]) (pS z R L top base false):=by
 obtain⟨⟨d,H⟩,E,G⟩:=aiC U;have kE:=MN h H base;rw[E] at kE;generalize kv L top base=j' at*;refine aU [] Tryz.func73 ?_;refine av (jM _ _ L h.toiP top d H) ⟨fun _ _=>av kE <| dt ⟨fun af=>?_,fun _=>?_⟩,fun h=>by cases h⟩
 .exfalso;have af:decide (((j'.length:Nat):Int)=0)=true:=af;have af:=gd af;exact G (List.length_eq_zero_iff.1 ay4)
 exact⟨rfl,_,_,_,(ac.aV 32 2001 rfl).trans (ac.sJ 2001 (l':=Hf top base false) rfl aC),rfl,aC,aC,rfl⟩
theorem aiE (z R:Int) (L:List aL) (top base:aC3) (over:Bool):Fn Tryz.prog 300 [aq 2001] (pS z R L top base over) [] (fI over) (pS z R L top base over):=by
 refine aU [] Tryz.func300 ?_;exact bg
theorem aiF (z R:Int) (L:List aL) (top base:aC3) (over:Bool):Fn Tryz.prog 299 [aq 2001] (pS z R L top base over) [] gO (pS z R L top base true):=by
 refine aU [] Tryz.func299 ?_;exact⟨_,_,_,ac.sJ 2001 (l':=Hf top base true) rfl aC,rfl,trivial,aC,rfl⟩
theorem Ug (h:cb z R L) (top base:aC3) (over:Bool) (n:aC3) (k:Nat) {e:aL} (U:dk L n=some e):Fn Tryz.prog 304 [bT n,ab (k:Int),aq 3001] (pS z R L top base over++[(3001,.cells [.ptr 2001 0])]) [] (fI (hv L n k)) (pS z R L top base over++[(3001,.cells [.ptr 2001 0])]):=by
 have nr:=(h.gl e (cR U).1).1.eS;have fy:=h.toiP.M (cR U).1;have aiG:hv L n k=(decide (e.im.t.length<=k)||decide ((e.im.t.getD k ck).1=0)):=by unfold hv;rw[U]
 rw[aiG];refine aU [] Tryz.func304 ?_;refine av (jM _ _ L h.toiP n e U) <| av (h5 (np e.im) fy rfl rfl rfl rfl) ⟨fun E=>?_,fun E=>?_⟩
 .have E:((e.im.t.length:Nat):Int)<=(k:Int):=gd E;exact eG br rfl (show true=_ by rw[ar0 (by omega:e.im.t.length<=k)];rfl)
 .have E: ¬((e.im.t.length:Nat):Int)<=(k:Int):=mu E;refine av (h5 (Ak e.im nr k ay4) fy rfl rfl rfl rfl) ?_;exact eG br rfl (show decide ((e.im.t.getD k ck).1=0)=_ by rw[at0 (by omega: ¬e.im.t.length<=k)];rfl)
def pT (L:List aL) (top base:aC3) (over:Bool):Int×Bool:=if over=true then(0,false) else match om L top base with
 |some k=>((k:Int),true)
 |none=>(0,false)
abbrev aiH (l:List aC3) (n k:Nat):aY:=[(1,aq 1),(5,bQ .str l),(7,.c (.one (.cY 304 [.p 1 0]))),(50,ab (n:Int)),(51,ab (k:Int))]
abbrev aiI (l:List aC3) (n k i:Nat):aY:=[(1,aq 1),(5,bQ .str l),(7,.c (.one (.cY 304 [.p 1 0]))),(50,ab (n:Int)),(51,ab (k:Int)),(8,ab (k:Int)),(54,bQ .str l),(55,ab (l.length:Nat)),(56,ab (i:Int))]
abbrev Hg (z R:Int) (L:List aL) (top base:aC3) (over:Bool):az:=pS z R L top base over++[(1,.cells [.ptr 2001 0])]
theorem aiJ {α:Type} (p:α->Bool) {l:List α} {i:Nat} (h:i < l.length) (au:(l.take i).any p=false) (E:p l[i]=false):(l.take (i+1)).any p=false:=by
 rw[List.take_add_one,oj h,List.any_append,au];show(false||(p l[i]||false))=false;rw[E];rfl
theorem aiK (h:cb z R L) (base:aC3) (over:Bool) {d:aL} (H:dk L top=some d):Fn Tryz.prog 302 [aq 2001] (pS z R L top base over) [] (.ci [.one (.d (.int .i64 (pT L top base over).1)),.one (.d (.bool (pT L top base over).2))]) (pS z R L top base over):=by
 have kE:=MN h H base;have nr:=(h.gl d (cR H).1).1.eS;have fy:=h.toiP.M (cR H).1;have cC:b4 L top=d.im.t.length:=az9
 have SZ:(kv L top base).length<=16:=by
  have E:(kv L top base).length<=(c4 L (cl L top) top).length:=(List.takeWhile_sublist _).length_le;rw[pO (h.b5 top).1] at E;have:=(h.b5 top).2;omega
 have ht: ∀n,n∈kv L top base-> ∃e,dk L n=some e:=fun n hn=>(TC h H n hn).2
 have bl: ∀k,pR L top base k=(hv L top k&&(kv L top base).any fun n=> !hv L n k):=fun k=>rfl
 have aiL:over=true->pT L top base over=(0,false):=fun e=>if_pos e
 have aiM:over=false->hG L top base=false->pT L top base over=(0,false):=fun ae ao=>by
  unfold pT om;rw[ae,ao];rfl
 have aiN:over=false->hG L top base=true-> ∀k,k < b4 L top->pR L top base k=true->(∀j,j < k->pR L top base j=false)->pT L top base over=((k:Int),true):=fun ae ao k aa ai hn=>by
  unfold pT om;rw[ae,if_neg ay5,if_pos ao,List.find?_range_eq_some.2 ⟨ai,List.mem_range.2 aa,fun j V=>by simp[hn j V]⟩]
 have aiO:over=false->(∀k,k < b4 L top->pR L top base k=false)->pT L top base over=(0,false):=fun ae hn=>by
  unfold pT;rw[ae,if_neg ay5,ahn hn]
 have G4:=fun k=>Ug h top base over top k H
 have aiP:=fun n (hn:n∈kv L top base) k=>Ug h top base over n k (ht n hn).choose_spec
 generalize pT L top base over=Uh at*;generalize hG L top base=sL at*;generalize kv L top base=j' at*;generalize b4 L top=n at*;subst cC;refine aU [5] Tryz.func302 ?_;refine⟨rfl,av (jM _ _ L h.toiP top d H) ⟨rfl,av kE ⟨rfl,fun ah=>?_,fun ah=>?_⟩⟩⟩
 .have e:=aiL ah;exact eG br rfl ⟨congrArg Prod.fst e.symm,congrArg Prod.snd e.symm,trivial⟩
 have ah:over=false:=ah;refine⟨fun _ _=>⟨fun aF=>?_,fun aF=>?_⟩,fun h=>by cases h⟩
 .have aF:sL=false:=by
   have aF:(!sL)=true:=aF;simpa using aF
  have e:=aiM ah aF;exact eG br rfl ⟨congrArg Prod.fst e.symm,congrArg Prod.snd e.symm,trivial⟩
 have aF:sL=true:=by
  have aF:(!sL)=false:=aF;simpa using aF
 refine bu [] (cM [(1,aq 1),(4,dr d.am),(5,bQ .str j')] (Hg z R L top base over)) <| av (h5 (np d.im) fy rfl rfl rfl rfl) <| d2 [16] (X:=Nat) (aiH j' d.im.t.length) (fun _=>Hg z R L top base over) (fun k=>k<=d.im.t.length/\ ∀j,j < k->pR L top base j=false) (fun k=>d.im.t.length - k) 0 ⟨aq8 _,fun j V=>absurd V (ax7 j)⟩ ?_ ?_
 .exact ac.sub aC aC
 rintro k ⟨aa,fU⟩;have aa:k<=d.im.t.length:=aa;refine⟨fun J=>?_,fun J=>?_⟩
 .have J:decide ((k:Int) < ((d.im.t.length:Nat):Int))=true:=J;have ct:k < d.im.t.length:=aA7
  refine d2 [12,16] (X:=Nat) (aiI j' d.im.t.length k) (fun _=>Hg z R L top base over) (fun i=>i<=j'.length/\(hv L top k&&(j'.take i).any fun n=> !hv L n k)=false) (fun i=>j'.length - i) 0 ⟨aq8 _,Bool.and_false _⟩ ?_ ?_
  .exact ac.sub aC aC
  rintro i ⟨d1,pU⟩;have d1:i<=j'.length:=d1;refine⟨fun J=>?_,fun J=>?_⟩
  .have J:decide ((i:Int) < ((j'.length:Nat):Int))=true:=J;have wP:i < j'.length:=aA7
   have bf:=aiP _ (as3 wP) k;have jN:=fun(a:(j'.take i).any (fun n=> !hv L n k)=false) (b:(!hv L j'[i] k)=false)=>aiJ (fun n=> !hv L n k) wP a b
   have lm:=as3 wP;have mG:=jJ (n:=i) wP;generalize j'[i]=nm at*;refine⟨ay4,nm,mG,bu [16] (cM [(1,aq 1),(5,bQ .str j'),(7,.c (.one (.cY 304 [.p 1 0]))),(50,ab (d.im.t.length:Nat)),(51,ab (k:Int)),(8,ab (k:Int)),(54,bQ .str j'),(55,ab (j'.length:Nat)),(56,ab (i:Int)),(10,bT nm)] (Hg z R L top base over)) <| av (Fn.aV [(3001,1)] (G4 k)) ⟨fun g1=>?_,fun g1=>?_⟩⟩
   .have g1:hv L top k=true:=g1;refine av (Fn.aV [(3001,1)] bf) ⟨fun g2=>?_,fun g2=>?_⟩
    .have g2:(!hv L nm k)=true:=g2
     have Dl:pR L top base k=true:=by
      rw[bl,g1,Bool.true_and,List.any_eq_true];exact⟨nm,lm,g2⟩
     have e:=aiN ah aF k ct Dl fU;exact eG br rfl ⟨congrArg Prod.fst e.symm,congrArg Prod.snd e.symm,trivial⟩
    .have g2:(!hv L nm k)=false:=g2;rw[g1,Bool.true_and] at pU;exact⟨ay4,i+1,⟨wP,by rw[g1,Bool.true_and];exact jN pU g2⟩,ay4,ac.sub aC aC⟩
   .have g1:hv L top k=false:=g1;exact⟨ay4,i+1,⟨wP,by rw[g1];rfl⟩,ay4,ac.sub aC aC⟩
  .have J:decide ((i:Int) < ((j'.length:Nat):Int))=false:=J;have wP:i=j'.length:=aA4
   have Dl:pR L top base k=false:=by
    rw[bl,<-pU,wP,ar9]
   exact⟨ay4,k+1,⟨ct,fun j V=>by
    rcases Nat.lt_or_ge j k with bf |bf
    .exact fU j bf
    .rw[show j=k by omega];exact Dl⟩,ay4,ac.sub aC aC⟩
 .have J:decide ((k:Int) < ((d.im.t.length:Nat):Int))=false:=J;have eD:k=d.im.t.length:=aA4
  have e:=aiO ah fun j V=>fU j ay4
  exact eG br rfl ⟨congrArg Prod.fst e.symm,congrArg Prod.snd e.symm,trivial⟩
theorem aiQ (h:cb z R L) (base:aC3) (over:Bool) {d:aL} (H:dk L top=some d):Fn Tryz.prog 301 [aq 2001] (pS z R L top base over) [] (.ci [.one (.d (.bool (hS z L top base over).done)),dz (hS z L top base over).e]) (pS z R (hS z L top base over).L top base (hS z L top base over).over):=by
 have vh:=aiK h base over H;have nr:=(h.gl d (cR H).1).1.eS;have fy:=h.toiP.M (cR H).1;have kE:d.im.z=z:=(h.gl d (cR H).1).2.1;have yt:=h.b3;have ai:=jc h.b3
 cases over with
 |true=>
  have e:hS z L top base true=⟨false,160,L,true⟩:=rfl;rw[e];refine aU [] Tryz.func301 ?_;exact av (jM _ _ L h.toiP top d H) ⟨rfl,fb bg⟩
 |false=>
  have bF:hS z L top base false=match om L top base with
   |some k=>⟨false,(fe z L top ((k*2 ^z:Nat):Int) (gy z L top (k:Int))).e,(fe z L top ((k*2 ^z:Nat):Int) (gy z L top (k:Int))).L,false⟩
   |none=>⟨decide ((h8 L top base).e=0),(h8 L top base).e,(h8 L top base).L,decide ((h8 L top base).e=0)⟩:=by
   unfold hS;rw[H];rfl
  cases hn:om L top base with
  |some k=>
   rw[hn] at bF;have bF:hS z L top base false=⟨false,(fe z L top ((k*2 ^z:Nat):Int) (gy z L top (k:Int))).e,(fe z L top ((k*2 ^z:Nat):Int) (gy z L top (k:Int))).L,false⟩:=bF;rw[bF]
   have J:pT L top base false=((k:Int),true):=by
    unfold pT;rw[hn];rfl
   rw[J] at vh
   have aa:k < d.im.t.length:=by
    have:=(TQ hn).2.1;unfold b4 at this;rw[H] at this;exact this
   have Ui:(k:Int)*((2 ^((d.im.z:Nat):Int).toNat:Nat):Int)=((k*2 ^z:Nat):Int):=by
    rw[kE];show(k:Int)*((2 ^z:Nat):Int)=_;rw[Int.natCast_mul]
   have dH:=L1 h top (k:Int)
   have bV:(gy z L top (k:Int)).length<=1000000000:=by
    have:gy z L top (k:Int)=fu z L top (cl L top) k:=by
     unfold gy;rw[H];simp only;rw[if_pos ⟨ay4,ay4⟩];rfl
    rw[this,yf h.tont H (h.b5 top).1 k];omega
   have G7:=LX h top ((k*2 ^z:Nat):Int) (gy z L top (k:Int)) bV;rw[<-Ui] at G7⊢;generalize gy z L top (k:Int)=x at*;generalize fe z L top ((k:Int)*((2 ^((d.im.z:Nat):Int).toNat:Nat):Int)) x=aqs at*;have m1:(0:Int)<=(k:Int)/\(0:Int)<=((d.im.z:Nat):Int)/\((d.im.z:Nat):Int)<=64:=az2
   have mk:k*2 ^z<=256*8:=av1 ay4 ai.2;have m2:c1 ((k:Int)*((2 ^((d.im.z:Nat):Int).toNat:Nat):Int)):=by rw[Ui];omega
   refine aU [6] Tryz.func301 ?_;exact av (jM _ _ L h.toiP top d H) ⟨rfl,dt ⟨fun _ _=>av vh ⟨fun _=>bu [] (cM [(0,aq 2001),(4,dr d.am),(5,ab (k:Int))] (pS z R L top base false)) <| av (h5 (wN d.im) fy rfl rfl rfl rfl) ⟨m1,m2,av dH <| av G7 ⟨rfl,bg⟩⟩,fun h=>absurd (show true=false from h) ay5⟩,fun h=>by cases h⟩⟩
  |none=>
   rw[hn] at bF;have bF:hS z L top base false=⟨decide ((h8 L top base).e=0),(h8 L top base).e,(h8 L top base).L,decide ((h8 L top base).e=0)⟩:=bF;rw[bF]
   have J:pT L top base false=(0,false):=by
    unfold pT;rw[hn];rfl
   rw[J] at vh;have yy:=agV h top base;generalize h8 L top base=aqt at*;refine aU [7] Tryz.func301 ?_;exact av (jM _ _ L h.toiP top d H) ⟨rfl,dt ⟨fun _ _=>av vh <| dt <| bu [] (cM [(0,aq 2001)] (pS z R L top base false)) <| av yy ⟨rfl,bg⟩,fun h=>by cases h⟩⟩
end
end
section
section
variable {P:Program} {ids:aC4} {K:aY} {B:az}
theorem aiR {o:Oper} {T:TypeId} {x v:Operand} {c i off:Nat} {e:TypeId} {u:bz} {xs:List (Z u)} {y y':Z u} {Hh:D} {c8:TypeInfo} (ah:o.op= .store T x v) (aF:P.info? T=some c8) (aN:c8.size=1) (hx:a2 K x= .c (.one (.gc c (aQ u) i off)))
  (ay:a2 K v= .c (.one (.d Hh))) (c5:ag B c=some (.row e u xs)) (aD:fE xs i=some y) (sA:off < aQ u) (nn:oK u y') (J: ∀j,j < aQ u->fD u y' j=if j=off then Hh else fD u y j)
  (E: ∀{I:Nat->Prop} {w:World} {aB:Value},gK I w Hh aB->aB.cells=List.toArray [aB]/\aB.oneCell'=true) (N:Nat):
  bA P N ids o K B .undef ⟨[c],[],[(c,some (.row e u (xs.set i y')))]⟩:=by
 have m1:x∈o.op.operands:=az1
 have m2:v∈o.op.operands:=az1
 have wQ:i < xs.length:=BA aD;refine bA.hI c5 fun K' B' g1 C ρ F a w aj ar gf=>?_
 obtain⟨bh,jh,cs,dw,ji⟩:=aj.holds c _ gf;have Jt:=ar.gc ((g1 x m1).trans hx);have ao:gK (bX C B' F w) w Hh (a.eval v):=ar.ev ((g1 v m2).trans ay);obtain⟨hJ,jj⟩:=E ao;obtain⟨qc,dw⟩:=dw;rcases dw with⟨_,au⟩ |⟨g,cap,c9,oT,_,aZ,xw,aA,cC,cq⟩
 .omega
 .have zv:g=(ρ c).bk:=jh g (by rw[oT];rfl);subst zv
  have Uj:i*aQ u+off < xs.length*aQ u:=by
   have:=au8 (aQ u) wQ;rw[aw4] at this;omega
  have aqu:xs.length*aQ u<=cap*aQ u:=au8 _ xw;have uw:w.heap[(ρ c).bk]? =some (.cells (List.toArray c9.toList) e (0,0)):=by simpa using aZ
  have kl:i*aQ u+off+ [a.eval v].length<=c9.toList.length:=az8
  have ux:=BN (P:=P) (ev:=a.eval) (w:=w) ah Jt hJ aF aN uw kl (by simpa using jj);refine⟨_,ux,E7 ((bh _).2 (by rw[oT];rfl)),fun I U=>?_⟩;have oU:=setRow_heap w (ρ c).bk c9 (List.take (i*aQ u+off) c9.toList++[a.eval v]++List.drop (i*aQ u+off+ [a.eval v].length) c9.toList).toArray e (0,0) aZ
  have gV:(List.take (i*aQ u+off) c9.toList++[a.eval v]++List.drop (i*aQ u+off+ [a.eval v].length) c9.toList)=c9.toList.set (i*aQ u+off) (a.eval v):=by
   rw[List.set_eq_take_append_cons_drop,if_pos az8];simp
  rw[gV] at oU;refine⟨bh,jh,cs.set (i*aQ u+off) (a.eval v),⟨by simp[qc],.inr ⟨(ρ c).bk,cap,_,by rw[oT];simp,aq8 _,by rw[gV];exact oU,by simpa using xw,aA,by simp[cC],?_⟩⟩,fun j aB aN=>?_⟩
  .rw[<-cq];simp[List.take_set]
  .by_cases k8:i=j
   .subst k8;rw[av0 wQ] at aN;injection aN with aN
    subst aN;have H:=ji i y aD;refine cu.mk u y' _ nn fun q aT=>?_
    rw[J q aT]
    by_cases Cr:q=off
    .rw[if_pos Cr];subst Cr;exact⟨a.eval v,by rw[av0 ay4],gK.mono U _ _ ao⟩
    .rw[if_neg Cr];obtain⟨x,hx,py⟩:=cu.cell u y _ q H aT;exact⟨x,by rw[au3 ay4];exact hx,gK.mono U _ _ py⟩
   .rw[au3 k8] at aN;have H:=ji j aB aN;refine cu.mk u aB _ (cu.wf u aB _ H) fun q aT=>?_
    obtain⟨x,hx,py⟩:=cu.cell u aB _ q H aT;refine⟨x,?_,gK.mono U _ _ py⟩;rw[au3 ?_]
    .exact hx
    .intro e;have E:(i*aQ u+off)/aQ u=i:=by rw[Nat.mul_comm,Nat.mul_add_div ay4,Nat.div_eq_of_lt sA,aw3]
     have G:(j*aQ u+q)/aQ u=j:=by rw[Nat.mul_comm,Nat.mul_add_div ay4,Nat.div_eq_of_lt aT,aw3]
     rw[e,G] at E;exact k8 E.symm
end
theorem aiS {I:Nat->Prop} {w:World} {n:Int} {aB:Value} (h:gK I w (.int .i64 n) aB):aB.cells=List.toArray [aB]/\aB.oneCell'=true:=by
 have h:aB= .int .i64 n:=h;subst h;exact⟨rfl,rfl⟩
theorem aiT:(Tryz.prog.info? 3).map (·.size)=some 1:=by kernel_rfl
abbrev hT:bz:=.bP al (.bP al al)
abbrev dR:=Int×Int×Int
abbrev aiU (x:dR):List bB:=[.d (.int .i64 x.1),.d (.int .i64 x.2.1),.d (.int .i64 x.2.2)]
def g3 (l:List dR):Int:=match l.getLast? with
 |none=>0
 |some x=>x.1+x.2.1
def ml (l:List dR) (n k:Int):List dR:=if n < 1 then l else match l.getLast? with
 |some x=>if x.2.2=k then l.set (l.length - 1) (x.1,x.2.1+n,x.2.2) else l++[(g3 l,n,k)]
 |none=>l++[(g3 l,n,k)]
theorem AQ {α:Type} {l:List α} {x:α} (h:l.getLast? =some x):0 < l.length/\fE l (l.length - 1)=some x:=by
 rw[List.getLast?_eq_getElem?] at h;exact⟨by have:=(aq7.1 h).1;omega,h⟩
theorem MQ {α:Type} {l:List α} (h:l.getLast? =none):l=[]:=az3
theorem aiV (l:List dR) (O: ∀x,l.getLast? =some x-> -4611686018427387904<=x.1/\x.1<=4611686018427387903/\ -4611686018427387904<=x.2.1/\x.2.1<=4611686018427387903) (ak:l.length<=4294967296):
  Fn Tryz.prog 261 [eM 1001] [(1001,.row 293 hT l)] [] (ab (g3 l)) [(1001,.row 293 hT l)]:=by
 refine aU [] Tryz.func261 ?_;refine⟨fun h=>?_,fun h=>?_⟩
 .have h:((l.length:Nat):Int)=0:=gd h;have au:l=[]:=List.length_eq_zero_iff.1 ay4;subst au;exact bg
 .have h: ¬((l.length:Nat):Int)=0:=mu h
  cases hx:l.getLast? with
  |none=>rw[MQ hx] at h;exact absurd rfl h
  |some x=>
   have O:=O x hx;obtain⟨au,aZ⟩:=AQ hx;have e:(((l.length:Nat):Int) - 1).toNat=l.length - 1:=az2
   have m:c1 (((l.length:Nat):Int) - 1):=az2
   have m2:(0:Int)<=((l.length:Nat):Int) - 1/\(((l.length:Nat):Int) - 1).toNat < l.length:=az2
   have m3:c1 (x.1+x.2.1):=az2
   have ry:fE l (((l.length:Nat):Int) - 1).toNat=some x:=by rw[e];exact aZ
   refine⟨m,⟨m2.1,ay4⟩,x,ry,m,⟨m2.1,ay4⟩,x,ry,m3,rfl,?_⟩;exact eG br rfl (show x.1+x.2.1=g3 l by unfold g3;rw[hx])
theorem Uk (l:List dR) (n k:Int) (O: ∀x,l.getLast? =some x-> -4611686018427387904<=x.1/\x.1<=4611686018427387903/\ -4611686018427387904<=x.2.1/\x.2.1<=4611686018427387903) (hn:n<=4611686018427387903) (ak:l.length<=1000000000):
  Fn Tryz.prog 234 [eM 1001,ab n,ab k] [(1001,.row 293 hT l)] [1002] (eM 1002) [(1002,.row 293 hT (ml l n k))]:=by
 obtain⟨ii,aiW,aiX⟩:=ku aiT;have lU:=aiV l O ay4;refine aU [] Tryz.func234 ?_;refine⟨fun h=>?_,fun h=>?_⟩
 .have h:n < 1:=gd h;have e:ml l n k=l:=if_pos h;exact⟨_,_,_,ac.aV 1001 1002 rfl,rfl,rfl,⟨congrArg (fun aB:List dR=>some (ba.row 293 hT aB)) e.symm,trivial⟩,rfl⟩
 have h: ¬n < 1:=mu h;have m:c1 (((l.length:Nat):Int) - 1):=az2
 refine⟨m,?_⟩
 cases hx:l.getLast? with
 |none=>
  have au:=MQ hx;subst au;refine⟨fun G=>absurd G ay5,fun _=>av lU ⟨(show(0+1:Nat)<=4294967296 from by decide),rfl,?_⟩⟩;have e:ml [] n k=[(g3 [],n,k)]:=by unfold ml;rw[if_neg h];rfl
  exact⟨_,_,_,ac.aV 42 1002 rfl,rfl,rfl,⟨congrArg (fun aB:List dR=>some (ba.row 293 hT aB)) e.symm,trivial⟩,rfl⟩
 |some x=>
  have O:=O x hx;obtain⟨au,aZ⟩:=AQ hx;have e:(((l.length:Nat):Int) - 1).toNat=l.length - 1:=az2
  have ry:fE l (((l.length:Nat):Int) - 1).toNat=some x:=by rw[e];exact aZ
  have m2:(0:Int)<=((l.length:Nat):Int) - 1/\((l.length:Nat):Int) - 1 < l.length:=az2
  refine⟨fun _=>?_,fun G=>?_⟩
  .refine⟨m2,x,ry,fun aa=>?_,fun aa=>?_⟩
   .have aa:x.2.2=k:=gd aa;have m3:c1 (x.2.1+n):=az2
    refine⟨m2,x,ry,m3,m2,_,_,fun N=>aiR (u:=hT) (y:=x) (y':=((x.1,x.2.1+n,x.2.2):dR)) (off:=1) rfl aiW aiX rfl rfl rfl ry ay5 ⟨trivial,trivial,trivial⟩ (fun j V=>?_) aiS N,rfl,?_⟩
    .match j,V with
     |0,_=>rfl
     |1,_=>rfl
     |2,_=>rfl
    have ao:ml l n k=l.set (((l.length:Nat):Int) - 1).toNat (x.1,x.2.1+n,x.2.2):=by
     unfold ml;rw[if_neg h,hx,e];show(if x.2.2=k then _ else _)=_;rw[if_pos aa]
    exact⟨_,_,_,ac.aV 1001 1002 rfl,rfl,rfl,⟨congrArg (fun aB:List dR=>some (ba.row 293 hT aB)) ao.symm,trivial⟩,rfl⟩
   .have aa: ¬x.2.2=k:=mu aa;refine av lU ?_;have jr:List.length (α:=dR) l+1<=4294967296:=az2
    refine⟨jr,rfl,?_⟩
    have ao:ml l n k=l++[(g3 l,n,k)]:=by
     unfold ml;rw[if_neg h,hx];show(if x.2.2=k then _ else _)=_;rw[if_neg aa]
    exact⟨_,_,_,ac.aV 42 1002 rfl,rfl,rfl,⟨congrArg (fun aB:List dR=>some (ba.row 293 hT aB)) ao.symm,trivial⟩,rfl⟩
  .have G: ¬((l.length:Nat):Int) - 1≥0:=mu G;omega
def nx (ks:List Int):List dR:=ks.foldl (fun l k=>ml l 1 k) []
structure yz (ks:List Int) (l:List dR):Prop where
 DH:g3 l=(ks.length:Int)
 Hi: ∀x,x∈l->0<=x.1/\1<=x.2.1/\x.1+x.2.1<=(ks.length:Int)/\ ∀k:Nat,x.1<=(k:Int)->(k:Int) < x.1+x.2.1->ks[k]? =some x.2.2
 len:l.length<=ks.length
theorem aiY (l:List dR) (x:dR):g3 (l++[x])=x.1+x.2.1:=by
 unfold g3;rw[List.getLast?_concat]
theorem yz.add {ks:List Int} {l:List dR} (h:yz ks l) (k:Int):yz (ks++[k]) (ml l 1 k):=by
 have mM: ∀x,x∈l->0<=x.1/\1<=x.2.1/\x.1+x.2.1<=((ks++[k]).length:Int)/\ ∀j:Nat,x.1<=(j:Int)->(j:Int) < x.1+x.2.1->(ks++[k])[j]? =some x.2.2:=fun x hx=>by
  obtain⟨E,G,af,aW⟩:=h.Hi x hx;refine⟨E,G,by rw[aq1];simp;omega,fun j eO ft=>?_⟩;rw[as6 ay4];exact aW j eO ft
 have oU:yz (ks++[k]) (l++[(g3 l,1,k)]):=by
  refine⟨?_,fun x hx=>?_,by simp;exact h.len⟩
  .rw[aiY,h.DH,aq1];simp
  .rcases as1.1 hx with hx |hx
   .exact mM x hx
   .rw[ar5] at hx;subst hx;refine⟨by show 0<=g3 l;rw[h.DH];omega,(show(1:Int)<=1 from by decide),by show g3 l+1<=_;rw[h.DH,aq1];simp,fun j eO ft=>?_⟩;have eO:g3 l<=(j:Int):=eO;have ft:(j:Int) < g3 l+1:=ft;rw[h.DH] at eO ft;have:j=ks.length:=az2
    subst this;rw[at1 (aq0 _)];simp
 unfold ml;rw[if_neg ay5]
 cases hx:l.getLast? with
 |none=>exact oU
 |some x=>
  simp only
  split
  .rename_i aa;obtain⟨au,aZ⟩:=AQ hx;have Hj:x∈l:=au5 aZ;have lU:x.1+x.2.1=(ks.length:Int):=by have:=h.DH;unfold g3 at this;rw[hx] at this;exact this
   obtain⟨E,G,af,aW⟩:=h.Hi x Hj;refine⟨?_,fun y aD=>?_,by rw[av3,aq1];have:=h.len;omega⟩
   .unfold g3;rw[List.getLast?_eq_getElem?,av3,av0 ay4];show x.1+(x.2.1+1)=_;rw[aq1];simp;omega
   .rcases List.mem_or_eq_of_mem_set aD with aD |rfl
    .exact mM y aD
    .refine⟨E,by show 1<=x.2.1+1;omega,by show x.1+(x.2.1+1)<=_;rw[aq1];simp;omega,fun j eO ft=>?_⟩;have eO:x.1<=(j:Int):=eO;have ft:(j:Int) < x.1+(x.2.1+1):=ft;show(ks++[k])[j]? =some x.2.2
     by_cases V:(j:Int) < x.1+x.2.1
     .rw[as6 ay4];exact aW j eO V
     .have:j=ks.length:=az2
      subst this;rw[at1 (aq0 _),aa];simp
  .exact oU
theorem Ul (ks:List Int) (k:Int):nx (ks++[k])=ml (nx ks) 1 k:=by
 unfold nx;rw[ax5];rfl
theorem Um (ks:List Int):yz ks (nx ks):=by
 have key: ∀n,n<=ks.length->yz (ks.take n) (nx (ks.take n)):=fun n=>by
  induction n with
  |zero=>intro _;exact⟨rfl,(fun _ h=>by cases h),aq0 _⟩
  |succ n bq=>
   intro hn;rw[List.take_add_one,oj ay4];show yz (ks.take n++[ks[n]]) (nx (ks.take n++[ks[n]]));rw[Ul];exact(bq ay4).add _
 have:=key ks.length (aq0 _)
 rwa[ar9] at this
abbrev aiZ (ks:List Int) (j:Nat):aY:=[(3,eM 5002),(9,bQ al ks),(10,ab (ks.length:Nat)),(11,ab (j:Nat))]
theorem ai0 (ks:List Int) (aa:ks.length<=65536):Fn Tryz.prog 212 [bQ al ks] [] [] (bQ hT (nx ks)) []:=by
 refine aU [] Tryz.func212 ?_;refine⟨fun h=>?_,fun _=>?_⟩
 .exfalso;have h:(65536:Int) < ((ks.length:Nat):Int):=gd h;omega
 refine d2 [] (X:=Nat) (aiZ ks) (fun j=>[(5002,.row 293 hT (nx (ks.take j)))]) (fun j=>j<=ks.length) (fun j=>ks.length - j) 0 (aq8 _) ?_ ?_
 .exact(ac.nil 3 5002 293 hT rfl rfl).trans (ac.sub aC aC)
 intro j V;refine⟨fun J=>?_,fun J=>?_⟩
 .have J:decide ((j:Int) < ((ks.length:Nat):Int))=true:=J;have eO:j < ks.length:=aA7
  have bv:=Um (ks.take j);have bt:(ks.take j).length=j:=aA2
  have vh:nx (ks.take (j+1))=ml (nx (ks.take j)) 1 ks[j]:=by
   rw[List.take_add_one,oj eO];exact Ul _ _
  refine⟨ay4,ks[j],jJ (n:=j) eO,?_⟩;refine av (Fn.aV [(1001,5002)] (Uk (nx (ks.take j)) 1 ks[j] (fun x hx=>?_) ay5 (by have:=bv.len;omega))) ?_
  .have:=bv.Hi x (au5 (AQ hx).2);omega
  exact⟨ay4,j+1,eO,ay4,ac.trans (ac.sub (K':=[(3,eM 1002),(9,bQ al ks),(10,ab (ks.length:Nat)),(11,ab ((j+1:Nat):Int))]) (B':=[(1002,.row 293 hT (nx (ks.take (j+1))))]) aC ⟨congrArg (fun aB:List dR=>some (ba.row 293 hT aB)) vh.symm,trivial⟩) ((ac.aV 1002 5002 rfl).trans (ac.sub aC aC))⟩
 .have J:decide ((j:Int) < ((ks.length:Nat):Int))=false:=J;have ft:j=ks.length:=aA4
  subst ft;exact⟨_,_,_,ac.d0 5002 rfl,rfl,(show nx (ks.take ks.length)=nx ks by rw[ar9]),trivial,rfl⟩
section
variable {z R:Nat} {L:List aL}
end
end
section
def mm:Int->List dR->Bool
 |_,[]=>true
 |n,x::l=>if x.1=n/\1<=x.2.1/\x.2.1<=65536 - n then mm (n+x.2.1) l else false
theorem ai1 (n:Int) (x:dR) (l:List dR):mm n (x::l)=if x.1=n/\1<=x.2.1/\x.2.1<=65536 - n then mm (n+x.2.1) l else false:=rfl
theorem AR: ∀{l:List dR} {n:Int} {x:dR},mm n l=true->0<=n->l.getLast? =some x->0<=x.1/\1<=x.2.1/\x.1+x.2.1<=65536
 | [],_,_,_,_,h=>by cases h
 |y::l,n,x,h,hn,hx=>by
  unfold mm at h
  split at h
  .rename_i J
   cases l with
   |nil=>
    simp at hx;subst hx;omega
   |cons aB l=>
    rw[List.getLast?_cons_cons] at hx;exact AR h ay4 hx
  .cases h
theorem MR: ∀{l:List dR} {n:Int},mm n l=true->0<=n-> ∀x,x∈l->n<=x.1/\1<=x.2.1/\x.1+x.2.1<=65536
 | [],_,_,_,x,hx=>by cases hx
 |y::l,n,h,hn,x,hx=>by
  unfold mm at h
  split at h
  .rename_i J;rcases aq5.1 hx with rfl |hx
   .omega
   .have:=MR h ay4 x hx;omega
  .cases h
abbrev ai2 (l:List dR) (n:Int) (i:Nat):aY:=[(3,ab n),(6,bQ hT l),(7,ab (l.length:Nat)),(8,ab (i:Nat))]
theorem MS (l:List dR) (ak:l.length<=1000000000) (eb: ∀x,x∈l-> -4611686018427387904<=x.2.1/\x.2.1<=4611686018427387903):Fn Tryz.prog 260 [bQ hT l] [] [] (fI (mm 0 l)) []:=by
 refine aU [] Tryz.func260 ?_;refine d2 [] (X:=Int×Nat) (fun x=>ai2 l x.1 x.2) (fun _=>[]) (fun x=>x.2<=l.length/\(0<=x.1/\x.1<=65536)/\mm x.1 (l.drop x.2)=mm 0 l) (fun x=>l.length - x.2) (0,0) ⟨aq8 _,⟨Int.le_refl 0,ay4⟩,rfl⟩ ?_ ?_
 .exact ac.sub aC trivial
 rintro⟨n,i⟩ ⟨aF,hn,ax⟩;have aF:i<=l.length:=aF;have hn:0<=n/\n<=65536:=hn;have ax:mm n (l.drop i)=mm 0 l:=ax;refine⟨fun J=>?_,fun J=>?_⟩
 .have J:decide ((i:Int) < ((l.length:Nat):Int))=true:=J;have d1:i < l.length:=aA7
  have aZ:=jJ (n:=i) d1;have H:l.drop i=l[i]::l.drop (i+1):=av6 d1;have hx:=eb _ (as3 d1);rw[H] at ax;generalize l[i]=x at*;rw[ai1] at ax;have m1:(0:Int)<=(i:Int):=az2
  refine⟨m1,x,aZ,rfl,fun E=>?_,fun E=>?_⟩
  .have E:(!decide (x.1=n))=true:=E;have E: ¬x.1=n:=aC0
   rw[if_neg (fun h=>E h.1)] at ax;exact eG br rfl ax
  have E:(!decide (x.1=n))=false:=E;have E:x.1=n:=aC0
  refine⟨fun G=>?_,fun G=>?_⟩
  .have G:x.2.1 < 1:=gd G;rw[if_neg (fun h=>by omega)] at ax;exact eG br rfl ax
  have G: ¬x.2.1 < 1:=mu G;have m2:c1 (65536 - n):=az2
  refine⟨m2,fun af=>?_,fun af=>?_⟩
  .have af:65536 - n < x.2.1:=gd af;rw[if_neg (fun h=>by omega)] at ax;exact eG br rfl ax
  have af: ¬65536 - n < x.2.1:=mu af;rw[if_pos ⟨E,ay4,ay4⟩] at ax;have m3:c1 (n+x.2.1):=az2
  have jr:c1 ((i:Int)+1):=az2
  refine⟨m3,jr,?_⟩;exact⟨(n+x.2.1,i+1),⟨d1,(by show 0<=n+x.2.1/\n+x.2.1<=65536;omega),ax⟩,(by show l.length - (i+1) < l.length - i;omega),ac.sub aC trivial⟩
 .have J:decide ((i:Int) < ((l.length:Nat):Int))=false:=J;have pU:i=l.length:=aA4
  subst pU;rw[List.drop_length] at ax;exact eG br rfl ax
theorem MT (l:List dR) (O: ∀x,l.getLast? =some x-> -4611686018427387904<=x.1/\x.1<=4611686018427387903/\ -4611686018427387904<=x.2.1/\x.2.1<=4611686018427387903) (ak:l.length<=4294967296):
  Fn Tryz.prog 261 [bQ hT l] [] [] (ab (g3 l)) []:=by
 refine aU [] Tryz.func261 ?_;refine⟨fun h=>?_,fun h=>?_⟩
 .have h:((l.length:Nat):Int)=0:=gd h;have au:l=[]:=List.length_eq_zero_iff.1 ay4;subst au;exact bg
 .have h: ¬((l.length:Nat):Int)=0:=mu h
  cases hx:l.getLast? with
  |none=>rw[MQ hx] at h;exact absurd rfl h
  |some x=>
   have O:=O x hx;obtain⟨au,aZ⟩:=AQ hx;have e:(((l.length:Nat):Int) - 1).toNat=l.length - 1:=az2
   have m:c1 (((l.length:Nat):Int) - 1):=az2
   have m2:(0:Int)<=((l.length:Nat):Int) - 1:=az2
   have m3:c1 (x.1+x.2.1):=az2
   have ry:fE l (((l.length:Nat):Int) - 1).toNat=some x:=by rw[e];exact aZ
   refine⟨m,m2,x,ry,m,m2,x,ry,m3,eF ay7,?_⟩;exact eG br rfl (show x.1+x.2.1=g3 l by unfold g3;rw[hx])
def Hk (l:List dR):Int:=if mm 0 l=true then g3 l else 0
theorem ai3 (l:List dR) (ak:l.length<=1000000000) (eb: ∀x,x∈l-> -4611686018427387904<=x.2.1/\x.2.1<=4611686018427387903):Fn Tryz.prog 233 [bQ hT l] [] [] (ab (Hk l)) []:=by
 have ax:=MS l ak eb;unfold Hk
 cases J:mm 0 l with
 |false=>
  rw[J] at ax;refine aU [] Tryz.func233 ?_;exact av ax <| fb bg
 |true=>
  rw[J] at ax;have U:=MT l (fun x hx=>by have:=AR J (Int.le_refl 0) hx;omega) ay4;refine aU [] Tryz.func233 ?_;exact av ax <| dt <| av U bg
def yA (fr bL:Int) (out:List dR) (x:dR):List dR:=ml out (min (x.1+x.2.1) (fr+bL) - max x.1 fr) x.2.2
def AS (l:List dR) (fr bL:Int):Bool:=mm 0 l&&(decide (1<=bL)&&(decide (0<=fr)&&(decide (bL<=g3 l)&&decide (fr<=g3 l - bL))))
def vi (l:List dR) (fr bL:Int):List dR:=if AS l fr bL=true then l.foldl (yA fr bL) [] else[]
theorem ai4 {l:List dR} {n k B:Int} (h: ∀x,l.getLast? =some x->0<=x.1/\0<=x.2.1/\x.1+x.2.1<=B) (c5:0<=B) {C:Int} (d7:B+n<=C) (aqv:B<=C): ∀x,(ml l n k).getLast? =some x->0<=x.1/\0<=x.2.1/\x.1+x.2.1<=C:=by
 intro x hx;unfold ml at hx
 split at hx
 .have:=h x hx;omega
 rename_i hn
 have lU:0<=g3 l/\g3 l<=B:=by
  unfold g3
  split
  .omega
  .rename_i y aD;have:=h y aD;omega
 split at hx
 .rename_i y aD;have aqw:=h y aD
  split at hx
  .obtain⟨au,aZ⟩:=AQ aD;rw[List.getLast?_eq_getElem?,av3,av0 ay4] at hx;injection hx with hx
   subst hx;show 0<=y.1/\0<=y.2.1+n/\y.1+(y.2.1+n)<=C;omega
  .rw[List.getLast?_append] at hx;simp at hx;subst hx;show 0<=g3 l/\0<=n/\g3 l+n<=C;omega
 .rw[List.getLast?_append] at hx;simp at hx;subst hx;show 0<=g3 l/\0<=n/\g3 l+n<=C;omega
theorem ai5 (l:List dR) (n k:Int):(ml l n k).length<=l.length+1:=by
 unfold ml
 split
 .omega
 split
 .split
  .rw[av3];omega
  .rw[aq1];exact aq0 _
 .rw[aq1];exact aq0 _
abbrev ai6 (l:List dR) (fr bL:Int) (i:Nat):aY:=[(1,ab fr),(2,ab bL),(7,eM 5002),(37,bQ hT l),(38,ab (l.length:Nat)),(39,ab (i:Nat))]
abbrev ai7 (l:List dR) (fr bL:Int) (i:Nat):aY:=[(1,ab fr),(2,ab bL),(7,eM 1002),(37,bQ hT l),(38,ab (l.length:Nat)),(39,ab (i:Nat))]
abbrev ai8 (out:List dR):az:=[(5002,.row 293 hT out)]
abbrev Un (out:List dR):az:=[(1002,.row 293 hT out)]
def rV (l:List dR) (fr bL:Int) (i:Nat):List dR:=(l.take i).foldl (yA fr bL) []
theorem Uo {l:List dR} {fr bL:Int} {i:Nat} (h:i < l.length):rV l fr bL (i+1)=ml (rV l fr bL i) (min (l[i].1+l[i].2.1) (fr+bL) - max l[i].1 fr) l[i].2.2:=by
 unfold rV;rw[List.take_add_one,oj h];show((l.take i)++[l[i]]).foldl _ _=_;rw[ax5];rfl
theorem Up (l:List dR) (fr bL:Int) (i:Nat):(rV l fr bL i).length<=i:=by
 unfold rV
 have: ∀(m:List dR) (out:List dR),(m.foldl (yA fr bL) out).length<=out.length+m.length:=by
  intro m
  induction m with
  |nil=>intro out;exact aq0 _
  |cons x m bq=>
   intro out;have E:=bq (yA fr bL out x);have G:=ai5 out (min (x.1+x.2.1) (fr+bL) - max x.1 fr) x.2.2;show(m.foldl (yA fr bL) (yA fr bL out x)).length<=out.length+(m.length+1);have af:(yA fr bL out x).length<=out.length+1:=G;omega
 have h:=this (l.take i) [];have G:(l.take i).length<=i:=aA2
 have af:([]:List dR).length=0:=rfl;omega
theorem Uq {l:List dR} {fr bL:Int} (ax:mm 0 l=true) (uW:0<=fr) (ai9:0<=bL): ∀i,i<=l.length-> ∀x,(rV l fr bL i).getLast? =some x->0<=x.1/\0<=x.2.1/\x.1+x.2.1<=65536*(i:Int)
 |0,_,x,hx=>by cases hx
 |i+1,aF,x,hx=>by
  have d1:i < l.length:=az2
  rw[Uo d1] at hx;have U:=MR ax (Int.le_refl 0) _ (as3 d1);exact ai4 (Uq ax uW ai9 i ay4) ay4 ay4 ay4 x hx
theorem ai' (l:List dR) (fr bL:Int) (ak:l.length<=1000000000) (eb: ∀x,x∈l-> -4611686018427387904<=x.2.1/\x.2.1<=4611686018427387903) (h:AS l fr bL=false):Fn Tryz.prog 232 [bQ hT l,ab fr,ab bL] [] [] (k1 .dK) []:=by
 have ax:=MS l ak eb;have U:mm 0 l=true->_:=fun J=>MT l (fun x hx=>by have:=AR J (Int.le_refl 0) hx;omega) ay4
 have MU:mm 0 l=true->0<=g3 l/\g3 l<=65536:=by
  intro J;unfold g3
  split
  .omega
  .rename_i y aD;have:=AR J (Int.le_refl 0) aD;omega
 unfold AS at h
 cases J:mm 0 l with
 |false=>
  rw[J] at ax;refine aU [] Tryz.func232 ?_;exact av ax <| fb bg
 |true=>
  rw[J] at ax h;have U:=U J;have MU:=MU J;generalize g3 l=e at*;refine aU [] Tryz.func232 ?_;refine av ax <| dt ⟨fun E=>?_,fun E=>?_⟩
  .exact bg
  have E: ¬bL < 1:=mu E;refine⟨fun G=>?_,fun G=>?_⟩
  .exact bg
  have G: ¬fr < 0:=mu G;refine av U ⟨fun af=>?_,fun af=>?_⟩
  .exact bg
  have af: ¬e < bL:=mu af;refine av U ?_;have m1:c1 (e - bL):=az2
  refine⟨m1,fun aW=>?_,fun aW=>?_⟩
  .exact bg
  have aW: ¬e - bL < fr:=mu aW;rw[ar0 (show 1<=bL by omega),ar0 (show 0<=fr by omega),ar0 (show bL<=e by omega),ar0 (show fr<=e - bL by omega)] at h
  cases h
theorem aja (l:List dR) (fr bL:Int) (ak:l.length<=1000000) (eb: ∀x,x∈l-> -4611686018427387904<=x.2.1/\x.2.1<=4611686018427387903) (h:AS l fr bL=true):Fn Tryz.prog 232 [bQ hT l,ab fr,ab bL] [] [1002] (eM 1002) (Un (vi l fr bL)):=by
 have ax:=MS l ay4 eb
 have ajb:vi l fr bL=rV l fr bL l.length:=by
  unfold vi rV;rw[if_pos h,ar9]
 rw[ajb];unfold AS at h;simp only[vj,as5] at h;obtain⟨J,E,G,af,aW⟩:=h;rw[J] at ax;have U:=MT l (fun x hx=>by have:=AR J (Int.le_refl 0) hx;omega) ay4
 have MU:0<=g3 l/\g3 l<=65536:=by
  unfold g3
  split
  .omega
  .rename_i y aD;have:=AR J (Int.le_refl 0) aD;omega
 have DI:=Uq J G (show 0<=bL by omega);have ajc:=MR J (Int.le_refl 0);have bV:=Up l fr bL;generalize g3 l=e at*;have m1:c1 (e - bL):=az2
 have m2:c1 (fr+bL):=az2
 refine aU [] Tryz.func232 ?_;refine av ax <| dt ⟨fun h=>absurd (gd h) ay4,fun _=>⟨fun h=>absurd (gd h) ay4,fun _=>av U ⟨fun h=>absurd (gd h) ay4,fun _=>av U ⟨m1,fun h=>absurd (gd h) ay4,fun _=>d2 [] (X:=Nat) (fun i=>ai6 l fr bL i) (fun i=>ai8 (rV l fr bL i)) (fun i=>i<=l.length) (fun i=>l.length - i) 0 (aq8 _) ?_ ?_⟩⟩⟩⟩
 .exact(ac.nil 7 5002 293 hT rfl rfl).trans (ac.sub aC aC)
 intro i aF;have aF:i<=l.length:=aF;have DI:=DI i aF;have bV:=bV i;refine⟨fun J=>?_,fun J=>?_⟩
 .have J:decide ((i:Int) < ((l.length:Nat):Int))=true:=J;have d1:i < l.length:=aA7
  have aZ:=jJ (n:=i) d1;have hx:=ajc _ (as3 d1);have vh:=Uo (fr:=fr) (bL:=bL) d1;generalize l[i]=x at*;have dQ:(0:Int)<=(i:Int):=az2
  have cW:c1 (x.1+x.2.1):=az2
  have dJ:c1 (min (x.1+x.2.1) (fr+bL) - max x.1 fr):=az2
  have dM:c1 ((i:Int)+1):=az2
  have kQ:min (x.1+x.2.1) (fr+bL) - max x.1 fr<=4611686018427387903:=az2
  have ha:=Uk (rV l fr bL i) (min (x.1+x.2.1) (fr+bL) - max x.1 fr) x.2.2 (fun y aD=>by have:=DI y aD;omega) kQ ay4;rw[<-vh] at ha;refine⟨dQ,x,aZ,rfl,cW,m2,eF ay7,dJ,av (Fn.aV [(1001,5002)] ha) ?_⟩;exact⟨dM,i+1,d1,by show l.length - (i+1) < l.length - i;omega,ac.trans (cM (ai7 l fr bL (i+1)) (Un (rV l fr bL (i+1)))) ((ac.aV 1002 5002 rfl).trans (ac.sub aC aC))⟩
 .have J:decide ((i:Int) < ((l.length:Nat):Int))=false:=J;have pU:i=l.length:=aA4
  subst pU;exact⟨_,_,_,ac.aV 5002 1002 rfl,rfl,rfl,aC,rfl⟩
theorem ajd (l:List dR) (fr bL:Int) (ak:l.length<=1000000) (eb: ∀x,x∈l-> -4611686018427387904<=x.2.1/\x.2.1<=4611686018427387903):Fn Tryz.prog 232 [bQ hT l,ab fr,ab bL] [] [] (bQ hT (vi l fr bL)) []:=by
 cases h:AS l fr bL with
 |false=>
  have e:vi l fr bL=[]:=by unfold vi;rw[h];rfl
  rw[e];exact(ai' l fr bL ay4 eb h).res rfl
 |true=>exact Fn.d0 (aO:=[]) (aja l fr bL ak eb h) rfl rfl
def ij (l:List dR):List dR:=vi l 0 (Hk l)
theorem aje (l:List dR) (ak:l.length<=1000000) (eb: ∀x,x∈l-> -4611686018427387904<=x.2.1/\x.2.1<=4611686018427387903):Fn Tryz.prog 211 [bQ hT l] [] [] (bQ hT (ij l)) []:=by
 have E:=ai3 l ay4 eb;have G:=ajd l 0 (Hk l) ak eb;refine aU [] Tryz.func211 ?_;exact av E <| av G bg
end
section
theorem Ur {ρ:Go.Shelf.Ren} (L:SlLaysW.n5 Tryz.prog ρ) (fT:jA Tryz.prog (ρ.f 5)=true) {aI aK:bz} (es:List (Z aI×Z aK)):
  Fn Tryz.prog (ρ.f 5) [.c (.one (.mp 1001))] [(1001,.map aI aK es)] [2001] (.c (.one (.mp 2001))) [(1001,.map aI aK es),(2001,.map aI aK es)]:=by
 refine⟨fT,fun ρ F I w bU a8 cZ bh eE bV dy=>?_⟩
 match bU,bV with
 | [v],_=>
  obtain rfl:v= .map (some (ρ 1001).bk):=dy 0 _ v rfl rfl;obtain⟨tD,bR,bS,O,aA,c5⟩:=cZ 1001 _ rfl;refine(AnyW.maps_Clone L _ _ _ w O).mono ?_;rintro e w' ⟨rfl,rfl⟩;have gF:Below w.heap.size w (w.alloc (.map (List.toArray bR) bS)):=(Below.refl _ _).alloc (aq0 _) _;have a1:cm I w I (w.alloc (.map (List.toArray bR) bS)):=fun b fN=>⟨fN,gF.block b (a8 b fN)⟩
  have bt:=l3 O;refine⟨_,da ρ 2001 ⟨w.heap.size,none,0,0⟩,da F 2001 (fun b=>b=w.heap.size),rfl,cS.pq gF,fun c J=>dh _ _ (fun e=>J (by simp[e])),I,a1,fun b fN=>⟨ar6 (a8 b fN) gF.size,.inl fN⟩,?_,?_,?_,?_⟩
  .intro c ch J;rw[cd] at J
   split at J
   .rename_i dL;subst dL;injection J with J;subst J
    rw[dh _ _ ay5,dh _ _ ay5];exact⟨tD,bR,bS,(gF.block _ bt).trans O,aA.mono a1,c5⟩
   .rw[cd] at J
    split at J
    .rename_i dL;subst dL;injection J with J;subst J
     rw[c7,c7];exact⟨fun b=>Iff.rfl,bR,bS,heap_alloc_new w _,aA.mono a1,c5⟩
    .simp[ag] at J
  .intro c ch J b pV;rw[cd] at J
   split at J
   .rename_i dL;subst dL;rw[dh _ _ ay5] at pV;have:=bh 1001 _ rfl b pV;exact⟨ar6 this.1 gF.size,this.2,.inl ⟨1001,_,rfl,pV⟩⟩
   .rw[cd] at J
    split at J
    .rename_i dL;subst dL;rw[c7] at pV;subst pV;exact⟨ay6,fun fN=>by have:=a8 _ fN;omega,.inr (aq0 _)⟩
    .simp[ag] at J
  .intro c b9 ch ch' b J cK a7 gX hm
   have key: ∀c ch,ag [(1001,ba.map aI aK es),(2001,ba.map aI aK es)] c=some ch->c=1001\/c=2001:=fun c ch J=>by
    rw[cd] at J
    split at J
    .rename_i h;exact .inl h.symm
    .rw[cd] at J
     split at J
     .rename_i h;exact .inr h.symm
     .simp[ag] at J
   rcases key c ch J with rfl |rfl <;>rcases key b9 ch' cK with rfl |rfl
   .exact a7 rfl
   .rw[dh _ _ ay5] at gX;rw[c7] at hm;have:=(bh 1001 _ rfl b gX).1;omega
   .rw[dh _ _ ay5] at hm;rw[c7] at gX;have:=(bh 1001 _ rfl b hm).1;omega
   .exact a7 rfl
  .show Value.map (some w.heap.size)=Value.map (some (da ρ 2001 _ 2001).bk);rw[c7]
end
end Go.Proofs.YtkfbeijmgggkmaaGreat
