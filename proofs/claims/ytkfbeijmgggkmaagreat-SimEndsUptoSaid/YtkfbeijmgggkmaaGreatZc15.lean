/-
A part of the proof of this claim: lemmas, with no condition beyond what each says.
-/
import Derived.Test.YtkfbeijmgggkmaaGreatZc14
set_option linter.unusedVariables false
set_option linter.unusedSimpArgs false
set_option maxRecDepth 10000
set_option maxHeartbeats 4000000
namespace Go.Proofs.YtkfbeijmgggkmaaGreat
open Go.RowKit Go.Proofs
section
section
variable {P:Program} {N:Nat} {ids:aA1} {K:aX} {B:ay} {o:Oper}
abbrev yz (f b:Nat):aO:=.c (.one (.bM (.func (.func f) #[.pointer (some ⟨b,0,none⟩)] #[])))
theorem jM {f:FuncId} {x:Operand} {d m b:Nat} (ag:o.op= .makeFunc (.func f) #[x] #[]) (hx:a7 K x= .c (.one (.ptr d 0))) (aw:aj B m=some (.cg d (fg b))) (N:Nat):bB P N ids o K B (yz f b) ⟨[m],[],[]⟩:=by
 have m1:x∈o.op.operands:=aw7
 refine bB.val fun K' B' g1 g2 C ρ F a w ar au=>?_
 have af:=au.ptr ((g1 x m1).trans hx);have ao:=pV (N:=N) (a:=a) ar ((g2 m aw2).trans aw);rw[ao] at af;refine⟨.func (.func f) #[.pointer (some ⟨b,0,none⟩)] #[],?_,rfl⟩;simp[execOp,ag,Instr.makeFunc,af]
theorem aia {f:FuncId} {c:Call} {t b:Nat} {xs:List Operand} {aI:ay} {res:aO} {aN:ay} (ag:o.op= .call c) (E:c.callee= .value (.tmp t)) (G:c.args.toList=xs) (ap:dI K t=yz f b) (hf:Fn P f (.c (.one (.d (.aL (some b))))::xs.map (a7 K)) aI [] res aN) (h2:kT B aI) (bz:mQ aI [] aN=true) (N:Nat):
  bB P N ids o K B res ⟨cm aI,[],iL aI aN⟩:=by
 have mem: ∀aB∈xs,aB∈o.op.operands:=fun aB aR=>by
  rw[ag];simp only[Op.operands,Call.operands,Array.mem_append];exact .inr (Array.mem_toList_iff.1 (by rw[G];exact aR))
 have xI:Operand.tmp t∈o.op.operands:=by
  rw[ag];simp only[Op.operands,Call.operands,Array.mem_append,E];exact .inl aw2
 obtain⟨v,e,⟨rfl,rfl⟩,aq,_⟩:cI P N ids o K B (fun v e=>v=res/\e=⟨cm aI,[],iL aI aN⟩):=B3 (args:=.c (.one (.d (.aL (some b))))::xs.map (a7 K)) mem (fun K' ρ I a w g1 au=>by
  have aA:=au t;have Z:dI K' t=dI K t:=g1 (.tmp t) xI;rw[Z,ap] at aA;have e:a.tmps.getD t undef= .func (.func f) #[.pointer (some ⟨b,0,none⟩)] #[]:=aA;refine⟨.pointer (some ⟨b,0,none⟩)::xs.map a.eval,fun f3=>Rh f3 ag E G e,aw2,fun i v x aA hx=>?_⟩
  match i with
  |0=>
   simp only[ar9,aq8] at aA hx;subst aA hx;exact rfl
  |i+1=>exact zP mem g1 au i v x ay1 az5) ⟨aI,[],res,aN,hf,h2,by rw[bz];rfl,by rw[sq];exact⟨rfl,rfl⟩⟩
 exact aq
end
abbrev DF (p:Nat×aA0):aa ai×aa iT:=@Prod.mk Int aA0 (p.1:Int) p.2
abbrev jN (g:List (Nat×aA0)):List (aa ai×aa iT):=g.map DF
theorem T9 (g:List (Nat×aA0)):(jN g).length=g.length:=ar7 _
theorem aib {l:List (aa ai×aa iT)} {p:aa ai×aa iT} {k:Int} {x:aA0} (h:fN ai k p.1=false):dw (aH:=ai) (aJ:=iT) (p::l) k x=p::dw (aH:=ai) (aJ:=iT) l k x:=by
 simp only[dw,h]
theorem T' (k:Nat) (x:aA0): ∀g:List (Nat×aA0),k∉g.map Prod.fst->dw (aH:=ai) (aJ:=iT) (jN g) (k:Int) x=jN (g++[(k,x)])
 | [],_=>rfl
 |p::g,h=>by
  rw[ar8,aq7,not_or] at h;refine(aib (p:=DF p) (l:=jN g) ((AY k p.1).trans (at3 h.1))).trans ?_;rw[T' k x g h.2];rfl
abbrev DG (nm:aA0) (bi n rm:Int) (over done:Bool):List bC:=[.ptr 1001 0,.d (.str nm),.d (.int .i64 bi),.d (.int .i64 n),.d (.int .i64 rm),.mp 2002,.mp 2003,.d (.bool over),.d (.bool done)]
abbrev iD (z R:Int) (L:List aM) (nm:aA0) (n rm:Int) (l:aA1) (g:List (Nat×aA0)) (over done:Bool):ay:=bS z R L++[(2001,.cells (DG nm z n rm over done)),(2002,.map ai ai (gg l)),(2003,.map ai iT (jN g))]
section
variable {z R:Nat} {L:List aM} {nm:aA0}
theorem aic (z R:Int) (L:List aM) (nm:aA0) (n rm:Int) (l:aA1) (g:List (Nat×aA0)) (over done:Bool):Fn Tryz.prog 296 [ah 2001] (iD z R L nm n rm l g over done) [] (fk over) (iD z R L nm n rm l g over done):=by
 refine aT [] Tryz.func296 ?_;exact bc
theorem aid (z R:Int) (L:List aM) (nm:aA0) (n rm:Int) (l:aA1) (g:List (Nat×aA0)) (over done:Bool):Fn Tryz.prog 78 [ah 2001] (iD z R L nm n rm l g over done) [] (fk done) (iD z R L nm n rm l g over done):=by
 refine aT [] Tryz.func78 ?_;exact bc
theorem Ua (z R:Int) (L:List aM) (nm:aA0) (n rm:Int) (l:aA1) (g:List (Nat×aA0)) (over done:Bool):Fn Tryz.prog 198 [ah 2001] (iD z R L nm n rm l g over done) [] gV (iD z R L nm n rm [] g true done):=by
 refine aT [] Tryz.func198 ?_;refine⟨_,_,fun N=>TT rfl Tryz.underlying159 rfl rfl N,rfl,?_⟩;exact⟨_,_,_,ab.s0 2001 (l':=DG nm z n rm true done) rfl az,rfl,trivial,az,rfl⟩
structure aie where
 e:Int
 l:aA1
 g:List (Nat×aA0)
 over:Bool
def ek (z:Nat) (L:List aM) (nm:aA0) (rm:Int) (l:aA1) (g:List (Nat×aA0)) (k:Nat):aie:=if rm<=((g.length:Nat):Int) then⟨171,[],g,true⟩ else⟨0,l.erase k,g++[(k,e8 z L nm (k:Int))],false⟩
theorem aif (h:cr z R L) (nm:aA0) (n rm:Int) (l:aA1) (g:List (Nat×aA0)) (done:Bool) (k:Nat) (Z:k∉g.map Prod.fst):Fn Tryz.prog 153 [ah 2001,ac (k:Int)] (iD z R L nm n rm l g false done) [] (ac (ek z L nm rm l g k).e) (iD z R L nm n rm (ek z L nm rm l g k).l (ek z L nm rm l g k).g (ek z L nm rm l g k).over done):=by
 have dF:=Mi h nm (k:Int);have bZ:=T9 g;have rV:=T' k (e8 z L nm (k:Int)) g Z;have dL:=Mu k l
 by_cases c:rm<=((g.length:Nat):Int)
 .have e:ek z L nm rm l g k=⟨171,[],g,true⟩:=if_pos c;rw[e];refine aT [2] Tryz.func153 ?_;refine⟨rfl,fun _=>?_,fun bj=>?_⟩
  .show bk _ _ _ _ _ _ _;exact br [] (bq) <| ak (Ua z R L nm n rm l g false done) bc
  .exfalso;have bj:decide (rm<=(((jN g).length:Nat):Int))=false:=bj;have:=mu bj;omega
 .have e:ek z L nm rm l g k=⟨0,l.erase k,g++[(k,e8 z L nm (k:Int))],false⟩:=if_neg c;rw[e];generalize e8 z L nm (k:Int)=x at*;refine aT [4] Tryz.func153 ?_;refine⟨rfl,fun bj=>?_,fun _=>?_⟩
  .exfalso;have bj:decide (rm<=(((jN g).length:Nat):Int))=true:=bj;have:=gd bj;omega
  exact br [] (bq) <| ak dF ⟨trivial,rfl,sJ bq rfl rfl ⟨rfl,rfl,rfl,rfl,rfl,congrArg (fun aB=>some (ba.map ai ai aB)) dL,congrArg (fun aB=>some (ba.map ai iT aB)) rV,trivial⟩ rfl⟩
abbrev ua (z R:Int) (L:List aM) (nm:aA0) (n rm:Int) (l:aA1) (g:List (Nat×aA0)) (over done:Bool) (b:Nat):ay:=iD z R L nm n rm l g over done++[(9001,.cg 2001 (fg b))]
theorem Ub (h:cr z R L) (nm:aA0) (n rm:Int) (l:aA1) (g:List (Nat×aA0)) (done:Bool) (k:Nat) (Z:k∉g.map Prod.fst) (b:Nat):Fn Tryz.prog 153 [.c (.one (.d (.aL (some b)))),ac (k:Int)] (ua z R L nm n rm l g false done b) [] (ac (ek z L nm rm l g k).e) (ua z R L nm n rm (ek z L nm rm l g k).l (ek z L nm rm l g k).g (ek z L nm rm l g k).over done b):=by
 have J:=aif h nm n rm l g done k Z;generalize ek z L nm rm l g k=r at*
 refine Fn.via (X:=Unit) (args':=fun _=>[ah 2001,ac (k:Int)]) (u0:=fun _=>ua z R L nm n rm l g false done b) (nq:=fun _=>iD z R L nm n rm l g false done) (jp:=fun _=>[]) (res':=fun _=>ac r.e) (oe:=fun _=>iD z R L nm n rm r.l r.g r.over done)
  aw3 2 rfl ?_ (fun _=>J) (fun _=>az) (fun _=>rfl) (fun _=>rfl) ?_
 .intro N C a w ax;exact⟨(),fa.sub (ab.KX 0 2001 9001 b rfl rfl N C a w ax) az az⟩
 .intro _;exact⟨ac r.e,ua z R L nm n rm r.l r.g r.over done b,ab.sub az az,rfl,az,rfl⟩
structure aig where
 sS:Bool
 e:Int
 l:aA1
 g:List (Nat×aA0)
 over:Bool
 done:Bool
def jd (z:Nat) (L:List aM) (nm:aA0) (rm:Int) (l:aA1) (g:List (Nat×aA0)) (over done:Bool):aig:=if over=true then⟨false,170,l,g,true,done⟩ else if l=[] then⟨true,0,[],g,true,true⟩ else
 ⟨false,(ek z L nm rm l g (dE l)).e,(ek z L nm rm l g (dE l)).l,(ek z L nm rm l g (dE l)).g,(ek z L nm rm l g (dE l)).over,done⟩
theorem aih (h:cr z R L) (nm:aA0) (n rm:Int) (l:aA1) (g:List (Nat×aA0)) (over done:Bool) (ap: ∀k,k∈l->k<=100000) (qq:l.length<=100000) (hn:l.Nodup) (aY: ∀k,k∈l->k∉g.map Prod.fst):Fn Tryz.prog 297 [ah 2001] (iD z R L nm n rm l g over done) [] (.cb [.one (.d (.bool (jd z L nm rm l g over done).sS)),dp (jd z L nm rm l g over done).e])
  (iD z R L nm n rm (jd z L nm rm l g over done).l (jd z L nm rm l g over done).g (jd z L nm rm l g over done).over (jd z L nm rm l g over done).done):=by
 cases over with
 |true=>
  have e:jd z L nm rm l g true done=⟨false,170,l,g,true,done⟩:=if_pos rfl;rw[e];refine aT [] Tryz.func297 ?_;exact d7 bc
 |false=>
  have rD:=Mt l
  by_cases a6:l=[]
  .have e:jd z L nm rm l g false done=⟨true,0,[],g,true,true⟩:=(if_neg aw1).trans (if_pos a6);rw[e];subst a6;refine aT [] Tryz.func297 ?_;exact cX <| d7 ⟨_,_,_,ab.s0 2001 (l':=DG nm z n rm true true) rfl az,rfl,az,az,rfl⟩
  .have e:jd z L nm rm l g false done=⟨false,(ek z L nm rm l g (dE l)).e,(ek z L nm rm l g (dE l)).l,(ek z L nm rm l g (dE l)).g,(ek z L nm rm l g (dE l)).over,done⟩:=(if_neg aw1).trans (if_neg a6);rw[e];obtain⟨cC,cF,dD⟩:=yt a6
   have BH: ∀g:{hd:List Int//hd.Perm (g5 (gg l))},po g.1=((dE l:Nat):Int):=fun g=>by
    rw[TR g.2 (by rw[vh];simpa using a6),vh];exact cC
   have u5: ∀g:{hd:List Int//hd.Perm (g5 (gg l))},g.1.length=l.length:=fun g=>by
    rw[g.2.length_eq,vh,ar7]
   have pe:0 < l.length:=List.length_pos_iff.2 a6;have MC:=TP (gg l) (Mv hn) (Mw fun k Z=>by have:=ap k Z;omega) aw0;have xV:=Ub h nm n rm l g done (dE l) (aY _ cF);generalize ek z L nm rm l g (dE l)=r at*;generalize dE l=r4 at*;refine aT [6,7] Tryz.func297 ?_;refine cX ⟨fun J=>?_,fun _=>?_⟩
   .exfalso;have J:decide ((((gg l).length:Nat):Int)=0)=true:=J;have:=gd J;omega
   refine bk.eH (c5.mark 2001 9001 rfl aw1) fun b=>?_
   refine br [7] (cw [(0,ah 2001)] (ua z R L nm n rm l g false done b)) ⟨_,_,fun N=>jM (m:=9001) (b:=b) rfl rfl rfl N,rfl,?_⟩;refine bk.le (cw [(0,ah 2001),(4,yz 153 b)] (ua z R L nm n rm l g false done b)) <| bk.gz ee aw3 <| hp ((Fn.aV [(1001,2002),(2001,9101)] (Mp (gg l))).x) fun _=>⟨_,_,_,fun g=>_,fun g=>_,cA.aV [(1001,2002),(2001,9101)] MC,az,rfl,fun _=>rfl,fun MK=>?_⟩
   have ahV:=u5 MK;have DB:=BH MK;refine hp ((Fn.res (res':=ac (r4:Int)) (TS MK.1 aw0 aw0) DB).x) fun _=>?_
   refine hp ((xV b).x) fun _=>?_
   exact bc
end
abbrev ub:bA:=.bK ai iT
def uc (g:List (Nat×aA0)) (k:Int):aA0:=(bY (aH:=ai) (aJ:=iT) (jN g) k).getD (cL iT)
def ML (g:List (Nat×aA0)) (k:Int):aa ub:=@Prod.mk Int aA0 k (uc g k)
def k2 (g:List (Nat×aA0)):List (aa ub):=(na (g5 (jN g))).map (ML g)
theorem A1 (g:List (Nat×aA0)):g5 (jN g)=(g.map Prod.fst).map fun k:Nat=>(k:Int):=by
 unfold g5 jN;rw[at8,at8];rfl
theorem MM (g:List (Nat×aA0)):(k2 g).length=g.length:=by
 unfold k2;rw[ar7,(yy _).length_eq,A1,ar7,ar7]
theorem MN {B:Nat} (k:Int): ∀g:List (Nat×aA0),(∀p,p∈g->p.2.length<=B)->(uc g k).length<=B
 | [],_=>aq9 _
 |p::g,h=>by
  cases e:fN ai k (DF p).1 with
  |true=>
   have:uc (p::g) k=p.2:=by
    show(bY (aH:=ai) (aJ:=iT) (DF p::jN g) k).getD (cL iT)=p.2;simp only[bY,e];rfl
   rw[this];exact h p (ar4 ..)
  |false=>
   have:uc (p::g) k=uc g k:=by
    show(bY (aH:=ai) (aJ:=iT) (DF p::jN g) k).getD (cL iT)=(bY (aH:=ai) (aJ:=iT) (jN g) k).getD (cL iT);simp only[bY,e]
   rw[this];exact MN k g fun q aP=>h q (aq6 _ aP)
section
variable {z R:Nat} {L:List aM} {nm:aA0}
abbrev Uc (ks:List Int) (c k:Nat):aX:=[(0,ah 2001),(5,eX c),(18,bv ai ks),(19,ac (ks.length:Nat)),(20,ac (k:Nat))]
abbrev MO (z R:Int) (L:List aM) (nm:aA0) (n rm:Int) (l:aA1) (g:List (Nat×aA0)) (over done:Bool) (c:Nat) (x:List (aa ub)):ay:=iD z R L nm n rm l g over done++[(c,.row 96 ub x)]
theorem aii (z R:Int) (L:List aM) (nm:aA0) (n rm:Int) (l:aA1) (g:List (Nat×aA0)) (over:Bool) (hn:(g.map Prod.fst).Nodup) (Z: ∀p,p∈g->p.1<=100000/\p.2.length<=100000) (ap:g.length<=100000):
  Fn Tryz.prog 121 [ah 2001] (iD z R L nm n rm l g over true) [] (.cb [.one (.d (.cf ub (k2 g))),dp n,.one (.d (.bool true))]) (iD z R L nm n rm l g over true):=by
 have dR:(g5 (jN g)).Nodup:=by
  rw[A1];exact Mm (fun x _ y _ e=>by have e:(x:Int)=(y:Int):=e;omega) hn
 have ny: ∀s∈g5 (jN g),(Lit.int .i64 s).wf=true:=fun s ax=>by
  rw[A1] at ax;obtain⟨k,b',rfl⟩:=as5.1 ax;obtain⟨p,ae,rfl⟩:=as5.1 b';have:=(Z p ae).1;show(decide (IntKind.i64.min<=(p.1:Int))&&decide ((p.1:Int)<=IntKind.i64.max))=true;rw[ar6 (show(IntKind.i64.min:Int)<=(p.1:Int) from Int.le_trans (by decide:IntKind.i64.min<=(0:Int)) aw0),ar6 (show(p.1:Int)<=IntKind.i64.max from Int.le_trans (by omega:(p.1:Int)<=1000000) aw1)];rfl
 have Ud:=T9 g;have Hm:=ah' (jN g) dR ny aw0;have hs:(na (g5 (jN g))).length=g.length:=by rw[(yy _).length_eq,A1,ar7,ar7]
 have lM: ∀k:Nat,(h:k < (na (g5 (jN g))).length)->(k2 g).take k++[ML g (na (g5 (jN g)))[k]]=(k2 g).take (k+1):=fun k h=>by
  rw[List.take_add_one];unfold k2;rw[as6,oj h];rfl
 have hm:=MM g;have jL:=fun k=>MN (B:=100000) k g fun p ae=>(Z p ae).2
 generalize na (g5 (jN g))=ks at*;generalize k2 g=bE at*;refine aT [4,7,9] Tryz.func121 ?_;refine cX <| br [7,9] (bq) <| ak (Fn.aV [(1001,2003),(2001,9201)] (ah8 (jN g))) <| ak (Fn.aV [(1001,2003),(2001,9201)] Hm) <| dG [7,9] (X:=Nat) (fun k=>Uc ks 5002 k) (fun k=>MO z R L nm n rm l g over true 5002 (bE.take k)) (fun k=>k<=ks.length) (fun k=>ks.length - k) 0 (aq9 _) ?_ ?_
 .exact ab.trans (cw [(0,ah 2001),(5,.c (.one .dH)),(18,bv ai ks),(19,ac (ks.length:Nat)),(20,ac 0)] (iD z R L nm n rm l g over true)) (ab.trans (ab.nil 5 5002 96 ub rfl rfl) (ab.sub az az))
 intro k b';have b':k<=ks.length:=b';refine⟨fun J=>?_,fun J=>?_⟩
 .have J:decide ((k:Int) < ((ks.length:Nat):Int))=true:=J;have fc:k < ks.length:=ay2
  have lL:=iR (n:=k) fc;have d':=lM k fc;generalize ks[k]=q at*;have hx:=jL q;have dF:=L0 (uc g q) aw0
  have bZ:List.length (α:=aa ub) (bE.take k)+1<=4294967296:=by
   show(bE.take k).length+1<=4294967296;rw[ar3];omega
  exact⟨aw0,q,lL,br [9] (cw [(0,ah 2001),(5,eX 5002),(18,bv ai ks),(19,ac (ks.length:Nat)),(20,ac (k:Nat)),(7,ac q)] (MO z R L nm n rm l g over true 5002 (bE.take k))) <| ak dF ⟨bZ,rfl,aw0,k+1,fc,aw0,ab.trans (ab.sub (K':=Uc ks 35 (k+1)) (B':=MO z R L nm n rm l g over true 35 (bE.take (k+1))) az ⟨rfl,rfl,rfl,rfl,rfl,rfl,rfl,congrArg (fun aB=>some (ba.row 96 ub aB)) d',trivial⟩) (ab.trans (ab.aV 35 5002 rfl) (ab.sub az az))⟩⟩
 .have J:decide ((k:Int) < ((ks.length:Nat):Int))=false:=J;have fc:k=ks.length:=ax9
  have ez:bE.take k=bE:=List.take_of_length_le aw0;exact br [] (ab.d3 5002 rfl) ⟨rfl,ej bq rfl ⟨ez,rfl,rfl,trivial⟩⟩
end
def he (f:Nat->Bool) (z:Nat):Nat->aA1
 |0=>[]
 |s+1=>if f s=true then m9 (he f z s) (s/2 ^z) else he f z s
theorem Hn (f:Nat->Bool) (z:Nat): ∀s,(he f z s).Nodup
 |0=>au7
 |s+1=>by
  show(if f s=true then m9 (he f z s) (s/2 ^z) else he f z s).Nodup
  split
  .exact TW (Hn f z s)
  .exact Hn f z s
theorem MP (z:Nat): ∀s t:Nat,t < s->t/2 ^z∈he (fun _=>true) z s
 |0,t,h=>absurd h (av5 t)
 |s+1,t,h=>by
  show t/2 ^z∈m9 (he (fun _=>true) z s) (s/2 ^z)
  by_cases e:t=s
  .subst e;exact Hd.2 (.inr rfl)
  .exact Hd.2 (.inl (MP z s t aw0))
theorem Ho (f:Nat->Bool) (z n:Nat): ∀s,s<=n*2 ^z-> ∀k,k∈he f z s->k < n
 |0,_,k,h=>by cases h
 |s+1,ax,k,h=>by
  have h:k∈(if f s=true then m9 (he f z s) (s/2 ^z) else he f z s):=h;have H:s/2 ^z < n:=(Nat.div_lt_iff_lt_mul (Nat.two_pow_pos z)).2 aw0
  split at h
  .rcases Hd.1 h with h |h
   .exact Ho f z n s aw0 k h
   .omega
  .exact Ho f z n s aw0 k h
theorem aij (z n:Nat):(he (fun _=>true) z (n*2 ^z)).length=n:=by
 have h:(List.range n).Perm (he (fun _=>true) z (n*2 ^z)):=(List.perm_ext_iff_of_nodup List.nodup_range (Hn _ _ _)).2 fun k=>⟨fun Z=>by
  have Z:=List.mem_range.1 Z;have G:=Nat.two_pow_pos z;have:=MP z (n*2 ^z) (k*2 ^z) (Nat.mul_lt_mul_of_pos_right Z G)
  rwa[Nat.mul_div_cancel _ G] at this,fun Z=>List.mem_range.2 (Ho _ _ n _ (aq4 _) k Z)⟩
 rw[<-h.length_eq,List.length_range]
section
variable {z R:Nat} {L:List aM} {nm:aA0}
abbrev DH (z R:Int) (L:List aM) (nm:aA0) (n rm:Int) (l:aA1):ay:=bS z R L++[(46,.cells [.ptr 1001 0,.d (.str nm),.d (.int .i64 z),.d (.int .i64 n),.d (.int .i64 rm),.mp 43,.mp 44,.d (.bool false),.d (.bool false)]),(43,.map ai ai (gg l)),(44,.map ai iT [])]
theorem aik (h:cr z R L) {d:aM} (H:dk L nm=some d) (rm:Int) (aC:rm < 0):Fn Tryz.prog 76 [ah 1001,bQ nm,.c (.one (.bM (.pointer none))),ac rm] (bS z R L) [] (.cb [mZ,dp 1]) (bS z R L):=by
 refine aT [] Tryz.func76 ?_;exact ak (jK _ _ L h.toh8 nm d H) ⟨fun _ _=>⟨fun _=>sJ bq rfl az ⟨rfl,rfl,rfl,rfl,trivial⟩ rfl,fun h=>absurd (mu h) aw0⟩,fun h=>by cases h⟩
abbrev ail (am:Nat) (nm:aA0) (N s:Nat):aX:=[(2,.c (.one (.bM (.pointer none)))),(11,ah 46),(55,ac (N:Nat)),(56,ac (s:Nat))]
theorem aim (h:cr z R L) {d:aM} (H:dk L nm=some d) (rm:Int) (aC:0<=rm):Fn Tryz.prog 76 [ah 1001,bQ nm,.c (.one (.bM (.pointer none))),ac rm] (bS z R L) [2001,2002,2003] (.cb [.one (.ptr 2001 0),dp 0]) (iD z R L nm (d.im.t.length:Nat) rm (he (fun _=>true) z (d.im.t.length*2 ^z)) [] false false):=by
 have nB:=(h.gf d (cU H).1).1.eN;have fJ:=h.toh8.M (cU H).1;have kv:d.im.z=z:=(h.gf d (cU H).1).2.1;have yv:=h.b3;have ae:=js h.b3
 have pp:((d.im.t.length:Nat):Int)*((2 ^((d.im.z:Nat):Int).toNat:Nat):Int)=((d.im.t.length*2 ^z:Nat):Int):=by
  rw[kv];show((d.im.t.length:Nat):Int)*((2 ^z:Nat):Int)=_;rw[Int.natCast_mul]
 have mk:d.im.t.length*2 ^z<=256*8:=Nat.mul_le_mul nB ae.2;have m1:(0:Int)<=((d.im.t.length:Nat):Int)/\(0:Int)<=((d.im.z:Nat):Int)/\((d.im.z:Nat):Int)<=64:=aw8
 have m2:c3 (((d.im.t.length:Nat):Int)*((2 ^((d.im.z:Nat):Int).toNat:Nat):Int)):=by rw[pp];omega
 have cM:(0:Int)<=((d.im.t.length:Nat):Int)/\(0:Int)<=((z:Nat):Int)/\((z:Nat):Int)<=64:=aw8
 have DI:((d.im.t.length:Nat):Int)*((2 ^((z:Nat):Int).toNat:Nat):Int)=((d.im.t.length*2 ^z:Nat):Int):=by
  show((d.im.t.length:Nat):Int)*((2 ^z:Nat):Int)=_;rw[Int.natCast_mul]
 have dK:c3 (((d.im.t.length:Nat):Int)*((2 ^((z:Nat):Int).toNat:Nat):Int)):=by rw[DI];omega
 refine aT [6,7,10,11] Tryz.func76 ?_;refine ak (jK _ _ L h.toh8 nm d H) ⟨fun _ _=>⟨fun h=>absurd (gd h) aw0,fun _=>br [7,10,11] (ab.sub (K':=[(0,ah 1001),(1,bQ nm),(2,.c (.one (.bM (.pointer none)))),(3,ac rm),(10,c8 d.am)]) (B':=bS z R L) az ⟨rfl,rfl,rfl,rfl,trivial⟩) <| ak (h9 (wO d.im) fJ rfl rfl rfl rfl) <| ak (h9 (nz d.im) fJ rfl rfl rfl rfl) ⟨rfl,rfl,rfl,br [10,11] (ab.trans (ab.s0 46 (l':=[.ptr 1001 0,.d (.str nm),.d (.int .i64 ((z:Nat):Int)),.d (.int .i64 ((d.im.t.length:Nat):Int)),.d (.int .i64 rm),.mp 43,.mp 44,.d (.bool false),.d (.bool false)]) rfl ⟨rfl,rfl,congrArg Int.ofNat kv,rfl,rfl,rfl,rfl,rfl,rfl,trivial⟩) (ab.sub (K':=[(2,.c (.one (.bM (.pointer none)))),(11,ah 46)]) (B':=DH z R L nm (d.im.t.length:Nat) rm []) az ⟨rfl,rfl,rfl,rfl,rfl,rfl,rfl,trivial⟩)) ⟨cM,dK,rfl,dG [10,11] (X:=Nat) (fun s=>ail d.am nm (d.im.t.length*2 ^z) s) (fun s=>DH z R L nm (d.im.t.length:Nat) rm (he (fun _=>true) z s)) (fun s=>s<=d.im.t.length*2 ^z) (fun s=>d.im.t.length*2 ^z - s) 0 (aq9 _) ?_ ?_⟩⟩⟩,fun h=>by cases h⟩
 .exact ab.sub ⟨rfl,rfl,DI,rfl,trivial⟩ ⟨rfl,rfl,rfl,rfl,rfl,rfl,rfl,trivial⟩
 intro s ax;have ax:s<=d.im.t.length*2 ^z:=ax;refine⟨fun J=>?_,fun J=>?_⟩
 .have J:decide ((s:Int) < ((d.im.t.length*2 ^z:Nat):Int))=true:=J;have hE:s < d.im.t.length*2 ^z:=ay2
  have cC:(0:Int)<=(s:Int)/\(0:Int)<=((z:Nat):Int)/\((z:Nat):Int)<=64:=aw8
  have sV:(s:Int)/((2 ^((z:Nat):Int).toNat:Nat):Int)=((s/2 ^z:Nat):Int):=by
   show(s:Int)/((2 ^z:Nat):Int)=_;rfl
  exact br [11] (ab.sub (K':=[(2,.c (.one (.bM (.pointer none)))),(11,ah 46),(55,ac ((d.im.t.length*2 ^z:Nat):Int)),(56,ac (s:Nat)),(12,ac (s:Nat))]) (B':=DH z R L nm (d.im.t.length:Nat) rm (he (fun _=>true) z s)) az ⟨rfl,rfl,rfl,rfl,rfl,rfl,rfl,trivial⟩) <| br [] (ab.sub (K':=[(2,.c (.one (.bM (.pointer none)))),(11,ah 46),(55,ac ((d.im.t.length*2 ^z:Nat):Int)),(56,ac (s:Nat)),(12,ac (s:Nat))]) (B':=DH z R L nm (d.im.t.length:Nat) rm (he (fun _=>true) z s)) az ⟨rfl,rfl,rfl,rfl,rfl,rfl,rfl,trivial⟩) ⟨cC,trivial,rfl,aw0,s+1,hE,aw0,ab.sub az ⟨rfl,rfl,rfl,rfl,rfl,congrArg (fun aB=>some (ba.map ai ai aB)) ((Dz (s/2 ^z) _).trans (congrArg gg (show m9 (he (fun _=>true) z s) (s/2 ^z)=he (fun _=>true) z (s+1) from(if_pos rfl).symm))),rfl,trivial⟩⟩
 .have J:decide ((s:Int) < ((d.im.t.length*2 ^z:Nat):Int))=false:=J;have hE:s=d.im.t.length*2 ^z:=ax9
  subst hE;exact⟨_,_,_,ab.trans (ab.aV 46 2001 rfl) (ab.trans (ab.aV 43 2002 rfl) (ab.aV 44 2003 rfl)),rfl,az,⟨rfl,rfl,rfl,rfl,rfl,rfl,rfl,trivial⟩,rfl⟩
abbrev yA (s g:Int) (es:List (aa ai×aa ai)):ay:=[(5001,.cells [.d (.int .i64 s),.d (.int .i64 g),.mp 5002]),(5002,.map ai ai es)]
abbrev Ue (z R:Int) (L:List aM) (s g:Int) (es:List (aa ai×aa ai)):ay:=bS z R L++yA s g es
abbrev Hp (z R:Int) (L:List aM) (nm:aA0) (n rm:Int) (l:aA1) (s g:Int) (es:List (aa ai×aa ai)):ay:=DH z R L nm n rm l++yA s g es
abbrev ain (z R:Int) (L:List aM) (nm:aA0) (n rm:Int) (l:aA1) (qE:List (Nat×aA0)) (over done:Bool) (s g:Int) (es:List (aa ai×aa ai)):ay:=iD z R L nm n rm l qE over done++yA s g es
theorem aio (h:cr z R L) {d:aM} (H:dk L nm=some d) (rm:Int) (aC:rm < 0) (s g:Int) (es:List (aa ai×aa ai)):Fn Tryz.prog 76 [ah 1001,bQ nm,ah 5001,ac rm] (bS z R L++[(5001,.cells [.d (.int .i64 s),.d (.int .i64 g),.mp 5002]),(5002,.map ai ai es)]) [] (.cb [mZ,dp 1]) (bS z R L++[(5001,.cells [.d (.int .i64 s),.d (.int .i64 g),.mp 5002]),(5002,.map ai ai es)]):=by
 refine aT [] Tryz.func76 ?_;exact ak (jK _ _ L h.toh8 nm d H) ⟨fun _ _=>⟨fun _=>bc,fun h=>absurd (mu h) aw0⟩,fun h=>by cases h⟩
abbrev aip (am:Nat) (nm:aA0) (N s:Nat):aX:=[(2,ah 5001),(11,ah 46),(55,ac (N:Nat)),(56,ac (s:Nat))]
theorem aiq (h:cr z R L) {d:aM} (H:dk L nm=some d) (rm:Int) (aC:0<=rm) (g:Int) (es:List (aa ai×aa ai)) (aY:1<=g):Fn Tryz.prog 76 [ah 1001,bQ nm,ah 5001,ac rm] (Ue z R L ((d.im.t.length*2 ^z:Nat):Int) g es) [2001,2002,2003] (.cb [.one (.ptr 2001 0),dp 0]) (ain z R L nm (d.im.t.length:Nat) rm (he (m' g es) z (d.im.t.length*2 ^z)) [] false false ((d.im.t.length*2 ^z:Nat):Int) g es):=by
 have nB:=(h.gf d (cU H).1).1.eN;have fJ:=h.toh8.M (cU H).1;have kv:d.im.z=z:=(h.gf d (cU H).1).2.1;have yv:=h.b3;have ae:=js h.b3
 have pp:((d.im.t.length:Nat):Int)*((2 ^((d.im.z:Nat):Int).toNat:Nat):Int)=((d.im.t.length*2 ^z:Nat):Int):=by
  rw[kv];show((d.im.t.length:Nat):Int)*((2 ^z:Nat):Int)=_;rw[Int.natCast_mul]
 have mk:d.im.t.length*2 ^z<=256*8:=Nat.mul_le_mul nB ae.2;have m1:(0:Int)<=((d.im.t.length:Nat):Int)/\(0:Int)<=((d.im.z:Nat):Int)/\((d.im.z:Nat):Int)<=64:=aw8
 have m2:c3 (((d.im.t.length:Nat):Int)*((2 ^((d.im.z:Nat):Int).toNat:Nat):Int)):=by rw[pp];omega
 have cM:(0:Int)<=((d.im.t.length:Nat):Int)/\(0:Int)<=((z:Nat):Int)/\((z:Nat):Int)<=64:=aw8
 have DI:((d.im.t.length:Nat):Int)*((2 ^((z:Nat):Int).toNat:Nat):Int)=((d.im.t.length*2 ^z:Nat):Int):=by
  show((d.im.t.length:Nat):Int)*((2 ^z:Nat):Int)=_;rw[Int.natCast_mul]
 have dK:c3 (((d.im.t.length:Nat):Int)*((2 ^((z:Nat):Int).toNat:Nat):Int)):=by rw[DI];omega
 refine aT [6,7,10,11] Tryz.func76 ?_;refine ak (jK _ _ L h.toh8 nm d H) ⟨fun _ _=>⟨fun h=>absurd (gd h) aw0,fun _=>ak (Fn.aV [(1001,5001),(1002,5002)] (MI ((d.im.t.length*2 ^z:Nat):Int) g es)) <| ak (h9 (nz d.im) fJ rfl rfl rfl rfl) <| ak (h9 (wO d.im) fJ rfl rfl rfl rfl) ⟨m1,m2,fun bj=>?_,fun _=>?_⟩⟩,fun h=>by cases h⟩
 .exfalso;have bj:(!decide (((d.im.t.length*2 ^z:Nat):Int)=((d.im.t.length:Nat):Int)*((2 ^((d.im.z:Nat):Int).toNat:Nat):Int)))=true:=bj;rw[pp,ar6 rfl] at bj
  cases bj
 refine br [7,10,11] (cw [(0,ah 1001),(1,bQ nm),(2,ah 5001),(3,ac rm),(10,c8 d.am)] (Ue z R L ((d.im.t.length*2 ^z:Nat):Int) g es)) <| ak (h9 (wO d.im) fJ rfl rfl rfl rfl) <| ak (h9 (nz d.im) fJ rfl rfl rfl rfl) ⟨rfl,rfl,rfl,br [10,11] (ab.trans (ab.s0 46 (l':=[.ptr 1001 0,.d (.str nm),.d (.int .i64 ((z:Nat):Int)),.d (.int .i64 ((d.im.t.length:Nat):Int)),.d (.int .i64 rm),.mp 43,.mp 44,.d (.bool false),.d (.bool false)]) rfl ⟨rfl,rfl,congrArg Int.ofNat kv,rfl,rfl,rfl,rfl,rfl,rfl,trivial⟩) (cw [(2,ah 5001),(11,ah 46)] (Hp z R L nm (d.im.t.length:Nat) rm [] ((d.im.t.length*2 ^z:Nat):Int) g es))) ⟨cM,dK,rfl,dG [10,11] (X:=Nat) (fun s=>aip d.am nm (d.im.t.length*2 ^z) s) (fun s=>Hp z R L nm (d.im.t.length:Nat) rm (he (m' g es) z s) ((d.im.t.length*2 ^z:Nat):Int) g es) (fun s=>s<=d.im.t.length*2 ^z) (fun s=>d.im.t.length*2 ^z - s) 0 (aq9 _) ?_ ?_⟩⟩
 .exact ab.sub ⟨rfl,rfl,DI,rfl,trivial⟩ az
 intro s ax;have ax:s<=d.im.t.length*2 ^z:=ax;refine⟨fun J=>?_,fun J=>?_⟩
 .have J:decide ((s:Int) < ((d.im.t.length*2 ^z:Nat):Int))=true:=J;have hE:s < d.im.t.length*2 ^z:=ay2
  have cC:(0:Int)<=(s:Int)/\(0:Int)<=((z:Nat):Int)/\((z:Nat):Int)<=64:=aw8
  have sV:(s:Int)/((2 ^((z:Nat):Int).toNat:Nat):Int)=((s/2 ^z:Nat):Int):=by
   show(s:Int)/((2 ^z:Nat):Int)=_;rfl
  refine br [11] (cw [(2,ah 5001),(11,ah 46),(55,ac ((d.im.t.length*2 ^z:Nat):Int)),(56,ac (s:Nat)),(12,ac (s:Nat))] (Hp z R L nm (d.im.t.length:Nat) rm (he (m' g es) z s) ((d.im.t.length*2 ^z:Nat):Int) g es)) <| ak (Fn.aV [(1001,5001),(1002,5002)] (T7 ((d.im.t.length*2 ^z:Nat):Int) g es s aY aw0 aw0)) ⟨fun hf=>?_,fun hf=>?_⟩
  .have hf:m' g es s=true:=hf;exact br [] (cw [(2,ah 5001),(11,ah 46),(55,ac ((d.im.t.length*2 ^z:Nat):Int)),(56,ac (s:Nat)),(12,ac (s:Nat))] (Hp z R L nm (d.im.t.length:Nat) rm (he (m' g es) z s) ((d.im.t.length*2 ^z:Nat):Int) g es)) ⟨cC,trivial,rfl,aw0,s+1,hE,aw0,ab.sub az ⟨rfl,rfl,rfl,rfl,rfl,congrArg (fun aB=>some (ba.map ai ai aB)) ((Dz (s/2 ^z) _).trans (congrArg gg (show m9 (he (m' g es) z s) (s/2 ^z)=he (m' g es) z (s+1) from(if_pos hf).symm))),rfl,rfl,rfl,trivial⟩⟩
  .have hf:m' g es s=false:=hf;exact⟨aw0,s+1,hE,aw0,ab.sub az ⟨rfl,rfl,rfl,rfl,rfl,congrArg (fun aB=>some (ba.map ai ai (gg aB))) (show he (m' g es) z s=he (m' g es) z (s+1) from(if_neg (by rw[hf];decide)).symm),rfl,rfl,rfl,trivial⟩⟩
 .have J:decide ((s:Int) < ((d.im.t.length*2 ^z:Nat):Int))=false:=J;have hE:s=d.im.t.length*2 ^z:=ax9
  subst hE;exact⟨_,_,_,ab.trans (ab.aV 46 2001 rfl) (ab.trans (ab.aV 43 2002 rfl) (ab.aV 44 2003 rfl)),rfl,az,az,rfl⟩
end
end
section
theorem air (z R:Int) (L:List aM) (nm:aA0) (n rm:Int) (l:aA1) (g:List (Nat×aA0)) (done:Bool) (a a1:Int):Fn Tryz.prog 100 [ah 2001,ac a,ac a1] (iD z R L nm n rm l g true done) [] (ac 0) (iD z R L nm n rm l g true done):=by
 refine aT [] Tryz.func100 ?_;exact d7 bc
def pq (l:aA1):aA1:=(na (l.map fun k:Nat=>(k:Int))).map Int.toNat
theorem ais (l:aA1):na (g5 (gg l))=(pq l).map fun k:Nat=>(k:Int):=by
 unfold pq;rw[vh,at8]
 conv=>lhs;rw[<-List.map_id (na (l.map fun k:Nat=>(k:Int)))]
 refine as7 fun x hx=>?_
 obtain⟨k,_,rfl⟩:=as5.1 ((yy _).mem_iff.1 hx);rfl
theorem A2 (l:aA1):(pq l).Perm l:=by
 have h:=(yy (l.map fun k:Nat=>(k:Int))).map Int.toNat;rw[at8] at h
 have e:l.map (Int.toNat∘fun k:Nat=>(k:Int))=l:=by
  conv=>rhs;rw[<-List.map_id l]
  exact as7 fun x _=>rfl
 rw[e] at h;exact h
structure Uf where
 e:Int
 l:aA1
 g:List (Nat×aA0)
 over:Bool
def lD (z:Nat) (L:List aM) (nm:aA0) (rm a a1:Int):aA1->aA1->List (Nat×aA0)->Uf
 | [],l,g=>⟨0,l,g,false⟩
 |k::ks,l,g=>if((k*2 ^z+2 ^z:Nat):Int)<=a\/a<=((k*2 ^z:Nat):Int) - a1 then lD z L nm rm a a1 ks l g else if(ek z L nm rm l g k).e=0 then lD z L nm rm a a1 ks (ek z L nm rm l g k).l (ek z L nm rm l g k).g else⟨(ek z L nm rm l g k).e,(ek z L nm rm l g k).l,(ek z L nm rm l g k).g,(ek z L nm rm l g k).over⟩
theorem ait {z:Nat} {L:List aM} {nm:aA0} {rm:Int} {l:aA1} {g:List (Nat×aA0)} {k:Nat} (U:(ek z L nm rm l g k).e=0):(ek z L nm rm l g k).over=false/\(ek z L nm rm l g k).g=g++[(k,e8 z L nm (k:Int))]:=by
 unfold ek at U⊢
 split at U
 .exact absurd U (show¬(171:Int)=0 by decide)
 .rename_i c;rw[if_neg c];exact⟨rfl,rfl⟩
abbrev aiu (a a1:Int) (b:Nat) (ks:List Int) (i:Nat):aX:=[(0,ah 2001),(1,ac a),(2,ac a1),(7,yz 153 b),(27,bv ai ks),(28,ac (ks.length:Nat)),(29,ac (i:Nat))]
theorem aiv {z R:Nat} {L:List aM} (h:cr z R L) (nm:aA0) (n rm:Int) (l:aA1) (g:List (Nat×aA0)) (done:Bool) (a a1:Int) (E:1<=a1) (G:a1<=9223372036854775807) (ap: ∀k,k∈l->k<=256) (qq:l.length<=256) (hn:l.Nodup) (aY: ∀k,k∈l->k∉g.map Prod.fst):
  Fn Tryz.prog 100 [ah 2001,ac a,ac a1] (iD z R L nm n rm l g false done) [] (ac (lD z L nm rm a a1 (pq l) l g).e) (iD z R L nm n rm (lD z L nm rm a a1 (pq l) l g).l (lD z L nm rm a a1 (pq l) l g).g (lD z L nm rm a a1 (pq l) l g).over done):=by
 have Hm:=ah9 (gg l) (Mv hn) (Mw fun k Z=>by have:=ap k Z;omega) (by rw[Mt];omega);rw[ais] at Hm;have ae:=js h.b3;have yv:=h.b3;have hB:(pq l).length=l.length:=(A2 l).length_eq;have t8: ∀k,k∈pq l->k<=256/\k∉g.map Prod.fst:=fun k Z=>⟨ap k ((A2 l).mem_iff.1 Z),aY k ((A2 l).mem_iff.1 Z)⟩
 have r6:(pq l).Nodup:=(A2 l).nodup_iff.2 hn;generalize pq l=iE at*;generalize gM:lD z L nm rm a a1 iE l g=bn at*;refine aT [3,4,9] Tryz.func100 ?_;refine cX ⟨fun h=>absurd (gd h) aw0,fun _=>bk.eH (c5.mark 2001 9001 rfl aw1) fun b=>br [4,9] (cw [(0,ah 2001),(1,ac a),(2,ac a1)] (ua z R L nm n rm l g false done b)) ⟨_,_,fun N=>jM (m:=9001) (b:=b) rfl rfl rfl N,rfl,?_⟩⟩;refine br [9] (cw [(0,ah 2001),(1,ac a),(2,ac a1),(7,yz 153 b)] (ua z R L nm n rm l g false done b)) <| ak (Fn.aV [(1001,2002),(2001,9101)] (Mp (gg l))) <| ak (Fn.aV [(1001,2002),(2001,9101)] Hm) <| dG [9] (X:=Nat×aA1×List (Nat×aA0)) (fun x=>aiu a a1 b (iE.map fun k:Nat=>(k:Int)) x.1) (fun x=>ua z R L nm n rm x.2.1 x.2.2 false done b) (fun x=>x.1<=iE.length/\lD z L nm rm a a1 (iE.drop x.1) x.2.1 x.2.2=bn/\ ∀k,k∈iE.drop x.1->k∉x.2.2.map Prod.fst) (fun x=>iE.length - x.1) (0,l,g) ⟨aq9 _,gM,fun k Z=>(t8 k Z).2⟩ ?_ ?_
 .exact ab.sub az az
 rintro⟨i,gT,g2⟩ ⟨aG,aC,Z⟩;have aG:i<=iE.length:=aG;have aC:lD z L nm rm a a1 (iE.drop i) gT g2=bn:=aC;have Z: ∀k,k∈iE.drop i->k∉g2.map Prod.fst:=Z;refine⟨fun J=>?_,fun J=>?_⟩
 .have J:decide ((i:Int) < (((iE.map fun k:Nat=>(k:Int)).length:Nat):Int))=true:=J;have dJ:i < iE.length:=by have:=gd J;rw[ar7] at this;omega
  have C0:iE.drop i=iE[i]::iE.drop (i+1):=List.drop_eq_getElem_cons dJ
  have lL:fz (α:=aa ai) (iE.map fun k:Nat=>(k:Int)) i=some ((iE[i]:Nat):Int):=by
   show(iE.map fun k:Nat=>(k:Int))[i]? =_;rw[as6,oj dJ];rfl
  have dR:=r6.sublist (List.drop_sublist i iE);rw[C0] at aC Z dR;have Ag:=(at0.1 dR).1;have O:=(t8 _ (as3 dJ)).1;generalize iE[i]=k at*;have xV:=Ub h nm n rm gT g2 done k (Z k (ar4 ..)) b;have bz:=ait (z:=z) (L:=L) (nm:=nm) (rm:=rm) (l:=gT) (g:=g2) (k:=k);have aC:(if((k*2 ^z+2 ^z:Nat):Int)<=a\/a<=((k*2 ^z:Nat):Int) - a1 then lD z L nm rm a a1 (iE.drop (i+1)) gT g2 else if(ek z L nm rm gT g2 k).e=0 then lD z L nm rm a a1 (iE.drop (i+1)) (ek z L nm rm gT g2 k).l (ek z L nm rm gT g2 k).g else⟨(ek z L nm rm gT g2 k).e,(ek z L nm rm gT g2 k).l,(ek z L nm rm gT g2 k).g,(ek z L nm rm gT g2 k).over⟩)=bn:=aC;generalize ek z L nm rm gT g2 k=r at*;have mk:k*2 ^z<=256*8:=Nat.mul_le_mul O ae.2
  have pp:(k:Int)*((2 ^((z:Nat):Int).toNat:Nat):Int)=((k*2 ^z:Nat):Int):=by
   show(k:Int)*((2 ^z:Nat):Int)=_;rw[Int.natCast_mul]
  have r0:(1:Int)*((2 ^((z:Nat):Int).toNat:Nat):Int)=((2 ^z:Nat):Int):=by rw[Int.one_mul];rfl
  have cC:(0:Int)<=(k:Int)/\(0:Int)<=((z:Nat):Int)/\((z:Nat):Int)<=64:=aw8
  have cF:c3 ((k:Int)*((2 ^((z:Nat):Int).toNat:Nat):Int)):=by rw[pp];omega
  have cM:(0:Int)<=(1:Int)/\(0:Int)<=((z:Nat):Int)/\((z:Nat):Int)<=64:=aw8
  have dK:c3 ((1:Int)*((2 ^((z:Nat):Int).toNat:Nat):Int)):=by rw[r0];omega
  have lr:c3 ((k:Int)*((2 ^((z:Nat):Int).toNat:Nat):Int)+(1:Int)*((2 ^((z:Nat):Int).toNat:Nat):Int)):=by rw[pp,r0];omega
  have sQ:c3 ((k:Int)*((2 ^((z:Nat):Int).toNat:Nat):Int) - a1):=by rw[pp];omega
  refine⟨aw0,_,lL,cC,cF,cM,dK,lr,fun cJ=>?_,fun cJ=>?_⟩
  .have cJ:=gd (show decide ((k:Int)*((2 ^((z:Nat):Int).toNat:Nat):Int)+(1:Int)*((2 ^((z:Nat):Int).toNat:Nat):Int)<=a)=true from cJ);rw[pp,r0] at cJ;rw[if_pos (.inl aw0)] at aC;exact⟨aw0,(i+1,gT,g2),⟨dJ,aC,fun q aP=>Z q (aq6 _ aP)⟩,by show iE.length - (i+1) < iE.length - i;omega,ab.sub az az⟩
  have cJ:=mu (show decide ((k:Int)*((2 ^((z:Nat):Int).toNat:Nat):Int)+(1:Int)*((2 ^((z:Nat):Int).toNat:Nat):Int)<=a)=false from cJ);rw[pp,r0] at cJ;refine⟨sQ,fun cG=>?_,fun cG=>?_⟩
  .have cG:=gd (show decide (a<=(k:Int)*((2 ^((z:Nat):Int).toNat:Nat):Int) - a1)=true from cG);rw[pp] at cG;rw[if_pos (.inr cG)] at aC;exact⟨aw0,(i+1,gT,g2),⟨dJ,aC,fun q aP=>Z q (aq6 _ aP)⟩,by show iE.length - (i+1) < iE.length - i;omega,ab.sub az az⟩
  have cG:=mu (show decide (a<=(k:Int)*((2 ^((z:Nat):Int).toNat:Nat):Int) - a1)=false from cG);rw[pp] at cG;rw[if_neg (by rintro(e |e) <;>omega)] at aC;refine br [] (cw [(0,ah 2001),(1,ac a),(2,ac a1),(7,yz 153 b),(27,bv ai (iE.map fun k:Nat=>(k:Int))),(28,ac ((iE.map fun k:Nat=>(k:Int)).length:Nat)),(29,ac (i:Nat)),(9,ac (k:Nat))] (ua z R L nm n rm gT g2 false done b)) ⟨_,_,fun N=>aia rfl rfl rfl rfl xV ax3 rfl N,rfl,?_⟩;refine⟨fun U=>?_,fun U=>?_⟩
  .have U:(!decide (r.e=0))=true:=U;have U: ¬r.e=0:=by simpa using U
   rw[if_neg U] at aC;subst aC;exact bc
  .have U:(!decide (r.e=0))=false:=U;have U:r.e=0:=by simpa using U
   obtain⟨fA,hc⟩:=bz U;rw[if_pos U] at aC
   exact⟨aw0,(i+1,r.l,r.g),⟨dJ,aC,fun q aP aw=>by
    rw[hc,at9,as4] at aw;rcases aw with aw |aw
    .exact Z q (aq6 _ aP) aw
    .have aw:q=k:=by simpa using aw
     exact Ag (aw▸aP)⟩,by show iE.length - (i+1) < iE.length - i;omega,ab.sub az ⟨rfl,rfl,rfl,rfl,congrArg (fun aB=>some (ba.cells (DG nm z n rm aB done))) fA,rfl,rfl,rfl,trivial⟩⟩
 .have J:decide ((i:Int) < (((iE.map fun k:Nat=>(k:Int)).length:Nat):Int))=false:=J;have dJ:i=iE.length:=by have:=mu J;rw[ar7] at this;omega
  subst dJ;rw[List.drop_length] at aC;subst aC;exact bc
section
variable {z R:Nat} {L:List aM} {nm:aA0} {rm:Int} {l:aA1} {g:List (Nat×aA0)}
theorem aiw {d:aM} (H:dk L nm=some d) {k:Nat} (Z:k < d.im.t.length):e8 z L nm (k:Int)=jb z L nm (c' L nm) k:=by
 unfold e8;rw[H];simp only;rw[if_pos ⟨aw0,aw0⟩];rfl
structure fu (z R:Nat) (L:List aM) (nm:aA0) (l:aA1) (g:List (Nat×aA0)):Prop where
 cs:cr z R L
 iB:(dk L nm).isSome=true
 lt: ∀k,k∈l->k < cl L nm
 gF:l.Nodup
 gt: ∀p,p∈g->p.1 < cl L nm/\p.2.length=16*2 ^z
 DJ:(g.map Prod.fst).Nodup
 dj: ∀k,k∈l->k∉g.map Prod.fst
theorem fu.aS (h:fu z R L nm l g):cl L nm<=256:=by
 obtain⟨d,H⟩:=at5.1 h.iB;have:=(h.cs.gf d (cU H).1).1.eN;unfold cl;rw[H];exact this
theorem fu.ls (h:fu z R L nm l g):l.length<=256:=au4 (AV _ l h.gF h.lt) h.aS
theorem fu.MQ (h:fu z R L nm l g):g.length<=256:=by
 have:=AV (cl L nm) (g.map Prod.fst) h.DJ fun x hx=>by
  obtain⟨p,ae,rfl⟩:=as5.1 hx;exact(h.gt p ae).1
 rw[ar7] at this;exact au4 this h.aS
theorem fu.nil (h:fu z R L nm l g):fu z R L nm [] g:=⟨h.cs,h.iB,fun k Z=>(by cases Z),au7,h.gt,h.DJ,fun k Z=>(by cases Z)⟩
theorem fu.wQ {L':List aM} {t:aA0} (h:fu z R L nm l g) (ap:pn L t L'):fu z R L' nm l g:=
 ⟨ap.cs h.cs,by rw[(ap.aS nm).2];exact h.iB,fun k Z=>by rw[(ap.aS nm).1];exact h.lt k Z,h.gF,fun p ae=>by rw[(ap.aS nm).1];exact h.gt p ae,h.DJ,h.dj⟩
theorem fu.MR (h:fu z R L nm l g) (rm:Int) {k:Nat} (Z:k∈l):fu z R L nm (ek z L nm rm l g k).l (ek z L nm rm l g k).g:=by
 unfold ek
 split
 .exact h.nil
 .obtain⟨d,H⟩:=at5.1 h.iB;have ax:cl L nm=d.im.t.length:=ay5
  have hs:=h.lt k Z;refine⟨h.cs,h.iB,fun q aP=>h.lt q (List.mem_of_mem_erase aP),h.gF.erase _,fun p ae=>?_,?_,fun q aP aw=>?_⟩
  .have ae:p∈g++[(k,e8 z L nm (k:Int))]:=ae;rcases as4.1 ae with ae |ae
   .exact h.gt p ae
   .obtain rfl:=ar5.1 ae;refine⟨hs,?_⟩;show(e8 z L nm (k:Int)).length=_;rw[aiw H aw0,wI h.cs.tonC H (h.cs.cg nm).1 k]
  .show((g++[(k,e8 z L nm (k:Int))]).map Prod.fst).Nodup;rw[at9];refine List.nodup_append.2 ⟨h.DJ,List.pairwise_singleton _ _,fun a ha b O=>?_⟩;have O:b=k:=by simpa using O
   rintro rfl;exact h.dj k Z (O▸ha)
  .have aP:q∈l.erase k:=aP;have aw:q∈(g++[(k,e8 z L nm (k:Int))]).map Prod.fst:=aw;rw[at9,as4] at aw;rcases aw with aw |aw
   .exact h.dj q (List.mem_of_mem_erase aP) aw
   .have aw:q=k:=by simpa using aw
    exact((h.gF.mem_erase_iff).1 aP).1 aw
theorem fu.step (h:fu z R L nm l g) (rm:Int) (over done:Bool):fu z R L nm (jd z L nm rm l g over done).l (jd z L nm rm l g over done).g:=by
 unfold jd
 split
 .exact h
 .split
  .exact h.nil
  .rename_i a6;exact h.MR rm (yt a6).2.1
theorem fu.MS (rm a a1:Int): ∀(ks l:aA1) (g:List (Nat×aA0)),fu z R L nm l g->(∀k,k∈ks->k∈l)->ks.Nodup->fu z R L nm (lD z L nm rm a a1 ks l g).l (lD z L nm rm a a1 ks l g).g
 | [],l,g,h,_,_=>h
 |k::ks,l,g,h,Hq,hn=>by
  unfold lD;have hn:=at0.1 hn
  split
  .exact fu.MS rm a a1 ks l g h (fun q aP=>Hq q (aq6 _ aP)) hn.2
  .have Z:=h.MR rm (Hq k (ar4 ..))
   split
   .rename_i U;refine fu.MS rm a a1 ks _ _ Z (fun q aP=>?_) hn.2;have KQ:=Hq q (aq6 _ aP);unfold ek at U⊢
    split
    .rename_i c;rw[if_pos c] at U;exact absurd U (show¬(171:Int)=0 by decide)
    .exact(h.gF.mem_erase_iff).2 ⟨fun e=>hn.1 (e▸aP),KQ⟩
   .exact Z
theorem fu.get (h:fu z R L nm l g): ∃d,dk L nm=some d:=at5.1 h.iB
theorem fu.MD (h:fu z R L nm l g) (n rm:Int) (over done:Bool):Fn Tryz.prog 297 [ah 2001] (iD z R L nm n rm l g over done) [] (.cb [.one (.d (.bool (jd z L nm rm l g over done).sS)),dp (jd z L nm rm l g over done).e])
  (iD z R L nm n rm (jd z L nm rm l g over done).l (jd z L nm rm l g over done).g (jd z L nm rm l g over done).over (jd z L nm rm l g over done).done):=
 aih h.cs nm n rm l g over done (fun k Z=>by have:=h.lt k Z;have:=h.aS;omega) (by have:=h.ls;omega) h.gF h.dj
def jO (z:Nat) (L:List aM) (nm:aA0) (rm a a1:Int) (l:aA1) (g:List (Nat×aA0)) (over:Bool):Uf:=if over=true then⟨0,l,g,true⟩ else if a1 < 1 then⟨0,l,g,false⟩ else lD z L nm rm a a1 (pq l) l g
theorem fu.aix (h:fu z R L nm l g) (rm a a1:Int) (over:Bool):fu z R L nm (jO z L nm rm a a1 l g over).l (jO z L nm rm a a1 l g over).g:=by
 unfold jO
 split
 .exact h
 .split
  .exact h
  .exact fu.MS rm a a1 _ l g h (fun k Z=>(A2 l).mem_iff.1 Z) ((A2 l).nodup_iff.2 h.gF)
theorem aiy (z R:Int) (L:List aM) (nm:aA0) (n rm:Int) (l:aA1) (g:List (Nat×aA0)) (done:Bool) (a a1:Int) (E:a1 < 1):Fn Tryz.prog 100 [ah 2001,ac a,ac a1] (iD z R L nm n rm l g false done) [] (ac 0) (iD z R L nm n rm l g false done):=by
 refine aT [] Tryz.func100 ?_;exact cX ⟨fun _=>bc,fun h=>absurd (mu h) aw0⟩
theorem fu.aiz (h:fu z R L nm l g) (n rm:Int) (over done:Bool) (a a1:Int) (G:a1<=9223372036854775807):Fn Tryz.prog 100 [ah 2001,ac a,ac a1] (iD z R L nm n rm l g over done) [] (ac (jO z L nm rm a a1 l g over).e)
  (iD z R L nm n rm (jO z L nm rm a a1 l g over).l (jO z L nm rm a a1 l g over).g (jO z L nm rm a a1 l g over).over done):=by
 cases over with
 |true=>exact air z R L nm n rm l g done a a1
 |false=>
  by_cases E:a1 < 1
  .have e:jO z L nm rm a a1 l g false=⟨0,l,g,false⟩:=(if_neg aw1).trans (if_pos E);rw[e];exact aiy z R L nm n rm l g done a a1 E
  .have e:jO z L nm rm a a1 l g false=lD z L nm rm a a1 (pq l) l g:=(if_neg aw1).trans (if_neg E);rw[e];exact aiv h.cs nm n rm l g done a a1 aw0 G (fun k Z=>by have:=h.lt k Z;have:=h.aS;omega) h.ls h.gF h.dj
theorem fu.aiA (h:fu z R L nm l g) (n rm:Int) (over:Bool):Fn Tryz.prog 121 [ah 2001] (iD z R L nm n rm l g over true) [] (.cb [.one (.d (.cf ub (k2 g))),.one (.d (.int .i64 n)),.one (.d (.bool true))]) (iD z R L nm n rm l g over true):=
 aii z R L nm n rm l g over h.DJ (fun p ae=>by
  have E:=h.gt p ae;have G:=h.aS;have al:=js h.cs.b3;exact⟨aw0,by rw[E.2];omega⟩) (by have:=h.MQ;omega)
end
theorem aiB (l:List Int):(na l).Pairwise fun a b=>yx a b=true:=
 List.pairwise_mergeSort (le:=yx) (fun a b c E G=>ar6 (Int.le_trans (gd E) (gd G))) (fun a b=>by
  rcases Int.le_total a b with h |h
  .rw[show yx a b=true from ar6 h];rfl
  .rw[show yx b a=true from ar6 h];exact Bool.or_true _) l
theorem Ug {l m:List Int} (ae:m.Perm l) (ax:m.Pairwise fun a b=>yx a b=true):na l=m:=
 List.Perm.eq_of_pairwise (fun a b _ _ E G=>Int.le_antisymm (gd E) (gd G)) (aiB l) ax ((yy l).trans ae.symm)
theorem aiC:pq [0,1]=[0,1]:=by
 show(na [(0:Int),1]).map Int.toNat=_;rw[Ug (m:=[0,1]) (List.Perm.refl _) aw1];rfl
end
section
section
variable {z R:Nat} {L:List aM} {top base:aA0}
theorem aiD {j:Nat} (h:cr z R L) {d:aM} (H:dk L top=some d) (V:j<=c' L top) (fH: ∀i,i < j->eT L (i+1) top≠base) (l4:j=c' L top\/eT L (j+1) top=base):(eO L (c' L top) top).take j=kj L top base:=by
 have cp:=(h.cg top).1;have ap:=rX cp;unfold kj;refine(TL _ _ j aw0 (fun i x aG hx=>?_) ?_).symm
 .rw[Hc cp aw0] at hx;injection hx with hx
  subst hx;have:=fH i aG;simp[this]
 .rcases l4 with l4 |l4
  .exact .inl aw0
  .by_cases c:j=c' L top
   .exact .inl aw0
   .exact .inr ⟨_,Hc cp aw0,by rw[l4];simp⟩
theorem aiE {j:Nat} (h:cr z R L) {d:aM} (H:dk L top=some d) (V:j<=c' L top) (l4:eT L (j+1) top=base):lB L top base=true:=by
 have cp:=(h.cg top).1;unfold lB;rw[H,Option.isSome_some,Bool.true_and,Bool.or_eq_true]
 by_cases c:j=c' L top
 .rw[c,Mk h cp ⟨d,H⟩] at l4;exact .inl (ar6 l4.symm)
 .refine .inr (ar6 ?_);have:=Hc cp (i:=j) aw0;rw[l4] at this;exact List.mem_of_getElem? this
theorem aiF (h:cr z R L) {d:aM} (H:dk L top=some d) (fH: ∀i,i<=c' L top->eT L (i+1) top≠base):lB L top base=false:=by
 have cp:=(h.cg top).1;unfold lB;rw[H,Option.isSome_some,Bool.true_and,Bool.or_eq_false_iff];constructor
 .refine at3 fun e=>fH _ (aq4 _) ?_
  rw[Mk h cp ⟨d,H⟩,e]
 .refine at3 fun e=>?_
  obtain⟨i,aG,hx⟩:=List.getElem_of_mem e;have ap:=rX cp;have:=Hc cp (i:=i) aw0;rw[oj aG,hx] at this;injection this with this
  exact fH i aw0 this.symm
abbrev Uh (base:aA0) (a:aA0) (c:Nat):aX:=[(0,ah 1001),(2,bQ base),(8,eX c),(9,bQ a),(10,ac 0)]
abbrev Ui (z R:Int) (L:List aM) (c:Nat) (x:List aA0):ay:=bS z R L++[(c,.row 9 .str x)]
theorem MT (h:cr z R L) {d:aM} (H:dk L top=some d) (base:aA0):Fn Tryz.prog 117 [ah 1001,bQ top,bQ base] (bS z R L) [] (.cb [.one (.d (.cf .str (kj L top base))),.one (.d (.bool (lB L top base)))]) (bS z R L):=by
 have cp:=(h.cg top).1;have gJ:=(h.cg top).2;have gE:=rX cp;have iS:=fun j V=>Mj h cp ⟨d,H⟩ j V
 have l4:=Mk h cp ⟨d,H⟩
 have t6:gH L top=(eT L 1 top,0):=by
  unfold gH;rw[show eT L 1 top=d.back by rw[AF];show(match dk L top with |none=>top |some d=>d.back)=_;rw[H],H]
 have li: ∀j,j < c' L top->gH L (eT L (j+1) top)=(eT L (j+1+1) top,0)/\eT L (j+1) top≠[]:=fun j V=>by
  obtain⟨e,U⟩:=iS (j+1) V;refine⟨?_,ag5 h ⟨e,U⟩⟩;unfold gH;rw[AF L (j+1),U]
 have np: ∀j,j < c' L top->(eO L (c' L top) top).take (j+1)=(eO L (c' L top) top).take j++[eT L (j+1) top]:=fun j V=>GP cp j V
 have jL:=fun j V fH U=>aiD (j:=j) (base:=base) h H V fH U
 have aiG:=fun j V U=>aiE (j:=j) (base:=base) h H V U
 have aiH:=fun fH=>aiF (base:=base) h H fH
 have Al:=G4 h top;rw[t6] at Al;generalize kj L top base=j7 at*;generalize lB L top base=s2 at*;generalize eO L (c' L top) top=hK at*;generalize c' L top=tB at*;refine aT [3,5,7] Tryz.func117 ?_;refine ak Al <| dG [5,7] (X:=Nat) (fun j=>Uh base (eT L (j+1) top) 5002) (fun j=>Ui z R L 5002 (hK.take j)) (fun j=>j<=tB/\ ∀i,i < j->eT L (i+1) top≠base) (fun j=>tB - j) 0 ⟨aq9 _,fun i aG=>absurd aG (av5 i)⟩ ?_ ?_
 .exact(ab.nil 8 5002 9 .str rfl rfl).trans (ab.sub az az)
 rintro j ⟨V,fH⟩;refine d7 ⟨fun E=>?_,fun E=>?_⟩
 .have E:(!decide (eT L (j+1) top=base))=true:=E;have E: ¬eT L (j+1) top=base:=ay8
  refine⟨fun G=>?_,fun G=>?_⟩
  .have G:eT L (j+1) top=[]:=gd G
   have DK:j=tB:=by
    rcases Nat.lt_or_ge j tB with bj |bj
    .exact absurd G (li j bj).2
    .omega
   have MU:hK.take j=j7:=jL j V fH (.inl DK)
   have vV:s2=false:=aiH fun i aG=>by
    rcases Nat.lt_or_ge i j with bj |bj
    .exact fH i bj
    .rw[show i=j by omega];exact E
   exact br [] (bq) <| d7 ⟨_,_,_,ab.d3 5002 rfl,rfl,⟨MU,(show decide (eT L (j+1) top=base)=s2 by rw[at3 E,vV]),trivial⟩,az,rfl⟩
  .have G: ¬eT L (j+1) top=[]:=mu G
   have DK:j < tB:=by
    rcases Nat.lt_or_ge j tB with bj |bj
    .exact bj
    .exact absurd (by rw[show j=tB by omega];exact l4) G
   have Uj:=G4 h (eT L (j+1) top);rw[(li j DK).1] at Uj;have m:List.length (α:=aA0) (hK.take j)+1<=4294967296:=ax7
   have e:=np j DK;refine br [7] (bq) ⟨m,rfl,ak Uj ⟨j+1,⟨DK,fun i aG=>?_⟩,aw0,?_⟩⟩
   .rcases Nat.lt_or_ge i j with bj |bj
    .exact fH i bj
    .rw[show i=j by omega];exact E
   refine ab.trans (ab.sub (K':=Uh base (eT L (j+1+1) top) 29) (B':=Ui z R L 29 (hK.take (j+1))) az ⟨rfl,rfl,rfl,rfl,congrArg (fun aB:List aA0=>some (ba.row 9 .str aB)) e.symm,trivial⟩) ?_;exact(ab.aV 29 5002 rfl).trans (ab.sub az az)
 .have E:(!decide (eT L (j+1) top=base))=false:=E;have E:eT L (j+1) top=base:=ay8
  have MU:hK.take j=j7:=jL j V fH (.inr E);have vV:s2=true:=aiG j V E;exact br [] (bq) <| d7 ⟨_,_,_,ab.d3 5002 rfl,rfl,⟨MU,(show decide (eT L (j+1) top=base)=s2 by rw[ar6 E,vV]),trivial⟩,az,rfl⟩
abbrev Hr (top base:aA0) (over:Bool):List bC:=[.ptr 1001 0,.d (.str top),.d (.str base),.d (.bool over)]
abbrev p8 (z R:Int) (L:List aM) (top base:aA0) (over:Bool):ay:=bS z R L++[(2001,.cells (Hr top base over))]
def vl (L:List aM) (top base:aA0):Int:=if(dk L top).isSome=false then 140 else if lB L top base=false\/kj L top base=[] then 1 else 0
theorem aiI (h:cr z R L) (top base:aA0) (U:vl L top base≠0):Fn Tryz.prog 73 [ah 1001,bQ top,bQ base] (bS z R L) [] (.cb [mZ,dp (vl L top base)]) (bS z R L):=by
 unfold vl at U⊢
 cases H:dk L top with
 |none=>
  rw[if_pos (show(none:Option aM).isSome=false from rfl)];refine aT [] Tryz.func73 ?_;exact ak (afs _ _ L top H) bc
 |some d=>
  have bJ: ¬(some d).isSome=false:=by simp
  rw[H,if_neg bJ] at U;rw[if_neg bJ];have O:lB L top base=false\/kj L top base=[]:=Decidable.byContradiction fun x=>U (if_neg x)
  rw[if_pos O];have kv:=MT h H base;generalize lB L top base=s2 at*;generalize kj L top base=j7 at*;refine aT [] Tryz.func73 ?_;refine ak (jK _ _ L h.toh8 top d H) ⟨fun _ _=>ak kv ⟨fun _=>?_,fun E=>?_⟩,fun h=>by cases h⟩
  .exact bc
  .refine⟨fun _=>?_,fun G=>?_⟩
   .exact bc
   .exfalso;have E:(!s2)=false:=E;have G:decide (((j7.length:Nat):Int)=0)=false:=G;have G:=mu G;rcases O with O |O
    .rw[O] at E;cases E
    .rw[O] at G;exact G rfl
theorem aiJ (U:vl L top base=0):(∃d,dk L top=some d)/\lB L top base=true/\kj L top base≠[]:=by
 unfold vl at U
 split at U
 .exact absurd U aw1
 .rename_i E
  split at U
  .exact absurd U aw1
  .rename_i G;refine⟨at5.1 (by rw[Bool.not_eq_false] at E;exact E),?_,fun e=>G (.inr e)⟩
   cases e:lB L top base with
   |true=>rfl
   |false=>exact absurd (.inl e) G
theorem aiK (h:cr z R L) (top base:aA0) (U:vl L top base=0):Fn Tryz.prog 73 [ah 1001,bQ top,bQ base] (bS z R L) [2001] (.cb [.one (.ptr 2001 0),dp 0]) (p8 z R L top base false):=by
 obtain⟨⟨d,H⟩,E,G⟩:=aiJ U;have kv:=MT h H base;rw[E] at kv;generalize kj L top base=j7 at*;refine aT [] Tryz.func73 ?_;refine ak (jK _ _ L h.toh8 top d H) ⟨fun _ _=>ak kv <| cX ⟨fun al=>?_,fun _=>?_⟩,fun h=>by cases h⟩
 .exfalso;have al:decide (((j7.length:Nat):Int)=0)=true:=al;have al:=gd al;exact G (List.length_eq_zero_iff.1 aw0)
 exact⟨rfl,_,_,_,(ab.aV 32 2001 rfl).trans (ab.s0 2001 (l':=Hr top base false) rfl az),rfl,az,az,rfl⟩
theorem aiL (z R:Int) (L:List aM) (top base:aA0) (over:Bool):Fn Tryz.prog 300 [ah 2001] (p8 z R L top base over) [] (fk over) (p8 z R L top base over):=by
 refine aT [] Tryz.func300 ?_;exact bc
theorem aiM (z R:Int) (L:List aM) (top base:aA0) (over:Bool):Fn Tryz.prog 299 [ah 2001] (p8 z R L top base over) [] gV (p8 z R L top base true):=by
 refine aT [] Tryz.func299 ?_;exact⟨_,_,_,ab.s0 2001 (l':=Hr top base true) rfl az,rfl,trivial,az,rfl⟩
theorem Uk (h:cr z R L) (top base:aA0) (over:Bool) (n:aA0) (k:Nat) {e:aM} (U:dk L n=some e):Fn Tryz.prog 304 [bQ n,ac (k:Int),ah 3001] (p8 z R L top base over++[(3001,.cells [.ptr 2001 0])]) [] (fk (hJ L n k)) (p8 z R L top base over++[(3001,.cells [.ptr 2001 0])]):=by
 have nB:=(h.gf e (cU U).1).1.eN;have fJ:=h.toh8.M (cU U).1;have aiN:hJ L n k=(decide (e.im.t.length<=k)||decide ((e.im.t.getD k cy).1=0)):=by unfold hJ;rw[U]
 rw[aiN];refine aT [] Tryz.func304 ?_;refine ak (jK _ _ L h.toh8 n e U) <| ak (h9 (nz e.im) fJ rfl rfl rfl rfl) ⟨fun E=>?_,fun E=>?_⟩
 .have E:((e.im.t.length:Nat):Int)<=(k:Int):=gd E;exact ej bq rfl (show true=_ by rw[ar6 (by omega:e.im.t.length<=k)];rfl)
 .have E: ¬((e.im.t.length:Nat):Int)<=(k:Int):=mu E;refine ak (h9 (AB e.im nB k aw0) fJ rfl rfl rfl rfl) ?_;exact ej bq rfl (show decide ((e.im.t.getD k cy).1=0)=_ by rw[at3 (by omega: ¬e.im.t.length<=k)];rfl)
def p9 (L:List aM) (top base:aA0) (over:Bool):Int×Bool:=if over=true then(0,false) else match rZ L top base with
 |some k=>((k:Int),true)
 |none=>(0,false)
abbrev aiO (l:List aA0) (n k:Nat):aX:=[(1,ah 1),(5,bv .str l),(7,.c (.one (.cY 304 [.p 1 0]))),(50,ac (n:Int)),(51,ac (k:Int))]
abbrev aiP (l:List aA0) (n k i:Nat):aX:=[(1,ah 1),(5,bv .str l),(7,.c (.one (.cY 304 [.p 1 0]))),(50,ac (n:Int)),(51,ac (k:Int)),(8,ac (k:Int)),(54,bv .str l),(55,ac (l.length:Nat)),(56,ac (i:Int))]
abbrev Hs (z R:Int) (L:List aM) (top base:aA0) (over:Bool):ay:=p8 z R L top base over++[(1,.cells [.ptr 2001 0])]
theorem aiQ {α:Type} (p:α->Bool) {l:List α} {i:Nat} (h:i < l.length) (av:(l.take i).any p=false) (E:p l[i]=false):(l.take (i+1)).any p=false:=by
 rw[List.take_add_one,oj h,List.any_append,av];show(false||(p l[i]||false))=false;rw[E];rfl
theorem aiR (h:cr z R L) (base:aA0) (over:Bool) {d:aM} (H:dk L top=some d):Fn Tryz.prog 302 [ah 2001] (p8 z R L top base over) [] (.cb [.one (.d (.int .i64 (p9 L top base over).1)),.one (.d (.bool (p9 L top base over).2))]) (p8 z R L top base over):=by
 have kv:=MT h H base;have nB:=(h.gf d (cU H).1).1.eN;have fJ:=h.toh8.M (cU H).1;have cu:cl L top=d.im.t.length:=ay5
 have Tb:(kj L top base).length<=16:=by
  have E:(kj L top base).length<=(eO L (c' L top) top).length:=(List.takeWhile_sublist _).length_le;rw[rX (h.cg top).1] at E;have:=(h.cg top).2;omega
 have iS: ∀n,n∈kj L top base-> ∃e,dk L n=some e:=fun n hn=>(TM h H n hn).2
 have bl: ∀k,l2 L top base k=(hJ L top k&&(kj L top base).any fun n=> !hJ L n k):=fun k=>rfl
 have aiS:over=true->p9 L top base over=(0,false):=fun e=>if_pos e
 have aiT:over=false->lB L top base=false->p9 L top base over=(0,false):=fun af ao=>by
  unfold p9 rZ;rw[af,ao];rfl
 have aiU:over=false->lB L top base=true-> ∀k,k < cl L top->l2 L top base k=true->(∀j,j < k->l2 L top base j=false)->p9 L top base over=((k:Int),true):=fun af ao k Z ae hn=>by
  unfold p9 rZ;rw[af,if_neg aw1,if_pos ao,List.find?_range_eq_some.2 ⟨ae,List.mem_range.2 Z,fun j V=>by simp[hn j V]⟩]
 have aiV:over=false->(∀k,k < cl L top->l2 L top base k=false)->p9 L top base over=(0,false):=fun af hn=>by
  unfold p9;rw[af,if_neg aw1,ahw hn]
 have Hh:=fun k=>Uk h top base over top k H
 have aiW:=fun n (hn:n∈kj L top base) k=>Uk h top base over n k (iS n hn).choose_spec
 generalize p9 L top base over=Ul at*;generalize lB L top base=s2 at*;generalize kj L top base=j7 at*;generalize cl L top=n at*;subst cu;refine aT [5] Tryz.func302 ?_;refine⟨rfl,ak (jK _ _ L h.toh8 top d H) ⟨rfl,ak kv ⟨rfl,fun ag=>?_,fun ag=>?_⟩⟩⟩
 .have e:=aiS ag;exact ej bq rfl ⟨congrArg Prod.fst e.symm,congrArg Prod.snd e.symm,trivial⟩
 have ag:over=false:=ag;refine⟨fun _ _=>⟨fun aG=>?_,fun aG=>?_⟩,fun h=>by cases h⟩
 .have aG:s2=false:=by
   have aG:(!s2)=true:=aG;simpa using aG
  have e:=aiT ag aG;exact ej bq rfl ⟨congrArg Prod.fst e.symm,congrArg Prod.snd e.symm,trivial⟩
 have aG:s2=true:=by
  have aG:(!s2)=false:=aG;simpa using aG
 refine br [] (cw [(1,ah 1),(4,c8 d.am),(5,bv .str j7)] (Hs z R L top base over)) <| ak (h9 (nz d.im) fJ rfl rfl rfl rfl) <| dG [16] (X:=Nat) (aiO j7 d.im.t.length) (fun _=>Hs z R L top base over) (fun k=>k<=d.im.t.length/\ ∀j,j < k->l2 L top base j=false) (fun k=>d.im.t.length - k) 0 ⟨aq9 _,fun j V=>absurd V (av5 j)⟩ ?_ ?_
 .exact ab.sub az az
 rintro k ⟨Z,fH⟩;have Z:k<=d.im.t.length:=Z;refine⟨fun J=>?_,fun J=>?_⟩
 .have J:decide ((k:Int) < ((d.im.t.length:Nat):Int))=true:=J;have b':k < d.im.t.length:=ay2
  refine dG [12,16] (X:=Nat) (aiP j7 d.im.t.length k) (fun _=>Hs z R L top base over) (fun i=>i<=j7.length/\(hJ L top k&&(j7.take i).any fun n=> !hJ L n k)=false) (fun i=>j7.length - i) 0 ⟨aq9 _,Bool.and_false _⟩ ?_ ?_
  .exact ab.sub az az
  rintro i ⟨dJ,ox⟩;have dJ:i<=j7.length:=dJ;refine⟨fun J=>?_,fun J=>?_⟩
  .have J:decide ((i:Int) < ((j7.length:Nat):Int))=true:=J;have wR:i < j7.length:=ay2
   have bj:=aiW _ (as3 wR) k;have jL:=fun(a:(j7.take i).any (fun n=> !hJ L n k)=false) (b:(!hJ L j7[i] k)=false)=>aiQ (fun n=> !hJ L n k) wR a b
   have h4:=as3 wR;have lL:=iR (n:=i) wR;generalize j7[i]=nm at*;refine⟨aw0,nm,lL,br [16] (cw [(1,ah 1),(5,bv .str j7),(7,.c (.one (.cY 304 [.p 1 0]))),(50,ac (d.im.t.length:Nat)),(51,ac (k:Int)),(8,ac (k:Int)),(54,bv .str j7),(55,ac (j7.length:Nat)),(56,ac (i:Int)),(10,bQ nm)] (Hs z R L top base over)) <| ak (Fn.aV [(3001,1)] (Hh k)) ⟨fun g1=>?_,fun g1=>?_⟩⟩
   .have g1:hJ L top k=true:=g1;refine ak (Fn.aV [(3001,1)] bj) ⟨fun g2=>?_,fun g2=>?_⟩
    .have g2:(!hJ L nm k)=true:=g2
     have MV:l2 L top base k=true:=by
      rw[bl,g1,Bool.true_and,List.any_eq_true];exact⟨nm,h4,g2⟩
     have e:=aiU ag aG k b' MV fH;exact ej bq rfl ⟨congrArg Prod.fst e.symm,congrArg Prod.snd e.symm,trivial⟩
    .have g2:(!hJ L nm k)=false:=g2;rw[g1,Bool.true_and] at ox;exact⟨aw0,i+1,⟨wR,by rw[g1,Bool.true_and];exact jL ox g2⟩,aw0,ab.sub az az⟩
   .have g1:hJ L top k=false:=g1;exact⟨aw0,i+1,⟨wR,by rw[g1];rfl⟩,aw0,ab.sub az az⟩
  .have J:decide ((i:Int) < ((j7.length:Nat):Int))=false:=J;have wR:i=j7.length:=ax9
   have MV:l2 L top base k=false:=by
    rw[bl,<-ox,wR,as2]
   exact⟨aw0,k+1,⟨b',fun j V=>by
    rcases Nat.lt_or_ge j k with bj |bj
    .exact fH j bj
    .rw[show j=k by omega];exact MV⟩,aw0,ab.sub az az⟩
 .have J:decide ((k:Int) < ((d.im.t.length:Nat):Int))=false:=J;have fc:k=d.im.t.length:=ax9
  have e:=aiV ag fun j V=>fH j aw0
  exact ej bq rfl ⟨congrArg Prod.fst e.symm,congrArg Prod.snd e.symm,trivial⟩
theorem aiX (h:cr z R L) (base:aA0) (over:Bool) {d:aM} (H:dk L top=some d):Fn Tryz.prog 301 [ah 2001] (p8 z R L top base over) [] (.cb [.one (.d (.bool (hU z L top base over).done)),dp (hU z L top base over).e]) (p8 z R (hU z L top base over).L top base (hU z L top base over).over):=by
 have vm:=aiR h base over H;have nB:=(h.gf d (cU H).1).1.eN;have fJ:=h.toh8.M (cU H).1;have kv:d.im.z=z:=(h.gf d (cU H).1).2.1;have yv:=h.b3;have ae:=js h.b3
 cases over with
 |true=>
  have e:hU z L top base true=⟨false,160,L,true⟩:=rfl;rw[e];refine aT [] Tryz.func301 ?_;exact ak (jK _ _ L h.toh8 top d H) ⟨rfl,d7 bc⟩
 |false=>
  have bJ:hU z L top base false=match rZ L top base with
   |some k=>⟨false,(eU z L top ((k*2 ^z:Nat):Int) (e8 z L top (k:Int))).e,(eU z L top ((k*2 ^z:Nat):Int) (e8 z L top (k:Int))).L,false⟩
   |none=>⟨decide ((jc L top base).e=0),(jc L top base).e,(jc L top base).L,decide ((jc L top base).e=0)⟩:=by
   unfold hU;rw[H];rfl
  cases hn:rZ L top base with
  |some k=>
   rw[hn] at bJ;have bJ:hU z L top base false=⟨false,(eU z L top ((k*2 ^z:Nat):Int) (e8 z L top (k:Int))).e,(eU z L top ((k*2 ^z:Nat):Int) (e8 z L top (k:Int))).L,false⟩:=bJ;rw[bJ]
   have J:p9 L top base false=((k:Int),true):=by
    unfold p9;rw[hn];rfl
   rw[J] at vm
   have Z:k < d.im.t.length:=by
    have:=(TX hn).2.1;unfold cl at this;rw[H] at this;exact this
   have Um:(k:Int)*((2 ^((d.im.z:Nat):Int).toNat:Nat):Int)=((k*2 ^z:Nat):Int):=by
    rw[kv];show(k:Int)*((2 ^z:Nat):Int)=_;rw[Int.natCast_mul]
   have dF:=Mi h top (k:Int)
   have bZ:(e8 z L top (k:Int)).length<=1000000000:=by
    have:e8 z L top (k:Int)=jb z L top (c' L top) k:=by
     unfold e8;rw[H];simp only;rw[if_pos ⟨aw0,aw0⟩];rfl
    rw[this,wI h.tonC H (h.cg top).1 k];omega
   have Hj:=Mh h top ((k*2 ^z:Nat):Int) (e8 z L top (k:Int)) bZ;rw[<-Um] at Hj⊢;generalize e8 z L top (k:Int)=x at*;generalize eU z L top ((k:Int)*((2 ^((d.im.z:Nat):Int).toNat:Nat):Int)) x=aqx at*;have m1:(0:Int)<=(k:Int)/\(0:Int)<=((d.im.z:Nat):Int)/\((d.im.z:Nat):Int)<=64:=aw8
   have mk:k*2 ^z<=256*8:=Nat.mul_le_mul aw0 ae.2;have m2:c3 ((k:Int)*((2 ^((d.im.z:Nat):Int).toNat:Nat):Int)):=by rw[Um];omega
   refine aT [6] Tryz.func301 ?_;exact ak (jK _ _ L h.toh8 top d H) ⟨rfl,cX ⟨fun _ _=>ak vm ⟨fun _=>br [] (cw [(0,ah 2001),(4,c8 d.am),(5,ac (k:Int))] (p8 z R L top base false)) <| ak (h9 (wO d.im) fJ rfl rfl rfl rfl) ⟨m1,m2,ak dF <| ak Hj ⟨rfl,bc⟩⟩,fun h=>absurd (show true=false from h) aw1⟩,fun h=>by cases h⟩⟩
  |none=>
   rw[hn] at bJ;have bJ:hU z L top base false=⟨decide ((jc L top base).e=0),(jc L top base).e,(jc L top base).L,decide ((jc L top base).e=0)⟩:=bJ;rw[bJ]
   have J:p9 L top base false=(0,false):=by
    unfold p9;rw[hn];rfl
   rw[J] at vm;have yB:=ag4 h top base;generalize jc L top base=aqy at*;refine aT [7] Tryz.func301 ?_;exact ak (jK _ _ L h.toh8 top d H) ⟨rfl,cX ⟨fun _ _=>ak vm <| cX <| br [] (cw [(0,ah 2001)] (p8 z R L top base false)) <| ak yB ⟨rfl,bc⟩,fun h=>by cases h⟩⟩
end
end
section
section
variable {P:Program} {ids:aA1} {K:aX} {B:ay}
theorem aiY {o:Oper} {T:TypeId} {x v:Operand} {c i off:Nat} {e:TypeId} {u:bA} {xs:List (aa u)} {y y':aa u} {Ht:D} {de:TypeInfo} (ag:o.op= .store T x v) (aG:P.info? T=some de) (aR:de.size=1) (hx:a7 K x= .c (.one (.gj c (aS u) i off)))
  (aA:a7 K v= .c (.one (.d Ht))) (dy:aj B c=some (.row e u xs)) (aD:fz xs i=some y) (CM:off < aS u) (ny:oS u y') (J: ∀j,j < aS u->fM u y' j=if j=off then Ht else fM u y j)
  (E: ∀{I:Nat->Prop} {w:World} {aB:Value},gP I w Ht aB->aB.cells=List.toArray [aB]/\aB.oneCell'=true) (N:Nat):
  bB P N ids o K B .undef ⟨[c],[],[(c,some (.row e u (xs.set i y')))]⟩:=by
 have m1:x∈o.op.operands:=aw7
 have m2:v∈o.op.operands:=aw7
 have wS:i < xs.length:=BI aD;refine bB.h0 dy fun K' B' g1 C ρ F a w ar au f1=>?_
 obtain⟨bd,jY,cs,dC,jZ⟩:=ar.holds c _ f1;have JO:=au.gj ((g1 x m1).trans hx);have ao:gP (b5 C B' F w) w Ht (a.eval v):=au.ev ((g1 v m2).trans aA);obtain⟨hM,jj⟩:=E ao;obtain⟨qm,dC⟩:=dC;rcases dC with⟨_,av⟩ |⟨g,cap,df,o0,_,aY,xC,aw,cu,cn⟩
 .omega
 .have uE:g=(ρ c).bh:=jY g (by rw[o0];rfl);subst uE
  have Un:i*aS u+off < xs.length*aS u:=by
   have:=Nat.mul_le_mul_right (aS u) wS;rw[Nat.succ_mul] at this;omega
  have aqz:xs.length*aS u<=cap*aS u:=Nat.mul_le_mul_right _ xC;have uF:w.heap[(ρ c).bh]? =some (.cells (List.toArray df.toList) e (0,0)):=by simpa using aY
  have lg:i*aS u+off+ [a.eval v].length<=df.toList.length:=ax4
  have uG:=BU (P:=P) (ev:=a.eval) (w:=w) ag JO hM aG aR uF lg (by simpa using jj);refine⟨_,uG,Fi ((bd _).2 (by rw[o0];rfl)),fun I U=>?_⟩;have o1:=setRow_heap w (ρ c).bh df (List.take (i*aS u+off) df.toList++[a.eval v]++List.drop (i*aS u+off+ [a.eval v].length) df.toList).toArray e (0,0) aY
  have gZ:(List.take (i*aS u+off) df.toList++[a.eval v]++List.drop (i*aS u+off+ [a.eval v].length) df.toList)=df.toList.set (i*aS u+off) (a.eval v):=by
   rw[List.set_eq_take_append_cons_drop,if_pos ax4];simp
  rw[gZ] at o1;refine⟨bd,jY,cs.set (i*aS u+off) (a.eval v),⟨by simp[qm],.inr ⟨(ρ c).bh,cap,_,by rw[o0];simp,aq9 _,by rw[gZ];exact o1,by simpa using xC,aw,by simp[cu],?_⟩⟩,fun j aB aR=>?_⟩
  .rw[<-cn];simp[List.take_set]
  .by_cases kZ:i=j
   .subst kZ;rw[List.getElem?_set_self wS] at aR;injection aR with aR
    subst aR;have H:=jZ i y aD;refine cq.mk u y' _ ny fun q aP=>?_
    rw[J q aP]
    by_cases Cw:q=off
    .rw[if_pos Cw];subst Cw;exact⟨a.eval v,by rw[List.getElem?_set_self aw0],gP.mono U _ _ ao⟩
    .rw[if_neg Cw];obtain⟨x,hx,pN⟩:=cq.cell u y _ q H aP;exact⟨x,by rw[List.getElem?_set_ne aw0];exact hx,gP.mono U _ _ pN⟩
   .rw[List.getElem?_set_ne kZ] at aR;have H:=jZ j aB aR;refine cq.mk u aB _ (cq.wf u aB _ H) fun q aP=>?_
    obtain⟨x,hx,pN⟩:=cq.cell u aB _ q H aP;refine⟨x,?_,gP.mono U _ _ pN⟩;rw[List.getElem?_set_ne ?_]
    .exact hx
    .intro e;have E:(i*aS u+off)/aS u=i:=by rw[Nat.mul_comm,Nat.mul_add_div aw0,Nat.div_eq_of_lt CM,Nat.add_zero]
     have G:(j*aS u+q)/aS u=j:=by rw[Nat.mul_comm,Nat.mul_add_div aw0,Nat.div_eq_of_lt aP,Nat.add_zero]
     rw[e,G] at E;exact kZ E.symm
end
theorem aiZ {I:Nat->Prop} {w:World} {n:Int} {aB:Value} (h:gP I w (.int .i64 n) aB):aB.cells=List.toArray [aB]/\aB.oneCell'=true:=by
 have h:aB= .int .i64 n:=h;subst h;exact⟨rfl,rfl⟩
theorem ai0:(Tryz.prog.info? 3).map (·.size)=some 1:=by kernel_rfl
abbrev hV:bA:=.bK ai (.bK ai ai)
abbrev dU:=Int×Int×Int
abbrev ai1 (x:dU):List bC:=[.d (.int .i64 x.1),.d (.int .i64 x.2.1),.d (.int .i64 x.2.2)]
def g7 (l:List dU):Int:=match l.getLast? with
 |none=>0
 |some x=>x.1+x.2.1
def mz (l:List dU) (n k:Int):List dU:=if n < 1 then l else match l.getLast? with
 |some x=>if x.2.2=k then l.set (l.length - 1) (x.1,x.2.1+n,x.2.2) else l++[(g7 l,n,k)]
 |none=>l++[(g7 l,n,k)]
theorem A3 {α:Type} {l:List α} {x:α} (h:l.getLast? =some x):0 < l.length/\fz l (l.length - 1)=some x:=by
 rw[List.getLast?_eq_getElem?] at h;exact⟨by have:=(ar1.1 h).1;omega,h⟩
theorem MW {α:Type} {l:List α} (h:l.getLast? =none):l=[]:=aw9
theorem ai2 (l:List dU) (O: ∀x,l.getLast? =some x-> -4611686018427387904<=x.1/\x.1<=4611686018427387903/\ -4611686018427387904<=x.2.1/\x.2.1<=4611686018427387903) (ap:l.length<=4294967296):
  Fn Tryz.prog 261 [eX 1001] [(1001,.row 293 hV l)] [] (ac (g7 l)) [(1001,.row 293 hV l)]:=by
 refine aT [] Tryz.func261 ?_;refine⟨fun h=>?_,fun h=>?_⟩
 .have h:((l.length:Nat):Int)=0:=gd h;have av:l=[]:=List.length_eq_zero_iff.1 aw0;subst av;exact bc
 .have h: ¬((l.length:Nat):Int)=0:=mu h
  cases hx:l.getLast? with
  |none=>rw[MW hx] at h;exact absurd rfl h
  |some x=>
   have O:=O x hx;obtain⟨av,aY⟩:=A3 hx;have e:(((l.length:Nat):Int) - 1).toNat=l.length - 1:=aw8
   have m:c3 (((l.length:Nat):Int) - 1):=aw8
   have m2:(0:Int)<=((l.length:Nat):Int) - 1/\(((l.length:Nat):Int) - 1).toNat < l.length:=aw8
   have m3:c3 (x.1+x.2.1):=aw8
   have rM:fz l (((l.length:Nat):Int) - 1).toNat=some x:=by rw[e];exact aY
   refine⟨m,⟨m2.1,aw0⟩,x,rM,m,⟨m2.1,aw0⟩,x,rM,m3,rfl,?_⟩;exact ej bq rfl (show x.1+x.2.1=g7 l by unfold g7;rw[hx])
theorem Uo (l:List dU) (n k:Int) (O: ∀x,l.getLast? =some x-> -4611686018427387904<=x.1/\x.1<=4611686018427387903/\ -4611686018427387904<=x.2.1/\x.2.1<=4611686018427387903) (hn:n<=4611686018427387903) (ap:l.length<=1000000000):
  Fn Tryz.prog 234 [eX 1001,ac n,ac k] [(1001,.row 293 hV l)] [1002] (eX 1002) [(1002,.row 293 hV (mz l n k))]:=by
 obtain⟨ii,ai3,ai4⟩:=ki ai0;have l4:=ai2 l O aw0;refine aT [] Tryz.func234 ?_;refine⟨fun h=>?_,fun h=>?_⟩
 .have h:n < 1:=gd h;have e:mz l n k=l:=if_pos h;exact⟨_,_,_,ab.aV 1001 1002 rfl,rfl,rfl,⟨congrArg (fun aB:List dU=>some (ba.row 293 hV aB)) e.symm,trivial⟩,rfl⟩
 have h: ¬n < 1:=mu h;have m:c3 (((l.length:Nat):Int) - 1):=aw8
 refine⟨m,?_⟩
 cases hx:l.getLast? with
 |none=>
  have av:=MW hx;subst av;refine⟨fun G=>absurd G aw1,fun _=>ak l4 ⟨(show(0+1:Nat)<=4294967296 from by decide),rfl,?_⟩⟩;have e:mz [] n k=[(g7 [],n,k)]:=by unfold mz;rw[if_neg h];rfl
  exact⟨_,_,_,ab.aV 42 1002 rfl,rfl,rfl,⟨congrArg (fun aB:List dU=>some (ba.row 293 hV aB)) e.symm,trivial⟩,rfl⟩
 |some x=>
  have O:=O x hx;obtain⟨av,aY⟩:=A3 hx;have e:(((l.length:Nat):Int) - 1).toNat=l.length - 1:=aw8
  have rM:fz l (((l.length:Nat):Int) - 1).toNat=some x:=by rw[e];exact aY
  have m2:(0:Int)<=((l.length:Nat):Int) - 1/\((l.length:Nat):Int) - 1 < l.length:=aw8
  refine⟨fun _=>?_,fun G=>?_⟩
  .refine⟨m2,x,rM,fun Z=>?_,fun Z=>?_⟩
   .have Z:x.2.2=k:=gd Z;have m3:c3 (x.2.1+n):=aw8
    refine⟨m2,x,rM,m3,m2,_,_,fun N=>aiY (u:=hV) (y:=x) (y':=((x.1,x.2.1+n,x.2.2):dU)) (off:=1) rfl ai3 ai4 rfl rfl rfl rM aw1 ⟨trivial,trivial,trivial⟩ (fun j V=>?_) aiZ N,rfl,?_⟩
    .match j,V with
     |0,_=>rfl
     |1,_=>rfl
     |2,_=>rfl
    have ao:mz l n k=l.set (((l.length:Nat):Int) - 1).toNat (x.1,x.2.1+n,x.2.2):=by
     unfold mz;rw[if_neg h,hx,e];show(if x.2.2=k then _ else _)=_;rw[if_pos Z]
    exact⟨_,_,_,ab.aV 1001 1002 rfl,rfl,rfl,⟨congrArg (fun aB:List dU=>some (ba.row 293 hV aB)) ao.symm,trivial⟩,rfl⟩
   .have Z: ¬x.2.2=k:=mu Z;refine ak l4 ?_;have jt:List.length (α:=dU) l+1<=4294967296:=aw8
    refine⟨jt,rfl,?_⟩
    have ao:mz l n k=l++[(g7 l,n,k)]:=by
     unfold mz;rw[if_neg h,hx];show(if x.2.2=k then _ else _)=_;rw[if_neg Z]
    exact⟨_,_,_,ab.aV 42 1002 rfl,rfl,rfl,⟨congrArg (fun aB:List dU=>some (ba.row 293 hV aB)) ao.symm,trivial⟩,rfl⟩
  .have G: ¬((l.length:Nat):Int) - 1≥0:=mu G;omega
def nI (ks:List Int):List dU:=ks.foldl (fun l k=>mz l 1 k) []
structure yC (ks:List Int) (l:List dU):Prop where
 DL:g7 l=(ks.length:Int)
 Hu: ∀x,x∈l->0<=x.1/\1<=x.2.1/\x.1+x.2.1<=(ks.length:Int)/\ ∀k:Nat,x.1<=(k:Int)->(k:Int) < x.1+x.2.1->ks[k]? =some x.2.2
 len:l.length<=ks.length
theorem ai5 (l:List dU) (x:dU):g7 (l++[x])=x.1+x.2.1:=by
 unfold g7;rw[List.getLast?_concat]
theorem yC.add {ks:List Int} {l:List dU} (h:yC ks l) (k:Int):yC (ks++[k]) (mz l 1 k):=by
 have mW: ∀x,x∈l->0<=x.1/\1<=x.2.1/\x.1+x.2.1<=((ks++[k]).length:Int)/\ ∀j:Nat,x.1<=(j:Int)->(j:Int) < x.1+x.2.1->(ks++[k])[j]? =some x.2.2:=fun x hx=>by
  obtain⟨E,G,al,aW⟩:=h.Hu x hx;refine⟨E,G,by rw[aq5];simp;omega,fun j eS fB=>?_⟩;rw[as8 aw0];exact aW j eS fB
 have o1:yC (ks++[k]) (l++[(g7 l,1,k)]):=by
  refine⟨?_,fun x hx=>?_,by simp;exact h.len⟩
  .rw[ai5,h.DL,aq5];simp
  .rcases as4.1 hx with hx |hx
   .exact mW x hx
   .rw[ar5] at hx;subst hx;refine⟨by show 0<=g7 l;rw[h.DL];omega,(show(1:Int)<=1 from by decide),by show g7 l+1<=_;rw[h.DL,aq5];simp,fun j eS fB=>?_⟩;have eS:g7 l<=(j:Int):=eS;have fB:(j:Int) < g7 l+1:=fB;rw[h.DL] at eS fB;have:j=ks.length:=aw8
    subst this;rw[at4 (aq4 _)];simp
 unfold mz;rw[if_neg aw1]
 cases hx:l.getLast? with
 |none=>exact o1
 |some x=>
  simp only
  split
  .rename_i Z;obtain⟨av,aY⟩:=A3 hx;have Hv:x∈l:=List.mem_of_getElem? aY;have l4:x.1+x.2.1=(ks.length:Int):=by have:=h.DL;unfold g7 at this;rw[hx] at this;exact this
   obtain⟨E,G,al,aW⟩:=h.Hu x Hv;refine⟨?_,fun y aD=>?_,by rw[List.length_set,aq5];have:=h.len;omega⟩
   .unfold g7;rw[List.getLast?_eq_getElem?,List.length_set,List.getElem?_set_self aw0];show x.1+(x.2.1+1)=_;rw[aq5];simp;omega
   .rcases List.mem_or_eq_of_mem_set aD with aD |rfl
    .exact mW y aD
    .refine⟨E,by show 1<=x.2.1+1;omega,by show x.1+(x.2.1+1)<=_;rw[aq5];simp;omega,fun j eS fB=>?_⟩;have eS:x.1<=(j:Int):=eS;have fB:(j:Int) < x.1+(x.2.1+1):=fB;show(ks++[k])[j]? =some x.2.2
     by_cases V:(j:Int) < x.1+x.2.1
     .rw[as8 aw0];exact aW j eS V
     .have:j=ks.length:=aw8
      subst this;rw[at4 (aq4 _),Z];simp
  .exact o1
theorem Up (ks:List Int) (k:Int):nI (ks++[k])=mz (nI ks) 1 k:=by
 unfold nI;rw[av3];rfl
theorem Uq (ks:List Int):yC ks (nI ks):=by
 have key: ∀n,n<=ks.length->yC (ks.take n) (nI (ks.take n)):=fun n=>by
  induction n with
  |zero=>intro _;exact⟨rfl,(fun _ h=>by cases h),aq4 _⟩
  |succ n bu=>
   intro hn;rw[List.take_add_one,oj aw0];show yC (ks.take n++[ks[n]]) (nI (ks.take n++[ks[n]]));rw[Up];exact(bu aw0).add _
 have:=key ks.length (aq4 _)
 rwa[as2] at this
abbrev ai6 (ks:List Int) (j:Nat):aX:=[(3,eX 5002),(9,bv ai ks),(10,ac (ks.length:Nat)),(11,ac (j:Nat))]
theorem ai7 (ks:List Int) (Z:ks.length<=65536):Fn Tryz.prog 212 [bv ai ks] [] [] (bv hV (nI ks)) []:=by
 refine aT [] Tryz.func212 ?_;refine⟨fun h=>?_,fun _=>?_⟩
 .exfalso;have h:(65536:Int) < ((ks.length:Nat):Int):=gd h;omega
 refine dG [] (X:=Nat) (ai6 ks) (fun j=>[(5002,.row 293 hV (nI (ks.take j)))]) (fun j=>j<=ks.length) (fun j=>ks.length - j) 0 (aq9 _) ?_ ?_
 .exact(ab.nil 3 5002 293 hV rfl rfl).trans (ab.sub az az)
 intro j V;refine⟨fun J=>?_,fun J=>?_⟩
 .have J:decide ((j:Int) < ((ks.length:Nat):Int))=true:=J;have eS:j < ks.length:=ay2
  have bz:=Uq (ks.take j);have bx:(ks.take j).length=j:=ax7
  have vm:nI (ks.take (j+1))=mz (nI (ks.take j)) 1 ks[j]:=by
   rw[List.take_add_one,oj eS];exact Up _ _
  refine⟨aw0,ks[j],iR (n:=j) eS,?_⟩;refine ak (Fn.aV [(1001,5002)] (Uo (nI (ks.take j)) 1 ks[j] (fun x hx=>?_) aw1 (by have:=bz.len;omega))) ?_
  .have:=bz.Hu x (List.mem_of_getElem? (A3 hx).2);omega
  exact⟨aw0,j+1,eS,aw0,ab.trans (ab.sub (K':=[(3,eX 1002),(9,bv ai ks),(10,ac (ks.length:Nat)),(11,ac ((j+1:Nat):Int))]) (B':=[(1002,.row 293 hV (nI (ks.take (j+1))))]) az ⟨congrArg (fun aB:List dU=>some (ba.row 293 hV aB)) vm.symm,trivial⟩) ((ab.aV 1002 5002 rfl).trans (ab.sub az az))⟩
 .have J:decide ((j:Int) < ((ks.length:Nat):Int))=false:=J;have fB:j=ks.length:=ax9
  subst fB;exact⟨_,_,_,ab.d3 5002 rfl,rfl,(show nI (ks.take ks.length)=nI ks by rw[as2]),trivial,rfl⟩
section
variable {z R:Nat} {L:List aM}
end
end
section
def mA:Int->List dU->Bool
 |_,[]=>true
 |n,x::l=>if x.1=n/\1<=x.2.1/\x.2.1<=65536 - n then mA (n+x.2.1) l else false
theorem ai8 (n:Int) (x:dU) (l:List dU):mA n (x::l)=if x.1=n/\1<=x.2.1/\x.2.1<=65536 - n then mA (n+x.2.1) l else false:=rfl
theorem A4: ∀{l:List dU} {n:Int} {x:dU},mA n l=true->0<=n->l.getLast? =some x->0<=x.1/\1<=x.2.1/\x.1+x.2.1<=65536
 | [],_,_,_,_,h=>by cases h
 |y::l,n,x,h,hn,hx=>by
  unfold mA at h
  split at h
  .rename_i J
   cases l with
   |nil=>
    simp at hx;subst hx;omega
   |cons aB l=>
    rw[List.getLast?_cons_cons] at hx;exact A4 h aw0 hx
  .cases h
theorem MX: ∀{l:List dU} {n:Int},mA n l=true->0<=n-> ∀x,x∈l->n<=x.1/\1<=x.2.1/\x.1+x.2.1<=65536
 | [],_,_,_,x,hx=>by cases hx
 |y::l,n,h,hn,x,hx=>by
  unfold mA at h
  split at h
  .rename_i J;rcases aq7.1 hx with rfl |hx
   .omega
   .have:=MX h aw0 x hx;omega
  .cases h
abbrev ai9 (l:List dU) (n:Int) (i:Nat):aX:=[(3,ac n),(6,bv hV l),(7,ac (l.length:Nat)),(8,ac (i:Nat))]
theorem MY (l:List dU) (ap:l.length<=1000000000) (eD: ∀x,x∈l-> -4611686018427387904<=x.2.1/\x.2.1<=4611686018427387903):Fn Tryz.prog 260 [bv hV l] [] [] (fk (mA 0 l)) []:=by
 refine aT [] Tryz.func260 ?_;refine dG [] (X:=Int×Nat) (fun x=>ai9 l x.1 x.2) (fun _=>[]) (fun x=>x.2<=l.length/\(0<=x.1/\x.1<=65536)/\mA x.1 (l.drop x.2)=mA 0 l) (fun x=>l.length - x.2) (0,0) ⟨aq9 _,⟨Int.le_refl 0,aw0⟩,rfl⟩ ?_ ?_
 .exact ab.sub az trivial
 rintro⟨n,i⟩ ⟨aG,hn,aC⟩;have aG:i<=l.length:=aG;have hn:0<=n/\n<=65536:=hn;have aC:mA n (l.drop i)=mA 0 l:=aC;refine⟨fun J=>?_,fun J=>?_⟩
 .have J:decide ((i:Int) < ((l.length:Nat):Int))=true:=J;have dJ:i < l.length:=ay2
  have aY:=iR (n:=i) dJ;have H:l.drop i=l[i]::l.drop (i+1):=List.drop_eq_getElem_cons dJ;have hx:=eD _ (as3 dJ);rw[H] at aC;generalize l[i]=x at*;rw[ai8] at aC;have m1:(0:Int)<=(i:Int):=aw8
  refine⟨m1,x,aY,rfl,fun E=>?_,fun E=>?_⟩
  .have E:(!decide (x.1=n))=true:=E;have E: ¬x.1=n:=ay8
   rw[if_neg (fun h=>E h.1)] at aC;exact ej bq rfl aC
  have E:(!decide (x.1=n))=false:=E;have E:x.1=n:=ay8
  refine⟨fun G=>?_,fun G=>?_⟩
  .have G:x.2.1 < 1:=gd G;rw[if_neg (fun h=>by omega)] at aC;exact ej bq rfl aC
  have G: ¬x.2.1 < 1:=mu G;have m2:c3 (65536 - n):=aw8
  refine⟨m2,fun al=>?_,fun al=>?_⟩
  .have al:65536 - n < x.2.1:=gd al;rw[if_neg (fun h=>by omega)] at aC;exact ej bq rfl aC
  have al: ¬65536 - n < x.2.1:=mu al;rw[if_pos ⟨E,aw0,aw0⟩] at aC;have m3:c3 (n+x.2.1):=aw8
  have jt:c3 ((i:Int)+1):=aw8
  refine⟨m3,jt,?_⟩;exact⟨(n+x.2.1,i+1),⟨dJ,(by show 0<=n+x.2.1/\n+x.2.1<=65536;omega),aC⟩,(by show l.length - (i+1) < l.length - i;omega),ab.sub az trivial⟩
 .have J:decide ((i:Int) < ((l.length:Nat):Int))=false:=J;have ox:i=l.length:=ax9
  subst ox;rw[List.drop_length] at aC;exact ej bq rfl aC
theorem MZ (l:List dU) (O: ∀x,l.getLast? =some x-> -4611686018427387904<=x.1/\x.1<=4611686018427387903/\ -4611686018427387904<=x.2.1/\x.2.1<=4611686018427387903) (ap:l.length<=4294967296):
  Fn Tryz.prog 261 [bv hV l] [] [] (ac (g7 l)) []:=by
 refine aT [] Tryz.func261 ?_;refine⟨fun h=>?_,fun h=>?_⟩
 .have h:((l.length:Nat):Int)=0:=gd h;have av:l=[]:=List.length_eq_zero_iff.1 aw0;subst av;exact bc
 .have h: ¬((l.length:Nat):Int)=0:=mu h
  cases hx:l.getLast? with
  |none=>rw[MW hx] at h;exact absurd rfl h
  |some x=>
   have O:=O x hx;obtain⟨av,aY⟩:=A3 hx;have e:(((l.length:Nat):Int) - 1).toNat=l.length - 1:=aw8
   have m:c3 (((l.length:Nat):Int) - 1):=aw8
   have m2:(0:Int)<=((l.length:Nat):Int) - 1:=aw8
   have m3:c3 (x.1+x.2.1):=aw8
   have rM:fz l (((l.length:Nat):Int) - 1).toNat=some x:=by rw[e];exact aY
   refine⟨m,m2,x,rM,m,m2,x,rM,m3,eM aw3,?_⟩;exact ej bq rfl (show x.1+x.2.1=g7 l by unfold g7;rw[hx])
def Hw (l:List dU):Int:=if mA 0 l=true then g7 l else 0
theorem ai' (l:List dU) (ap:l.length<=1000000000) (eD: ∀x,x∈l-> -4611686018427387904<=x.2.1/\x.2.1<=4611686018427387903):Fn Tryz.prog 233 [bv hV l] [] [] (ac (Hw l)) []:=by
 have aC:=MY l ap eD;unfold Hw
 cases J:mA 0 l with
 |false=>
  rw[J] at aC;refine aT [] Tryz.func233 ?_;exact ak aC <| d7 bc
 |true=>
  rw[J] at aC;have U:=MZ l (fun x hx=>by have:=A4 J (Int.le_refl 0) hx;omega) aw0;refine aT [] Tryz.func233 ?_;exact ak aC <| cX <| ak U bc
def yD (fr bN:Int) (out:List dU) (x:dU):List dU:=mz out (min (x.1+x.2.1) (fr+bN) - max x.1 fr) x.2.2
def A5 (l:List dU) (fr bN:Int):Bool:=mA 0 l&&(decide (1<=bN)&&(decide (0<=fr)&&(decide (bN<=g7 l)&&decide (fr<=g7 l - bN))))
def vn (l:List dU) (fr bN:Int):List dU:=if A5 l fr bN=true then l.foldl (yD fr bN) [] else[]
theorem aja {l:List dU} {n k B:Int} (h: ∀x,l.getLast? =some x->0<=x.1/\0<=x.2.1/\x.1+x.2.1<=B) (dy:0<=B) {C:Int} (ef:B+n<=C) (aqA:B<=C): ∀x,(mz l n k).getLast? =some x->0<=x.1/\0<=x.2.1/\x.1+x.2.1<=C:=by
 intro x hx;unfold mz at hx
 split at hx
 .have:=h x hx;omega
 rename_i hn
 have l4:0<=g7 l/\g7 l<=B:=by
  unfold g7
  split
  .omega
  .rename_i y aD;have:=h y aD;omega
 split at hx
 .rename_i y aD;have aqB:=h y aD
  split at hx
  .obtain⟨av,aY⟩:=A3 aD;rw[List.getLast?_eq_getElem?,List.length_set,List.getElem?_set_self aw0] at hx;injection hx with hx
   subst hx;show 0<=y.1/\0<=y.2.1+n/\y.1+(y.2.1+n)<=C;omega
  .rw[List.getLast?_append] at hx;simp at hx;subst hx;show 0<=g7 l/\0<=n/\g7 l+n<=C;omega
 .rw[List.getLast?_append] at hx;simp at hx;subst hx;show 0<=g7 l/\0<=n/\g7 l+n<=C;omega
theorem ajb (l:List dU) (n k:Int):(mz l n k).length<=l.length+1:=by
 unfold mz
 split
 .omega
 split
 .split
  .rw[List.length_set];omega
  .rw[aq5];exact aq4 _
 .rw[aq5];exact aq4 _
abbrev ajc (l:List dU) (fr bN:Int) (i:Nat):aX:=[(1,ac fr),(2,ac bN),(7,eX 5002),(37,bv hV l),(38,ac (l.length:Nat)),(39,ac (i:Nat))]
abbrev ajd (l:List dU) (fr bN:Int) (i:Nat):aX:=[(1,ac fr),(2,ac bN),(7,eX 1002),(37,bv hV l),(38,ac (l.length:Nat)),(39,ac (i:Nat))]
abbrev aje (out:List dU):ay:=[(5002,.row 293 hV out)]
abbrev Ur (out:List dU):ay:=[(1002,.row 293 hV out)]
def r7 (l:List dU) (fr bN:Int) (i:Nat):List dU:=(l.take i).foldl (yD fr bN) []
theorem Us {l:List dU} {fr bN:Int} {i:Nat} (h:i < l.length):r7 l fr bN (i+1)=mz (r7 l fr bN i) (min (l[i].1+l[i].2.1) (fr+bN) - max l[i].1 fr) l[i].2.2:=by
 unfold r7;rw[List.take_add_one,oj h];show((l.take i)++[l[i]]).foldl _ _=_;rw[av3];rfl
theorem Ut (l:List dU) (fr bN:Int) (i:Nat):(r7 l fr bN i).length<=i:=by
 unfold r7
 have: ∀(m:List dU) (out:List dU),(m.foldl (yD fr bN) out).length<=out.length+m.length:=by
  intro m
  induction m with
  |nil=>intro out;exact aq4 _
  |cons x m bu=>
   intro out;have E:=bu (yD fr bN out x);have G:=ajb out (min (x.1+x.2.1) (fr+bN) - max x.1 fr) x.2.2;show(m.foldl (yD fr bN) (yD fr bN out x)).length<=out.length+(m.length+1);have al:(yD fr bN out x).length<=out.length+1:=G;omega
 have h:=this (l.take i) [];have G:(l.take i).length<=i:=ax7
 have al:([]:List dU).length=0:=rfl;omega
theorem Uu {l:List dU} {fr bN:Int} (aC:mA 0 l=true) (u5:0<=fr) (ajf:0<=bN): ∀i,i<=l.length-> ∀x,(r7 l fr bN i).getLast? =some x->0<=x.1/\0<=x.2.1/\x.1+x.2.1<=65536*(i:Int)
 |0,_,x,hx=>by cases hx
 |i+1,aG,x,hx=>by
  have dJ:i < l.length:=aw8
  rw[Us dJ] at hx;have U:=MX aC (Int.le_refl 0) _ (as3 dJ);exact aja (Uu aC u5 ajf i aw0) aw0 aw0 aw0 x hx
theorem ajg (l:List dU) (fr bN:Int) (ap:l.length<=1000000000) (eD: ∀x,x∈l-> -4611686018427387904<=x.2.1/\x.2.1<=4611686018427387903) (h:A5 l fr bN=false):Fn Tryz.prog 232 [bv hV l,ac fr,ac bN] [] [] (kS .dH) []:=by
 have aC:=MY l ap eD;have U:mA 0 l=true->_:=fun J=>MZ l (fun x hx=>by have:=A4 J (Int.le_refl 0) hx;omega) aw0
 have M0:mA 0 l=true->0<=g7 l/\g7 l<=65536:=by
  intro J;unfold g7
  split
  .omega
  .rename_i y aD;have:=A4 J (Int.le_refl 0) aD;omega
 unfold A5 at h
 cases J:mA 0 l with
 |false=>
  rw[J] at aC;refine aT [] Tryz.func232 ?_;exact ak aC <| d7 bc
 |true=>
  rw[J] at aC h;have U:=U J;have M0:=M0 J;generalize g7 l=e at*;refine aT [] Tryz.func232 ?_;refine ak aC <| cX ⟨fun E=>?_,fun E=>?_⟩
  .exact bc
  have E: ¬bN < 1:=mu E;refine⟨fun G=>?_,fun G=>?_⟩
  .exact bc
  have G: ¬fr < 0:=mu G;refine ak U ⟨fun al=>?_,fun al=>?_⟩
  .exact bc
  have al: ¬e < bN:=mu al;refine ak U ?_;have m1:c3 (e - bN):=aw8
  refine⟨m1,fun aW=>?_,fun aW=>?_⟩
  .exact bc
  have aW: ¬e - bN < fr:=mu aW;rw[ar6 (show 1<=bN by omega),ar6 (show 0<=fr by omega),ar6 (show bN<=e by omega),ar6 (show fr<=e - bN by omega)] at h
  cases h
theorem ajh (l:List dU) (fr bN:Int) (ap:l.length<=1000000) (eD: ∀x,x∈l-> -4611686018427387904<=x.2.1/\x.2.1<=4611686018427387903) (h:A5 l fr bN=true):Fn Tryz.prog 232 [bv hV l,ac fr,ac bN] [] [1002] (eX 1002) (Ur (vn l fr bN)):=by
 have aC:=MY l aw0 eD
 have aji:vn l fr bN=r7 l fr bN l.length:=by
  unfold vn r7;rw[if_pos h,as2]
 rw[aji];unfold A5 at h;simp only[vj,as1] at h;obtain⟨J,E,G,al,aW⟩:=h;rw[J] at aC;have U:=MZ l (fun x hx=>by have:=A4 J (Int.le_refl 0) hx;omega) aw0
 have M0:0<=g7 l/\g7 l<=65536:=by
  unfold g7
  split
  .omega
  .rename_i y aD;have:=A4 J (Int.le_refl 0) aD;omega
 have DM:=Uu J G (show 0<=bN by omega);have ajj:=MX J (Int.le_refl 0);have bZ:=Ut l fr bN;generalize g7 l=e at*;have m1:c3 (e - bN):=aw8
 have m2:c3 (fr+bN):=aw8
 refine aT [] Tryz.func232 ?_;refine ak aC <| cX ⟨fun h=>absurd (gd h) aw0,fun _=>⟨fun h=>absurd (gd h) aw0,fun _=>ak U ⟨fun h=>absurd (gd h) aw0,fun _=>ak U ⟨m1,fun h=>absurd (gd h) aw0,fun _=>dG [] (X:=Nat) (fun i=>ajc l fr bN i) (fun i=>aje (r7 l fr bN i)) (fun i=>i<=l.length) (fun i=>l.length - i) 0 (aq9 _) ?_ ?_⟩⟩⟩⟩
 .exact(ab.nil 7 5002 293 hV rfl rfl).trans (ab.sub az az)
 intro i aG;have aG:i<=l.length:=aG;have DM:=DM i aG;have bZ:=bZ i;refine⟨fun J=>?_,fun J=>?_⟩
 .have J:decide ((i:Int) < ((l.length:Nat):Int))=true:=J;have dJ:i < l.length:=ay2
  have aY:=iR (n:=i) dJ;have hx:=ajj _ (as3 dJ);have vm:=Us (fr:=fr) (bN:=bN) dJ;generalize l[i]=x at*;have d6:(0:Int)<=(i:Int):=aw8
  have cV:c3 (x.1+x.2.1):=aw8
  have dN:c3 (min (x.1+x.2.1) (fr+bN) - max x.1 fr):=aw8
  have dS:c3 ((i:Int)+1):=aw8
  have kI:min (x.1+x.2.1) (fr+bN) - max x.1 fr<=4611686018427387903:=aw8
  have ha:=Uo (r7 l fr bN i) (min (x.1+x.2.1) (fr+bN) - max x.1 fr) x.2.2 (fun y aD=>by have:=DM y aD;omega) kI aw0;rw[<-vm] at ha;refine⟨d6,x,aY,rfl,cV,m2,eM aw3,dN,ak (Fn.aV [(1001,5002)] ha) ?_⟩;exact⟨dS,i+1,dJ,by show l.length - (i+1) < l.length - i;omega,ab.trans (cw (ajd l fr bN (i+1)) (Ur (r7 l fr bN (i+1)))) ((ab.aV 1002 5002 rfl).trans (ab.sub az az))⟩
 .have J:decide ((i:Int) < ((l.length:Nat):Int))=false:=J;have ox:i=l.length:=ax9
  subst ox;exact⟨_,_,_,ab.aV 5002 1002 rfl,rfl,rfl,az,rfl⟩
theorem ajk (l:List dU) (fr bN:Int) (ap:l.length<=1000000) (eD: ∀x,x∈l-> -4611686018427387904<=x.2.1/\x.2.1<=4611686018427387903):Fn Tryz.prog 232 [bv hV l,ac fr,ac bN] [] [] (bv hV (vn l fr bN)) []:=by
 cases h:A5 l fr bN with
 |false=>
  have e:vn l fr bN=[]:=by unfold vn;rw[h];rfl
  rw[e];exact(ajg l fr bN aw0 eD h).res rfl
 |true=>exact Fn.d3 (aN:=[]) (ajh l fr bN ap eD h) rfl rfl
def ir (l:List dU):List dU:=vn l 0 (Hw l)
theorem ajl (l:List dU) (ap:l.length<=1000000) (eD: ∀x,x∈l-> -4611686018427387904<=x.2.1/\x.2.1<=4611686018427387903):Fn Tryz.prog 211 [bv hV l] [] [] (bv hV (ir l)) []:=by
 have E:=ai' l aw0 eD;have G:=ajk l 0 (Hw l) ap eD;refine aT [] Tryz.func211 ?_;exact ak E <| ak G bc
end
end Go.Proofs.YtkfbeijmgggkmaaGreat
