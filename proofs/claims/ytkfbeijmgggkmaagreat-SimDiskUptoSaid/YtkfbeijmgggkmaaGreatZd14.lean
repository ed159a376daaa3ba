/-
A part of the proof of this claim: lemmas, with no condition beyond what each says.
-/
import Derived.Test.YtkfbeijmgggkmaaGreatZd13
set_option linter.unusedVariables false
set_option linter.unusedSimpArgs false
set_option maxRecDepth 10000
set_option maxHeartbeats 4000000
namespace Go.Proofs.YtkfbeijmgggkmaaGreat
open Go.RowKit Go.Proofs Tryz
section
open Go.RowKit Go.Proofs Go.Maps Go.Shelf Go.MapKept Tryz
open Go.WideElems (Fit rd rg pl rd_val rd_key rg_of)
def aha {aK:bz} (p:Z al×Z aK):Int:=p.1
def gZ {aK:bz} (es:List (Z al×Z aK)):List Int:=es.map aha
theorem TG {I:Nat->Prop} {w:World} {aK:bz}: ∀{l:List (Z al×Z aK)} {es:List MapEntry},ir I w al aK l es->es.map (·.key)=(gZ l).map encZ
 | [],_,h=>by rw[show _=[] from h];rfl
 |p::l,_,⟨e,r,h,E,_,af⟩=>by
  rw[h,ar4,TG af,E];rfl
theorem ahb {P:Program} {k:TypeId} (aa:P.underlying k=some (.int .i64)) (s:Int) (h:(Lit.int .i64 s).wf=true):keyOf P k (encZ s)=some (.int .i64 s):=by
 simp[keyOf,aa,encZ,mapKey,h]
theorem TH: ∀{l m:List Int},l.map encZ=m.map encZ->l=m
 | [],[],_=>rfl
 | [],_::_,h=>by simp at h
 |_::_,[],h=>by simp at h
 |x::l,y::m,h=>by
  simp only[ar4,List.cons.injEq] at h;rw[encZ_inj h.1,TH h.2]
theorem Ml {P:Program} {k:TypeId} (aa:P.underlying k=some (.int .i64)) {I:Nat->Prop} {w:World} {aK:bz} {es:List (Z al×Z aK)} {bR:List MapEntry} {bS b:Nat} (O:w.heap[b]? =some (.map (List.toArray bR) bS))
  (aA:ir I w al aK es bR) (c5:l4 bR bS) (hn:(gZ es).Nodup) (ak: ∀s∈gZ es,(Lit.int .i64 s).wf=true) (aw:es.length<=maxLen):
  ∃ju,w.ownsMap P k pP b es.length ju/\Maps.size ju=es.length/\(intKeys ju).Perm (gZ es):=by
 have bV:=BB aA;have yg:=TG aA
 have C7: ∀x∈bR,∃s:Int,x.key=encZ s/\rg P k pP x=(.int .i64 s,.nil)/\ ∃y,rd P k pP x=some y:=by
  intro x hx;have:x.key∈(gZ es).map encZ:=by rw[<-yg];exact ar8 hx
  obtain⟨s,ai,U⟩:=as9.1 this;have Lz:keyOf P k x.key=some (.int .i64 s):=U▸ahb aa _ (ak s ai);have og:rd P k pP x=some (.int .i64 s,.nil):=by simp[rd,Lz]
  exact⟨s,U.symm,rg_of og,_,og⟩
 have o9:=Go.WideShapes.sorted_perm (bR.map (rg P k pP))
 have ie:(bR.map (rg P k pP)).map (fun p=>Go.intOf p.1)=gZ es:=by
  refine TH ?_;rw[<-yg,at7,at7];refine as2 fun x hx=>?_
  obtain⟨s,ae,ao,_⟩:=C7 x hx;simp[ao,ae,Go.intOf]
 refine⟨.map ((bR.map (rg P k pP)).foldr DataW.insert []),⟨List.toArray bR,bS,O,⟨by simp[bV];exact aw,(stamped_iff _ _).2 ⟨c5.2,c5.1.imp fun h=>by omega,?_⟩,fun x hx=>(C7 x hx).choose_spec.2.2⟩,by simp[bV],rfl⟩,?_,?_⟩
 .have E:(bR.map (·.key)).Pairwise (· ≠ ·):=by
   rw[yg];exact List.pairwise_map.2 (hn.imp fun a7 e=>a7 (encZ_inj e))
  exact List.pairwise_map.1 E
 .show List.length _=_;rw[o9.length_eq,ar1,bV]
 .show(List.map (fun p=>Go.intOf (Prod.fst p)) _).Perm _;rw[<-ie];exact o9.map _
theorem Mm (es:List (Z al×Z al)):Fn Tryz.prog 155 [.c (.one (.mp 1001))] [(1001,.map al al es)] [2001] (.c (.one (.cY 201 [.p 2001 0]))) [(2001,.cells [.mp 1001]),(1001,.map al al es)]:=by
 refine aU [] Tryz.func155 ?_;exact⟨rfl,_,_,_,ac.aV 1 2001 rfl,rfl,rfl,aC,rfl⟩
theorem fC.Mn {I D:Nat->Prop} {w:World} {v:Value} {l:List Int} (h:fC D w 1 v l.length (l.map encZ)) (cf: ∀b,b < w.heap.size->D b->I b):cu I w (.b' al) l (fun _=>some v):=by
 obtain⟨_,A,c,au,E,G,af⟩:=h;refine⟨A,c,congrArg some au,E,G,fun ai=>?_⟩;obtain⟨b,o,eQ,O,bt,hx⟩:=af ai;refine⟨b,o,eQ,cf b bt O,fun i x aF=>?_⟩;have:=hx i (encZ x) (by rw[as0,show l[i]? =some x from aF];rfl);simpa[cu,aQ,encZ] using this
theorem TI (es:List (Z al×Z al)) (hn:(gZ es).Nodup) (ak: ∀s∈gZ es,(Lit.int .i64 s).wf=true) (aw:es.length<=4294967296):
  cx Tryz.prog 199 [.c (.one (.cY 201 [.p 2001 0]))] [(2001,.cells [.mp 1001]),(1001,.map al al es)] [] (X:={hc:List Int//hc.Perm (gZ es)}) (fun g=>bQ al g.1) (fun _=>[(2001,.cells [.mp 1001]),(1001,.map al al es)]):=by
 refine⟨ay7,fun ρ F I w bU a8 cZ bh eE bV dy=>?_⟩
 match bU,bV with
 | [v],_=>
  obtain⟨aE,ay,fZ,r,hD,kO,ax⟩:=dy 0 _ v rfl rfl;have ax:r=[]:=ax;have kO:fZ= .pointer (some ⟨(ρ 2001).bk,0,none⟩):=kO;subst ax kO hD ay;obtain⟨_,aE,T,gX,hD⟩:=cZ 2001 _ rfl;obtain⟨x,r,hD,hx,ax⟩:=hD;have ax:r=[]:=ax;have hx:x= .map (some (ρ 1001).bk):=hx;subst ax hx hD;obtain⟨_,bR,bS,hm,aA,c5⟩:=cZ 1001 _ rfl;have GF:(4294967296:Nat)<=maxLen:=by decide
  obtain⟨ju,dw,cC,o9⟩:=Ml (P:=Tryz.prog) (k:=3) ay7 hm aA c5 hn ak ay4;have bt:(ρ 2001).bk < w.heap.size:=l3 gX
  have u4:SeqGives Fence.wide 2 Tryz.prog 201 #[.pointer (some ⟨(ρ 2001).bk,0,none⟩)] encZ (fun hc=>hc.Perm (intKeys ju)) (Maps.size ju) w:=
   AnyZI.keys_gives (ρ:=KI) {RI with} Fence.wide _ trivial rfl ay4 (ρ 2001).bk (ρ 1001).bk es.length ju w bt (oS gX rfl) dw
  have J:=AnyZI.collect_in ady Fence.wide 4 trivial trivial rfl ay4 201 #[.pointer (some ⟨(ρ 2001).bk,0,none⟩)] trivial (enters_of Tryz.func201 ay7 rfl) _ _ aB0 aB0 _ u4;refine(callsIn_wide.1 J).mono ?_;rintro e w' ⟨v,hc,rfl,ar,fK,yh,gF⟩;have a1:cm I w (fun b=>b < w'.heap.size/\(I b\/w.heap.size<=b)) w':=fun b fN=>⟨⟨ar6 (a8 b fN) gF.size,.inl fN⟩,gF.block b (a8 b fN)⟩
  refine⟨⟨hc,ar.trans o9⟩,v,ρ,F,rfl,cS.pq gF,fun _ _=>rfl,_,a1,fun b h=>⟨h.1,h.2.imp id .inr⟩,fun c ch J=>Holds.cp a1 (fun b O=>gF.block b (bh c ch J b O).1) gF.size ch (fun _ _=>rfl) (cZ c ch J),fun c ch J b O=>?_,fun c b9 ch ch' b E G=>eE c b9 ch ch' b E G,?_⟩
  .have:=bh c ch J b O;exact⟨ar6 this.1 gF.size,fun h=>(by rcases h.2 with h |h;exact this.2 h;omega),.inl ⟨c,ch,J,O⟩⟩
  .have hB:=fC.ps fK;exact(hB.za fun i _ aF=>(fK.lt i aF).1).Mn fun b E G=>⟨E,.inr G⟩
def pd:List Int->Int
 | []=>0
 |x::l=>l.foldl min x
theorem ahc {l:List Int} (h:0 < l.length):pd (l.take 1)=l[0]:=by
 cases l with
 |nil=>simp at h
 |cons x l=>rfl
theorem ahd {l:List Int} {k:Nat} (au:0 < k) (h:k < l.length):pd (l.take (k+1))=min (pd (l.take k)) l[k]:=by
 cases l with
 |nil=>simp at h
 |cons x l=>
  cases k with
  |zero=>omega
  |succ k=>
   have aa:k < l.length:=az3
   show List.foldl min x (l.take (k+1))=min (List.foldl min x (l.take k)) l[k];rw[List.take_add_one,oj aa,ax5];rfl
theorem TJ: ∀(l:List Int) (x:Int),List.foldl min x l<=x/\(∀y,y∈l->List.foldl min x l<=y)/\(List.foldl min x l=x\/List.foldl min x l∈l)
 | [],x=>⟨Int.le_refl _,fun y h=>az4,.inl rfl⟩
 |aB::l,x=>by
  obtain⟨E,G,af⟩:=TJ l (min x aB);show List.foldl min (min x aB) l<=x/\(∀y,y∈aB::l->List.foldl min (min x aB) l<=y)/\(List.foldl min (min x aB) l=x\/List.foldl min (min x aB) l∈aB::l);refine⟨ay4,fun y aD=>?_,?_⟩
  .rcases aq5.1 aD with rfl |aD
   .omega
   .exact G y aD
  .rcases af with af |af
   .rcases Int.le_total x aB with c |c
    .exact .inl ay4
    .exact .inr (by rw[af,show min x aB=aB by omega];exact ar2 ..)
   .exact .inr (aq2 _ af)
theorem Mo {l:List Int} (h:l≠[]):pd l∈l/\ ∀y,y∈l->pd l<=y:=by
 cases l with
 |nil=>exact absurd rfl h
 |cons x l=>
  obtain⟨E,G,af⟩:=TJ l x;refine⟨?_,fun y aD=>?_⟩
  .rcases af with af |af
   .show List.foldl min x l∈x::l;rw[af];exact ar2 ..
   .exact aq2 _ af
  .rcases aq5.1 aD with rfl |aD
   .exact E
   .exact G y aD
theorem TK {l m:List Int} (h:l.Perm m) (hn:m≠[]):pd l=pd m:=by
 have ak:l≠[]:=fun e=>hn (by subst e;exact List.nil_perm.1 h)
 obtain⟨bZ,cg⟩:=Mo ak;obtain⟨b1,b2⟩:=Mo hn;have:=cg _ (h.mem_iff.2 b1);have:=b2 _ (h.mem_iff.1 bZ);omega
theorem TL (l:List Int) (au:0 < l.length) (E:l.length<=1073741824):Fn Tryz.prog 292 [bQ al l] [] [] (ab (pd l)) []:=by
 have aZ:=jJ (n:=0) au;have cq:=ahc au;refine aU [3] Tryz.func292 ?_;refine⟨fun h=>?_,fun _=>?_⟩
 .have h:decide (((l.length:Nat):Int) < 1)=true:=h;have:=gd h;omega
 refine bu [] (br) ⟨ay4,l[0],aZ,d2 [] (X:=Nat) (fun k=>[(0,bQ al l),(3,ab (pd (l.take k))),(4,ab (k:Int))]) (fun _=>[]) (fun k=>1<=k/\k<=l.length) (fun k=>l.length - k) 1 ⟨aq0 _,au⟩ ?_ ?_⟩
 .exact ac.sub ⟨rfl,cq.symm,rfl,trivial⟩ trivial
 rintro k ⟨ct,aa⟩;refine⟨fun J=>?_,fun J=>?_⟩
 .have J:decide ((k:Int) < ((l.length:Nat):Int))=true:=J;have hr:k < l.length:=aA7
  have aw:=ahd ct hr;exact⟨ay4,l[k],jJ (n:=k) hr,ay4,k+1,⟨ay4,hr⟩,ay4,ac.sub ⟨rfl,aw.symm,rfl,trivial⟩ trivial⟩
 .have J:decide ((k:Int) < ((l.length:Nat):Int))=false:=J;have hr:k=l.length:=aA4
  exact eG br rfl (show pd (l.take k)=pd l by rw[hr,ar9])
section
variable {P:Program} {N:Nat} {ids:aC4} {K:aY} {B:az}
theorem TM {o:Oper} {T kt et:TypeId} {x:Operand} {c:Nat} (ah:o.op= .call {callee:=.builtin .clear,args:= #[x],argTypes:= #[T]}) (b6:P.underlying T=some (.map kt et)) {aI aK:bz} {es:List (Z aI×Z aK)}
  (hx:a2 K x= .c (.one (.mp c))) (J:ag B c=some (.map aI aK es)) (N:Nat):bA P N ids o K B (.ci []) ⟨[c],[],[(c,some (.map aI aK []))]⟩:=by
 have m1:x∈o.op.operands:=az5
 refine bA.PY J fun K' B' g1 C ρ F a w aj ar gf=>?_
 obtain⟨bh,bR,bS,O,aA,c5⟩:=aj.holds c _ gf;have ae:=ar.mp ((g1 x m1).trans hx);have bt:=l3 O;have en:=fun o=>MapKept.run_setObj_map (P:=P) o O
 have ax:(Builtin.clear_ #[T] o.type #[.map (some (ρ c).bk)]).run P w= .ok (.tuple #[]) {w with heap:=w.heap.setIfInBounds (ρ c).bk (.map #[] bS)}:=by
  simp[Builtin.clear_,run_underlying b6,MapKept.run_getObj_map O,en,Result.andThen]
 refine⟨{w with heap:=w.heap.setIfInBounds (ρ c).bk (.map #[] bS)},?_,uz ((bh _).2 rfl),fun I a1=>⟨bh,[],bS,by simp[bt],rfl,ay6,fun e U=>by cases U⟩⟩;simp[execOp,ah,resolve,invoke,builtin,ae,ax]
theorem bA.TN {o:Oper} {c:Nat} {jg:aC4} {cz ch:ba} (J:ag B c=some cz)
  (h: ∀(K':aY) (B':az),(∀x,x∈o.op.operands->a2 K' x=a2 K x)->(∀d,d∈jg->ag B' d=ag B d)-> ∀(C:fg) (ρ:Nat->bn) (F:Nat->Nat->Prop) (a:Act) (w:World),Mem ids C B' ρ F w->eq K' ρ (bX C B' F w) a w->ag B' c=some cz-> ∃w',(execOp a.eval o).run P w= .ok .skip w'/\cS (F c) w w'/\
   (∀I,cm (bX C B' F w) w I w'->Holds ρ I (F c) w' (ρ c) ch)):
  bA P N ids o K B .undef ⟨c::jg,[],[(c,some ch)]⟩:=by
 rintro K' B' E G - C a w ⟨hn,H,ρ,F,aj,ar⟩ bt fJ Q cV;have cK:ag B' c=some cz:=(G c ay6).trans J;obtain⟨w',hx,cy,cZ⟩:=h K' B' E (fun d H=>G d (aq2 _ H)) C ρ F a w aj ar cK;obtain⟨bI,U⟩:=aj.hI cK cy cZ;unfold Oper.wp;rw[hx,Oper.upon_skip];exact cV _ _ ⟨ki.trans hn,kj.trans H,ρ,F,bI,(ar.mono U fun _ _ _=>rfl).kk (fun e U=>by rw[hn];exact bt e U) rfl⟩
def AJ (es:List (Z al×Z .fn)):bc where
 bo:=fun I F w p=>Holds (fun _=>⟨0,none,0,0⟩) I F w p (.map al .fn es)
 cp:=fun I F w I' w' p h U bh aN=>Holds.cp U bh aN _ (fun _ _=>rfl) h
def Dn (es:List (Z al×Z .fn)) (ch:ba):Prop:=ch= .map al .fn es\/ch= .aG (AJ es)
theorem Dn.holds {es:List (Z al×Z .fn)} {ch:ba} (h:Dn es ch) {ρ:Nat->bn} {I F:Nat->Prop} {w:World} {p:bn}:Holds ρ I F w p ch↔(∀b,F b↔b=p.bk)/\ ∃bR bS,w.heap[p.bk]? =some (.map (List.toArray bR) bS)/\ir I w al .fn es bR/\l4 bR bS:=by
 rcases h with rfl |rfl
 .exact Iff.rfl
 .exact Iff.rfl
theorem AK {o:Oper} {T kt et:TypeId} {x i v:Operand} {c f hJ jj qf m1 m2 m3 b1 b2 b3:Nat} (ah:o.op= .insert T x i v) (b6:P.underlying T=some (.map kt et)) (kq:P.underlying kt=some (.int .i64)) {es:List (Z al×Z .fn)} {ch ch':ba} (hx:a2 K x= .c (.one (.mp c))) {key:Int} (aa:a2 K i= .c (.one (.d (.int .i64 key))))
  (ay:a2 K v= .c (.one (.cY f [.p hJ 0,.p jj 0,.p qf 0]))) (E:ag B m1=some (.b5 hJ (fc b1))) (G:ag B m2=some (.b5 jj (fc b2))) (af:ag B m3=some (.b5 qf (fc b3)))
  (J:ag B c=some ch) (hw:Dn es ch) (qj:Dn (dx (aI:=al) (aK:=.fn) es key (f,[b1,b2,b3])) ch') (N:Nat):bA P N ids o K B .undef ⟨[c,m1,m2,m3],[],[(c,some ch')]⟩:=by
 have cU:x∈o.op.operands:=az1
 have dU:i∈o.op.operands:=az1
 have ls:v∈o.op.operands:=az1
 refine bA.TN J fun K' B' g1 g2 C ρ F a w aj ar gf=>?_
 obtain⟨bh,bR,bS,O,aA,c5⟩:=hw.holds.1 (aj.holds c _ gf);have ae:=ar.mp ((g1 x cU).trans hx);have ao:a.eval i= .int .i64 key:=ar.int ((g1 i dU).trans aa)
 have bm:a.eval v=mA (f,[b1,b2,b3]):=by
  have h:=ar.ev ((g1 v ls).trans ay);obtain⟨aE,e,k1,r1,ae,cA,v2,r2,ao,cF,v3,gg,bm,dF,fj⟩:=h;have cj:=pF (N:=N) (a:=a) aj ((g2 m1 ay6).trans E);have cT:=pF (N:=N) (a:=a) aj ((g2 m2 ay6).trans G);have eg:=pF (N:=N) (a:=a) aj ((g2 m3 ay6).trans af);have cA:k1= .pointer (some ⟨(ρ hJ).bk,0,none⟩):=cA;have cF:v2= .pointer (some ⟨(ρ jj).bk,0,none⟩):=cF;have dF:v3= .pointer (some ⟨(ρ qf).bk,0,none⟩):=dF;have fj:gg=[]:=fj;rw[e,ae,ao,bm,cA,cF,dF,fj,cj,cT,eg];rfl
 have cf:jz (bX C B' F w) w .fn (f,[b1,b2,b3]) (mA (f,[b1,b2,b3])):=⟨rfl,⟨fun _=>rfl,fun e=>by cases e⟩,rfl⟩;obtain⟨eB,jX,ax,gu,qh⟩:=BD (P:=P) (aI:=al) (aK:=.fn) b6 kq rfl O aA c5 key cf;have bt:=l3 O;refine⟨{w with heap:=w.heap.setIfInBounds (ρ c).bk (.map (List.toArray eB) jX)},?_,uz ((bh _).2 rfl),fun I a1=>qj.holds.2 ⟨bh,eB,jX,by simp[bt],gu.mono a1,qh⟩⟩;have ax:(Instr.mapUpdate T (.map (some (ρ c).bk)) (.int .i64 key) (mA (f,[b1,b2,b3]))).run P w= .ok () {w with heap:=w.heap.setIfInBounds (ρ c).bk (.map (List.toArray eB) jX)}:=ax;simp only[execOp,ah,Sem.run_bind,ae,ao,bm,ax,Result.andThen_ok,Sem.run_pure]
def ahe (x:Option (Z .fn)):aP:=match x with
 |some x=>.ci [.one (.d (.fn x)),.one (.d (.lit true))]
 |none=>.ci [.one .any,.one (.d (.lit false))]
theorem ahf {I:Nat->Prop} {w:World} {x:Z .fn} {v:Value} (h:jz I w .fn x v):v=mA x:=by
 have E:=h.2.1.1 rfl;have G:=h.2.2;rw[E] at G;have G:some v=some (mA x):=G;injection G
theorem Mp {aS:dg} (bl:ec P aS) {o:Oper} {T kt et:TypeId} {x i:Operand} {c:Nat} (ah:o.op= .lookup T x i true) (b6:P.underlying T=some (.map kt et)) (kq:P.underlying kt=some (.int .i64)) {ti:ca} (gD:aS.find et=some ti) {es:List (Z al×Z .fn)} (hx:a2 K x= .c (.one (.mp c))) {key:Int} (aa:a2 K i= .c (.one (.d (.int .i64 key))))
  (J:ag B c=some (.aG (AJ es))) {r:Option (Z .fn)} (ax:bY (aI:=al) (aK:=.fn) es key=r) (N:Nat):bA P N ids o K B (ahe r) ⟨[c],[],[]⟩:=by
 have cU:x∈o.op.operands:=az1
 have dU:i∈o.op.operands:=az1
 subst ax;obtain⟨CU,d,bv⟩:=bl.at_ gD;obtain⟨aB,aN,mH⟩:=bv.zero;refine bA.val fun K' B' g1 g2 C ρ F a w aj ar=>?_
 obtain⟨bh,bR,bS,O,aA,c5⟩:=(Dn.holds (.inr rfl)).1 (aj.holds c _ ((g2 c ay6).trans J));have ae:=ar.mp ((g1 x cU).trans hx);have ao:a.eval i= .int .i64 key:=ar.int ((g1 i dU).trans aa);have CF:(zeroValue et).run P w= .ok aB w:=by simp[zeroValue,typeInfo,bv.jY,aN]
 have qC:=fun e=>MapKept.run_checkKey (P:=P) (w:=w) kq (sc (aI:=al) (d:=.int .i64) rfl key) e 9999
 rcases BC (I:=bX C B' F w) (w:=w) (aI:=al) (aK:=.fn) (d:=.int .i64) rfl key es bR 0 aA with⟨bZ,cg,_⟩ |⟨j,y,e,bZ,cg,_,_,a5,_⟩
 .have hf:=MapKept.run_findKey (P:=P) (w:=w) kq bZ;refine⟨.tuple #[aB,.bool false],?_,by rw[cg];exact⟨[aB,.bool false],rfl,_,_,rfl,trivial,_,_,rfl,rfl,rfl⟩⟩
  have ax:(Instr.lookup T (.map (some (ρ c).bk)) (.int .i64 key) true).run P w= .ok (.tuple #[aB,.bool false]) w:=by
   simp only[gL] at qC hf;simp[Instr.lookup,run_underlying b6,MapKept.run_getObj_map O,qC,hf,CF,Result.andThen]
  simp only[execOp,ah,Sem.run_bind,ae,ao,ax,Result.andThen_ok,Sem.run_pure]
 .have hf:=MapKept.run_findKey (P:=P) (w:=w) kq bZ;have aD:=ahf a5;refine⟨.tuple #[mA y,.bool true],?_,by rw[cg];exact⟨[mA y,.bool true],rfl,_,_,rfl,rfl,_,_,rfl,rfl,rfl⟩⟩
  have ax:(Instr.lookup T (.map (some (ρ c).bk)) (.int .i64 key) true).run P w= .ok (.tuple #[mA y,.bool true]) w:=by
   simp only[gL] at qC hf;simp[Instr.lookup,run_underlying b6,MapKept.run_getObj_map O,qC,hf,Result.andThen,aD]
  simp only[execOp,ah,Sem.run_bind,ae,ao,ax,Result.andThen_ok,Sem.run_pure]
theorem ac.TO (s f hJ jj qf m1 m2 m3 b1 b2 b3:Nat) (aw:dI K s= .c (.one (.d (.fn (f,[b1,b2,b3]))))) (E:ag B m1=some (.b5 hJ (fc b1))) (G:ag B m2=some (.b5 jj (fc b2))) (af:ag B m3=some (.b5 qf (fc b3))):ac ids K B ((s,.c (.one (.cY f [.p hJ 0,.p jj 0,.p qf 0])))::K) B:=by
 rintro N C a w ⟨hn,H,ρ,F,aj,ar⟩;refine⟨hn,H,ρ,F,aj,fun t=>?_⟩;rw[kD]
 split
 .rename_i e;subst e;have h:=ar s;rw[aw] at h;have h:a.tmps.getD s undef=mA (f,[b1,b2,b3]):=h;have cj:=pF (N:=N) (a:=a) aj E;have cT:=pF (N:=N) (a:=a) aj G;have eg:=pF (N:=N) (a:=a) aj af;exact⟨_,h,_,_,rfl,by rw[<-cj];rfl,_,_,rfl,by rw[<-cT];rfl,_,_,rfl,by rw[<-eg];rfl,rfl⟩
 .exact ar t
end
abbrev Do (k:Nat):Z al×Z al:=@Prod.mk Int Int (k:Int) 1
abbrev f2 (l:aC4):List (Z al×Z al):=l.map Do
def nu (l:aC4) (k:Nat):aC4:=if k∈l then l else l++[k]
theorem Mq (l:aC4):(f2 l).length=l.length:=ar1 _
theorem Dp (a b:Nat):f0 al (a:Int) (b:Int)=decide (a=b):=by
 show decide ((a:Int)=(b:Int))=_
 by_cases h:a=b
 .rw[ar0 h,ar0 ay4]
 .rw[at0 h,at0 ay4]
theorem ahg {l:List (Z al×Z al)} {p:Z al×Z al} {k x:Int} (h:f0 al k p.1=true):dx (aI:=al) (aK:=al) (p::l) k x= @Prod.mk Int Int k x::l:=by
 simp only[dx,h];rfl
theorem ahh {l:List (Z al×Z al)} {p:Z al×Z al} {k x:Int} (h:f0 al k p.1=false):dx (aI:=al) (aK:=al) (p::l) k x=p::dx (aI:=al) (aK:=al) l k x:=by
 simp only[dx,h]
theorem ahi {l:List (Z al×Z al)} {p:Z al×Z al} {k:Int} (h:f0 al k p.1=true):gM (aI:=al) (aK:=al) (p::l) k=l:=by
 simp only[gM,h]
theorem ahj {l:List (Z al×Z al)} {p:Z al×Z al} {k:Int} (h:f0 al k p.1=false):gM (aI:=al) (aK:=al) (p::l) k=p::gM (aI:=al) (aK:=al) l k:=by
 simp only[gM,h]
theorem Dq (k:Nat): ∀l:aC4,dx (aI:=al) (aK:=al) (f2 l) (k:Int) (1:Int)=f2 (nu l k)
 | []=>rfl
 |x::l=>by
  by_cases h:k=x
  .refine(ahg (p:=Do x) (l:=f2 l) ((Dp k x).trans (ar0 h))).trans ?_;subst h;unfold nu;rw[if_pos (ar2 ..)];rfl
  .refine(ahh (p:=Do x) (l:=f2 l) ((Dp k x).trans (at0 h))).trans ?_;rw[Dq k l];unfold nu
   by_cases G:k∈l
   .rw[if_pos G,if_pos (aq2 _ G)];rfl
   .rw[if_neg G,if_neg (fun e=>by rcases aq5.1 e with e |e;exact h e;exact G e)];rfl
theorem Mr (k:Nat): ∀l:aC4,gM (aI:=al) (aK:=al) (f2 l) (k:Int)=f2 (l.erase k)
 | []=>rfl
 |x::l=>by
  by_cases h:k=x
  .refine(ahi (p:=Do x) (l:=f2 l) ((Dp k x).trans (ar0 h))).trans ?_;subst h;rw[List.erase_cons_head]
  .refine(ahj (p:=Do x) (l:=f2 l) ((Dp k x).trans (at0 h))).trans ?_;rw[Mr k l,List.erase_cons_tail (by simpa using fun e=>h e.symm)];rfl
theorem Dr {l:aC4} {k x:Nat}:x∈nu l k↔x∈l\/x=k:=by
 unfold nu
 split
 .rename_i h;exact⟨.inl,fun h'=>h'.elim id fun e=>e▸h⟩
 .rw[as1,ar5]
theorem TP {l:aC4} {k:Nat} (h:l.Nodup):(nu l k).Nodup:=by
 unfold nu
 split
 .exact h
 .rename_i aa;rw[List.nodup_append];refine⟨h,ay6,fun a ha b O e=>?_⟩;rw[ar5] at O;subst O e;exact aa ha
theorem vc (l:aC4):gZ (f2 l)=l.map fun k:Nat=>(k:Int):=by
 unfold gZ f2;rw[at7];rfl
theorem Ms {l:aC4} (h:l.Nodup):(gZ (f2 l)).Nodup:=by
 rw[vc];exact Mf (fun x _ y _ e=>by have e:(x:Int)=(y:Int):=e;omega) h
theorem Mt {l:aC4} (h: ∀k,k∈l->k<=1000000): ∀s∈gZ (f2 l),(Lit.int .i64 s).wf=true:=fun s aw=>by
 rw[vc] at aw;obtain⟨k,aa,rfl⟩:=as9.1 aw;have:=h k aa;show(decide (IntKind.i64.min<=(k:Int))&&decide ((k:Int)<=IntKind.i64.max))=true;rw[ar0 (show(IntKind.i64.min:Int)<=(k:Int) from Int.le_trans (by decide:IntKind.i64.min<=(0:Int)) ay4),ar0 (show(k:Int)<=IntKind.i64.max from Int.le_trans (by omega:(k:Int)<=1000000) ay5)];rfl
def eN (l:aC4):Nat:=(pd (l.map fun k:Nat=>(k:Int))).toNat
theorem G1 {l:aC4} (h:l≠[]):pd (l.map fun k:Nat=>(k:Int))=((eN l:Nat):Int)/\eN l∈l/\ ∀y,y∈l->eN l<=y:=by
 have a7:l.map (fun k:Nat=>(k:Int))≠[]:=az3
 obtain⟨E,G⟩:=Mo a7;obtain⟨k,aa,U⟩:=as9.1 E;have aA:eN l=k:=by unfold eN;rw[<-U];rfl
 refine⟨by rw[aA,U],by rw[aA];exact aa,fun y aD=>?_⟩;have:=G _ (ar8 aD);rw[aA];omega
end
section
section
variable {z R:Nat} {L:List aL} {top base:aC3}
theorem ahk {vd kt:Nat} (cf:ed L base vd) (b6:ed L top kt) (bt:base=[]\/vd < kt) (E:top≠base) (G:top∉c4 L vd base) {n:aC3} {j:Nat} (h:ed L n j): ∃i,i<=j/\ed (d4 L top base) n i:=by
 have sA:ed (d4 L top base) base vd:=LZ cf (Ne.symm E) G
 have wJ: ∀d,dk L top=some d-> ∀{j},ed L top j-> ∃i,i<=j/\ed (d4 L top base) top i:=fun d H j V=>by
  have e:dk (d4 L top base) top=some (eU top base d):=by rw[mi,H];rfl
  have u3:=GS (back:=base) (cR H).2;have Aa:=AA V b6
  by_cases O:base=[]
  .exact⟨0,aq8 _,.base e (by rw[u3];exact O)⟩
  .exact⟨vd+1,by have:=bt.resolve_left O;omega,.step e (by rw[u3];exact O) (by rw[u3];exact sA)⟩
 induction h with
 |gone h=>exact⟨0,aq8 _,.gone (by rw[mi,h];rfl)⟩
 | @base n d g1 g2=>
  have e:=(cR g1).2
  by_cases c:n=top
  .subst c;exact wJ d g1 (.base g1 g2)
  .exact⟨0,aq8 _,.base (d:=d) (by rw[mi,g1];show some (eU top base d)=_;rw[wK (by rw[e];exact c)]) g2⟩
 | @step n d j g1 g2 cX bq=>
  have e:=(cR g1).2
  by_cases c:n=top
  .subst c;exact wJ d g1 (.step g1 g2 cX)
  .obtain⟨i,aF,H⟩:=bq;exact⟨i+1,ay4,.step (d:=d) (by rw[mi,g1];show some (eU top base d)=_;rw[wK (by rw[e];exact c)]) g2 H⟩
theorem ahl (h:cb z R L):dk L []=none:=by
 cases x:dk L [] with
 |none=>rfl
 |some y=>exact absurd rfl (Dh h ⟨y,x⟩)
theorem Mu (h:cb z R L) {d:aL} (H:dk L top=some d) (aF:hG L top base=true):h8 L top base=⟨0,d4 L top base⟩:=by
 obtain⟨g1,g2,cX⟩:=TB h H aF;have b6:=(h.b5 top).1;have cf:=(h.b5 base).1
 have bt:base=[]\/cl L base < cl L top:=by
  by_cases e:base=[]
  .exact .inl e
  .rw[if_neg e] at cX;exact .inr ay4
 have E:top≠base:=fun e=>by
  rcases bt with O |O
  .exact Dh h ⟨d,H⟩ (e.trans O)
  .rw[e] at O;omega
 have G:top∉c4 L (cl L base) base:=fun aA=>by
  rcases bt with O |O
  .rw[O,show cl L []=0 from rL (.gone (ahl h)) ay4] at aA
   cases aA
  .obtain⟨j,V,af⟩:=LQ cf top aA;have:=AA af b6;omega
 unfold h8;rw[if_neg,if_neg,if_pos]
 .intro n hn;obtain⟨i,aF,ol⟩:=ahk cf b6 bt E G (h.b5 n).1;have:=(h.b5 n).2;rw[rL ol ay4];omega
 .exact fun x=>x.elim E G
 .rintro(x |x)
  .rw[H] at x;cases x
  .rw[au4] at x;rcases g2 with e |⟨e,U⟩
   .exact(mu x.1) e
   .rw[U] at x;cases x.2
theorem TQ {k:Nat} (h:om L top base=some k):hG L top base=true/\k < b4 L top/\pR L top base k=true/\ ∀j,j < k->pR L top base j=false:=by
 unfold om at h
 split at h
 .rename_i O;obtain⟨g1,g2,cX⟩:=List.find?_range_eq_some.1 h;exact⟨O,List.mem_range.1 g2,g1,fun j V=>by simpa using cX j V⟩
 .cases h
theorem ahm (O:hG L top base=true) (h:om L top base=none): ∀k,k < b4 L top->pR L top base k=false:=by
 unfold om at h;rw[if_pos O] at h;intro k aa;simpa using List.find?_range_eq_none.1 h k aa
theorem ahn (h: ∀k,k < b4 L top->pR L top base k=false):om L top base=none:=by
 unfold om
 split
 .exact List.find?_range_eq_none.2 fun k aa=>by simp[h k aa]
 .rfl
theorem aho (h:cb z R L) {t:aC3} {d:aL} {im:bE} (H:dk L t=some d) (aw:ix d.im im):kv (dl L t im none) top base=kv L top base/\hG (dl L t im none) top base=hG L top base:=by
 unfold kv hG;rw[GU h t im none top,Az,(Mi L H aw).2];exact⟨rfl,rfl⟩
end
theorem ahp {z R:Nat} {L:List aL} {top base:aC3} (h:cb z R L) {d:aL} (H:dk L top=some d) (aF:hG L top base=true) (hn:om L top base=none):cb z R (d4 L top base)/\kS z (d4 L top base) top=kS z L top:=by
 have ax:=Mu h H aF;have yr:=L0 h top base;rw[ax] at yr;have yr:cb z R (d4 L top base):=yr;have dm:dk (d4 L top base) top=some (eU top base d):=by rw[mi,H];rfl
 refine⟨yr,Mh ?_ (by rw[dm,H];rfl) fun s aw=>?_⟩
 .unfold b4;rw[dm,H];show(eU top base d).im.t.length=_;rw[Dc]
 .have cC:b4 L top=d.im.t.length:=az9
  rw[cC] at aw;have J:s/2 ^z < d.im.t.length:=(ax0 (Nat.two_pow_pos z)).2 aw;have:=ag' h H aF (by rw[ax]) J (ahm aF hn _ (by rw[cC];exact J));rw[ax] at this;rw[rN,rN];exact congrArg (fun x=>kR x (s % 2 ^z)) this
end
section
theorem ac.sJ {ids:aC4} {K:aY} {B:az} (c:Nat) {l l':List bB} (J:ag B c=some (.cells l)) (ak:EI l l'):ac ids K B K ((c,.cells l')::B):=by
 rintro N C a w ⟨hn,H,ρ,F,aj,ar⟩
 obtain⟨bI,a1⟩:=aj.hI (w':=w) (ch:=.cells l') J (cS.refl _ _) fun I a8=>by
  obtain⟨E,aE,T,G,af⟩:=aj.holds c _ J;exact⟨E,aE,T,G,JR ak (cc.mono a8 _ _ (fun _ _=>rfl) af)⟩
 exact⟨hn,H,ρ,F,bI,ar.mono a1 fun _ _ _=>rfl⟩
theorem wN (s:bE):Fn Tryz.prog 119 [aq 1001] (dD s) [] (ab (s.z:Nat)) (dD s):=by
 refine aU [] Tryz.func119 ?_;exact bg
end
section
abbrev Mv (top base:aC3) (over:Bool):List bB:=[.ptr 1001 0,.d (.str top),.d (.str base),.mp 2002,.d (.bool over)]
abbrev i1 (z R:Int) (L:List aL) (top base:aC3) (l:aC4) (over:Bool):az:=bO z R L++[(2001,.cells (Mv top base over)),(2002,.map al al (f2 l))]
def oo (L:List aL) (top:aC3):Int:=if(fm L top).2≠0\/(fm L top).1=[] then 140 else if 1 < (rJ L (fm L top).1).length then 143 else if b4 L (fm L top).1 < b4 L top then 1 else 0
def tW (L:List aL) (top:aC3):aC4:=(List.range (b4 L top)).filter fun k=> !hv L top k
def nv (z n:Nat) (l:aC4) (a aX:Int):aC4:=(List.range n).foldl (fun l k=>if a < ((k*2 ^z+2 ^z:Nat):Int)/\((k*2 ^z:Nat):Int) - aX < a then nu l k else l) l
def qD (L:List aL) (n:aC3) (k:Nat):Int:=match dk L n with
 |none=>0
 |some d=>(d.im.t.getD k ck).1
def i2 (z:Nat) (L:List aL) (top base:aC3) (k:Nat):mY:=if qD L top k=1 then fe z L base ((k*2 ^z:Nat):Int) (gy z L top (k:Int)) else if qD L top k=2 then h7 z L base ((k*2 ^z:Nat):Int) ((2 ^z:Nat):Int) else⟨0,L⟩
structure ahq where
 done:Bool
 e:Int
 L:List aL
 l:aC4
 over:Bool
def ff (z:Nat) (L:List aL) (top base:aC3) (l:aC4) (over:Bool):ahq:=if over=true then⟨false,150,L,l,true⟩ else if l=[] then⟨true,0,(iQ L top 0 ((b4 L top*2 ^z:Nat):Int)).L,[],true⟩ else
 ⟨false,(i2 z L top base (eN l)).e,(i2 z L top base (eN l)).L,if(i2 z L top base (eN l)).e=0 then l.erase (eN l) else l,false⟩
section
variable {z R:Nat} {L:List aL} {top base:aC3}
theorem ahr (z R:Int) (L:List aL) (top base:aC3) (l:aC4) (over:Bool):Fn Tryz.prog 289 [aq 2001] (i1 z R L top base l over) [] (fI over) (i1 z R L top base l over):=by
 refine aU [] Tryz.func289 ?_;exact bg
theorem TR (z R:Int) (L:List aL) (top base:aC3) (l:aC4) (over:Bool):Fn Tryz.prog 291 [aq 2001] (i1 z R L top base l over) [] gO (i1 z R L top base [] true):=by
 refine aU [] Tryz.func291 ?_;refine⟨_,_,fun N=>TM rfl Tryz.underlying159 rfl rfl N,rfl,?_⟩;exact⟨_,_,_,ac.sJ 2001 (l':=Mv top base true) rfl aC,rfl,trivial,aC,rfl⟩
theorem ahs (z R:Int) (L:List aL) (top base:aC3) (l:aC4) (over:Bool):Fn Tryz.prog 288 [aq 2001] (i1 z R L top base l over) [] gO (i1 z R L top base [] true):=by
 refine aU [] Tryz.func288 ?_;exact av (TR z R L top base l over) bg
theorem G2 (U:oo L top=0):(fm L top).2=0/\(fm L top).1≠[]/\(rJ L (fm L top).1).length<=1/\b4 L top<=b4 L (fm L top).1:=by
 unfold oo at U
 split at U
 .exact absurd U ay5
 .rename_i E
  split at U
  .exact absurd U ay5
  .rename_i G
   split at U
   .exact absurd U ay5
   .rename_i af;refine⟨av2 fun e=>E (.inl e),fun e=>E (.inr e),ay4,ay4⟩
theorem Ds (h:cb z R L) (E:(fm L top).2=0): ∃d,dk L top=some d/\(fm L top).1=d.back/\(d.back≠[]-> ∃e,dk L d.back=some e):=by
 unfold fm at E⊢
 cases H:dk L top with
 |none=>rw[H] at E;exact absurd E ay5
 |some d=>exact⟨d,rfl,rfl,h.iy d (cR H).1⟩
theorem aht (h:cb z R L) (top:aC3) (U:oo L top≠0):Fn Tryz.prog 71 [aq 1001,bT top] (bO z R L) [] (.ci [mP,dz (oo L top)]) (bO z R L):=by
 have i6:=GQ h top;have uu:=Tm h (fm L top).1;have bv:=fun E=>Ds (top:=top) h E
 have ni:(fm L top).2≠0\/(fm L top).1=[]->oo L top=140:=fun e=>if_pos e
 have uE: ¬((fm L top).2≠0\/(fm L top).1=[])->1 < (rJ L (fm L top).1).length->oo L top=143:=fun ae ao=>(if_neg ae).trans (if_pos ao)
 have TS: ¬((fm L top).2≠0\/(fm L top).1=[])-> ¬1 < (rJ L (fm L top).1).length->b4 L (fm L top).1 < b4 L top->oo L top=1:=fun ae ao bm=>(if_neg ae).trans ((if_neg ao).trans (if_pos bm))
 have CR: ¬((fm L top).2≠0\/(fm L top).1=[])-> ¬1 < (rJ L (fm L top).1).length-> ¬b4 L (fm L top).1 < b4 L top->oo L top=0:=fun ae ao bm=>(if_neg ae).trans ((if_neg ao).trans (if_neg bm))
 generalize oo L top=aqp at*;generalize fm L top=f4 at*;obtain⟨hH,be⟩:=f4;have i6:Fn Tryz.prog 114 [aq 1001,bT top] (bO z R L) [] (.ci [.one (.d (.str hH)),dz be]) (bO z R L):=i6;generalize rJ L hH=us at*;refine aU [4,6] Tryz.func71 ?_;refine av i6 ⟨fun E=>?_,fun E=>?_⟩
 .have E:(!decide (be=0))=true:=E;have E: ¬be=0:=aC0
  exact eG br rfl ⟨rfl,(ni (.inl E)).symm,trivial⟩
 have E:(!decide (be=0))=false:=E;have E:be=0:=aC0
 refine⟨fun G=>?_,fun G=>?_⟩
 .have G:hH=[]:=gd G;exact eG br rfl ⟨rfl,(ni (.inr G)).symm,trivial⟩
 have G: ¬hH=[]:=mu G;have hn: ¬(be≠0\/hH=[]):=fun e=>e.elim (fun e=>e E) G
 refine bu [6] (br) <| av uu ⟨fun af=>?_,fun af=>?_⟩
 .have af:decide ((1:Int) < ((us.length:Nat):Int))=true:=af;have af:1 < us.length:=by have:=gd af;omega
  exact eG br rfl ⟨rfl,(uE hn af).symm,trivial⟩
 have af:decide ((1:Int) < ((us.length:Nat):Int))=false:=af;have af: ¬1 < us.length:=by have:=mu af;omega
 obtain⟨d,H,O,ht⟩:=bv E;have O:hH=d.back:=O;obtain⟨e,oq⟩:=ht (by rw[<-O];exact G);rw[<-O] at oq;have lS:=h.toiP.M (cR H).1;have Mw:=h.toiP.M (cR oq).1;have h1:b4 L top=d.im.t.length:=az9
 have fS:b4 L hH=e.im.t.length:=by unfold b4;rw[oq]
 rw[h1,fS] at TS CR;refine bu [] (cM [(0,aq 1001),(1,bT top),(6,bT hH)] (bO z R L)) <| av (jM _ _ L h.toiP hH e oq) <| av (h5 (np e.im) Mw rfl rfl rfl rfl) <| av (jM _ _ L h.toiP top d H) <| av (h5 (np d.im) lS rfl rfl rfl rfl) ⟨fun aW=>?_,fun aW=>?_⟩
 .have aW:decide (((e.im.t.length:Nat):Int) < ((d.im.t.length:Nat):Int))=true:=aW;have aW:e.im.t.length < d.im.t.length:=by have:=gd aW;omega
  exact eG br rfl ⟨rfl,(TS hn af aW).symm,trivial⟩
 .exfalso;have aW:decide (((e.im.t.length:Nat):Int) < ((d.im.t.length:Nat):Int))=false:=aW;have aW: ¬e.im.t.length < d.im.t.length:=by have:=mu aW;omega
  exact U (CR hn af aW)
abbrev ahu (top hH:aC3) (n k:Nat):aY:=[(0,aq 1001),(1,bT top),(6,bT hH),(8,aq 44),(48,ab (n:Nat)),(49,ab (k:Nat))]
abbrev Mx (z R:Int) (L:List aL) (top base:aC3) (l:aC4):az:=bO z R L++[(44,.cells [.ptr 1001 0,.d (.str top),.d (.str base),.mp 42,.d (.bool false)]),(42,.map al al (f2 l))]
theorem TT (p:Nat->Bool) (k:Nat):(List.range (k+1)).filter p=(List.range k).filter p++if p k=true then[k] else[]:=by
 rw[List.range_succ,List.filter_append]
 cases h:p k with
 |true=>rw[if_pos rfl,List.filter_cons_of_pos h];rfl
 |false=>rw[if_neg ay5,List.filter_cons_of_neg (by rw[h];decide)];rfl
theorem ahv (p:Nat->Bool) (k:Nat) (h:p k=true):nu ((List.range k).filter p) k=(List.range (k+1)).filter p:=by
 rw[TT,if_pos h];unfold nu;rw[if_neg (fun e=>by have:=List.mem_range.1 (ax3.1 e).1;omega)]
theorem ahw (h:cb z R L) (top:aC3) (U:oo L top=0):Fn Tryz.prog 71 [aq 1001,bT top] (bO z R L) [2001,2002] (.ci [.one (.ptr 2001 0),dz 0]) (i1 z R L top (fm L top).1 (tW L top) false):=by
 obtain⟨ae,ao,bm,c0⟩:=G2 U;obtain⟨d,H,O,ht⟩:=Ds h ae;obtain⟨e,oq⟩:=ht (by rw[<-O];exact ao);rw[<-O] at oq;have lS:=h.toiP.M (cR H).1;have Mw:=h.toiP.M (cR oq).1;have nr:=(h.gl d (cR H).1).1.eS;have h1:b4 L top=d.im.t.length:=az9
 have fS:b4 L (fm L top).1=e.im.t.length:=by unfold b4;rw[oq]
 have G3:tW L top=(List.range d.im.t.length).filter fun k=> !hv L top k:=by unfold tW;rw[h1]
 have ahx: ∀k,k < d.im.t.length->hv L top k=decide ((d.im.t.getD k ck).1=0):=fun k aa=>by
  unfold hv;rw[H];show(decide (d.im.t.length<=k)||_)=_;rw[at0 ay4];rfl
 rw[h1,fS] at c0;rw[G3];have i6:=GQ h top;have uu:=Tm h (fm L top).1;have ahy:=ahv (fun k=> !hv L top k);have ahz:=fun k (aa:hv L top k=true)=>TT (fun k=> !hv L top k) k
 generalize fm L top=f4 at*;obtain⟨hH,be⟩:=f4;have ae:be=0:=ae;have ao: ¬hH=[]:=ao;have bm:(rJ L hH).length<=1:=bm;subst ae;have i6:Fn Tryz.prog 114 [aq 1001,bT top] (bO z R L) [] (.ci [.one (.d (.str hH)),dz 0]) (bO z R L):=i6;have uu:Fn Tryz.prog 115 [aq 1001,bT hH] (bO z R L) [] (bQ .str (rJ L hH)) (bO z R L):=uu;generalize rJ L hH=us at*;refine aU [4,6,8,9] Tryz.func71 ?_;refine av i6 <| dt ⟨fun G=>absurd (gd G) ao,fun _=>bu [6,8,9] (cM [(0,aq 1001),(1,bT top),(6,bT hH)] (bO z R L)) <| av uu ⟨fun af=>?_,fun _=>?_⟩⟩
 .exfalso;have af:decide ((1:Int) < ((us.length:Nat):Int))=true:=af;have:=gd af;omega
 refine bu [8,9] (cM [(0,aq 1001),(1,bT top),(6,bT hH)] (bO z R L)) <| av (jM _ _ L h.toiP hH e oq) <| av (h5 (np e.im) Mw rfl rfl rfl rfl) <| av (jM _ _ L h.toiP top d H) <| av (h5 (np d.im) lS rfl rfl rfl rfl) ⟨fun aW=>?_,fun _=>?_⟩
 .exfalso;have aW:decide (((e.im.t.length:Nat):Int) < ((d.im.t.length:Nat):Int))=true:=aW;have:=gd aW;omega
 refine bu [9] (cM [(0,aq 1001),(1,bT top),(6,bT hH)] (bO z R L)) ⟨rfl,rfl,bu [] (ac.trans (ac.sJ 44 (l':=[.ptr 1001 0,.d (.str top),.d (.str hH),.mp 42,.d (.bool false)]) rfl aC) (cM [(0,aq 1001),(1,bT top),(6,bT hH),(8,aq 44)] (Mx z R L top hH []))) <| av (jM _ _ L h.toiP top d H) <| av (h5 (np d.im) lS rfl rfl rfl rfl) <| d2 [12,13] (X:=Nat) (fun k=>ahu top hH d.im.t.length k) (fun k=>Mx z R L top hH ((List.range k).filter fun k=> !hv L top k)) (fun k=>k<=d.im.t.length) (fun k=>d.im.t.length - k) 0 (aq8 _) ?_ ?_⟩
 .exact ac.sub aC aC
 intro k aa;have aa:k<=d.im.t.length:=aa;refine⟨fun J=>?_,fun J=>?_⟩
 .have J:decide ((k:Int) < ((d.im.t.length:Nat):Int))=true:=J;have hr:k < d.im.t.length:=aA7
  have bf:=ahx k hr;refine bu [13] (br) <| av (jM _ _ L h.toiP top d H) <| av (h5 (Ak d.im nr k hr) lS rfl rfl rfl rfl) ⟨fun bG=>?_,fun bG=>?_⟩
  .have bG:(!decide ((d.im.t.getD k ck).1=0))=true:=bG;have rI:=ahy k (by show(!hv L top k)=true;rw[bf];exact bG);exact bu [] (cM [(0,aq 1001),(1,bT top),(6,bT hH),(8,aq 44),(48,ab (d.im.t.length:Nat)),(49,ab (k:Nat)),(9,ab (k:Nat))] (Mx z R L top hH ((List.range k).filter fun k=> !hv L top k))) ⟨trivial,ay4,k+1,hr,ay4,ac.sub aC ⟨rfl,rfl,rfl,rfl,rfl,congrArg (fun aB=>some (ba.map al al aB)) ((Dq k _).trans (congrArg f2 rI)),trivial⟩⟩
  .have bG:(!decide ((d.im.t.getD k ck).1=0))=false:=bG;have G4:hv L top k=true:=by rw[bf];simpa using bG
   have aw:=ahz k G4;rw[if_neg (by rw[G4];decide),at6] at aw;exact⟨ay4,k+1,hr,ay4,ac.sub aC ⟨rfl,rfl,rfl,rfl,rfl,congrArg (fun aB=>some (ba.map al al (f2 aB))) aw.symm,trivial⟩⟩
 .have J:decide ((k:Int) < ((d.im.t.length:Nat):Int))=false:=J;have hr:k=d.im.t.length:=aA4
  subst hr;exact⟨_,_,_,ac.trans (ac.aV 44 2001 rfl) (ac.aV 42 2002 rfl),rfl,aC,aC,rfl⟩
end
section
variable {z R:Nat} {L:List aL} {top base:aC3}
theorem G5 (z n:Nat) (l:aC4) (a aX:Int):nv z (n+1) l a aX=if a < ((n*2 ^z+2 ^z:Nat):Int)/\((n*2 ^z:Nat):Int) - aX < a then nu (nv z n l a aX) n else nv z n l a aX:=by
 unfold nv;rw[List.range_succ,ax5];rfl
def qE (z:Nat) (L:List aL) (top:aC3) (l:aC4) (over:Bool) (a aX:Int):aC4:=if over=true\/aX < 1 then l else nv z (b4 L top) l a aX
abbrev ahA (am:Nat) (a aX:Int) (n k:Nat):aY:=[(0,aq 2001),(1,ab a),(2,ab aX),(6,dr am),(31,ab (n:Nat)),(32,ab (k:Nat))]
theorem ahB (h:cb z R L) (base:aC3) (l:aC4) (over:Bool) (a aX:Int) (ve:aX<=9223372036854775807) {d:aL} (H:dk L top=some d):Fn Tryz.prog 102 [aq 2001,ab a,ab aX] (i1 z R L top base l over) [] gO (i1 z R L top base (qE z L top l over a aX) over):=by
 have nr:=(h.gl d (cR H).1).1.eS;have fy:=h.toiP.M (cR H).1;have kE:d.im.z=z:=(h.gl d (cR H).1).2.1;have ai:=jc h.b3;have yt:=h.b3;have cC:b4 L top=d.im.t.length:=az9
 cases over with
 |true=>
  have e:qE z L top l true a aX=l:=if_pos (.inl rfl);rw[e];refine aU [] Tryz.func102 ?_;exact av (jM _ _ L h.toiP top d H) ⟨rfl,fb bg⟩
 |false=>
  have ae:aX < 1->qE z L top l false a aX=l:=fun e=>if_pos (.inr e)
  have ao: ¬aX < 1->qE z L top l false a aX=nv z d.im.t.length l a aX:=fun e=>(if_neg (fun c=>c.elim (fun c=>by cases c) e)).trans (by rw[cC])
  have ar:=fun k=>G5 z k l a aX
  have aqq:nv z 0 l a aX=l:=rfl;generalize qE z L top l false a aX=j' at*
  have pe: ∀k:Nat,(k:Int)*((2 ^((d.im.z:Nat):Int).toNat:Nat):Int)=((k*2 ^z:Nat):Int):=fun k=>by
   rw[kE];show(k:Int)*((2 ^z:Nat):Int)=_;rw[Int.natCast_mul]
  have rO:(1:Int)*((2 ^((d.im.z:Nat):Int).toNat:Nat):Int)=((2 ^z:Nat):Int):=by
   have:=pe 1;rw[Nat.one_mul] at this;exact this
  refine aU [2] Tryz.func102 ?_;refine av (jM _ _ L h.toiP top d H) ⟨rfl,dt ⟨fun _ _=>⟨fun ak=>?_,fun ak=>?_⟩,fun h=>by cases h⟩⟩
  .have ak:aX < 1:=gd ak;exact sx br rfl trivial ⟨rfl,rfl,rfl,rfl,rfl,congrArg (fun aB=>some (ba.map al al (f2 aB))) (ae ak).symm,trivial⟩ rfl
  have ak: ¬aX < 1:=mu ak;have ao:=ao ak;refine bu [] (cM [(0,aq 2001),(1,ab a),(2,ab aX),(6,dr d.am)] (i1 z R L top base l false)) <| av (h5 (np d.im) fy rfl rfl rfl rfl) <| d2 [6,7] (X:=Nat) (fun k=>ahA d.am a aX d.im.t.length k) (fun k=>i1 z R L top base (nv z k l a aX) false) (fun k=>k<=d.im.t.length) (fun k=>d.im.t.length - k) 0 (aq8 _) ?_ ?_
  .exact ac.sub aC aC
  intro k aa;have aa:k<=d.im.t.length:=aa;refine⟨fun J=>?_,fun J=>?_⟩
  .have J:decide ((k:Int) < ((d.im.t.length:Nat):Int))=true:=J;have hr:k < d.im.t.length:=aA7
   have TU:=pe k;have TV:=ar k;have mk:k*2 ^z<=256*8:=av1 ay4 ai.2;have m1:(0:Int)<=(k:Int)/\(0:Int)<=((d.im.z:Nat):Int)/\((d.im.z:Nat):Int)<=64:=az2
   have m2:c1 ((k:Int)*((2 ^((d.im.z:Nat):Int).toNat:Nat):Int)):=by rw[TU];omega
   have cU:(0:Int)<=(1:Int)/\(0:Int)<=((d.im.z:Nat):Int)/\((d.im.z:Nat):Int)<=64:=az2
   have dU:c1 ((1:Int)*((2 ^((d.im.z:Nat):Int).toNat:Nat):Int)):=by rw[rO];omega
   have ls:c1 (((k*2 ^z:Nat):Int)+(1:Int)*((2 ^((d.im.z:Nat):Int).toNat:Nat):Int)):=by rw[rO];omega
   have sF:c1 (((k*2 ^z:Nat):Int) - aX):=az2
   have TW:((k*2 ^z:Nat):Int)+(1:Int)*((2 ^((d.im.z:Nat):Int).toNat:Nat):Int)=((k*2 ^z+2 ^z:Nat):Int):=by rw[rO];omega
   refine av (h5 (wN d.im) fy rfl rfl rfl rfl) ⟨m1,m2,bu [7] (ac.sub (K':=[(0,aq 2001),(1,ab a),(2,ab aX),(6,dr d.am),(31,ab (d.im.t.length:Nat)),(32,ab (k:Nat)),(7,ab (k:Nat)),(8,ab ((k*2 ^z:Nat):Int))]) (B':=i1 z R L top base (nv z k l a aX) false) ⟨rfl,rfl,rfl,rfl,rfl,rfl,rfl,TU,trivial⟩ aC) <| av (h5 (wN d.im) fy rfl rfl rfl rfl) ⟨cU,dU,ls,?_⟩⟩;have AL:(¬(a < ((k*2 ^z+2 ^z:Nat):Int)/\((k*2 ^z:Nat):Int) - aX < a))->nv z k l a aX=nv z (k+1) l a aX:=fun e=>by rw[TV,if_neg e]
   refine⟨fun cI=>?_,fun cI=>?_⟩
   .have cI:decide (a < ((k*2 ^z:Nat):Int)+(1:Int)*((2 ^((d.im.z:Nat):Int).toNat:Nat):Int))=true:=cI;have cI:=gd cI;rw[TW] at cI;refine⟨sF,fun cE=>?_,fun cE=>?_⟩
    .have cE:decide (((k*2 ^z:Nat):Int) - aX < a)=true:=cE;have cE:=gd cE;have aT:nu (nv z k l a aX) k=nv z (k+1) l a aX:=by rw[TV,if_pos ⟨cI,cE⟩]
     exact bu [] (cM [(0,aq 2001),(1,ab a),(2,ab aX),(6,dr d.am),(31,ab (d.im.t.length:Nat)),(32,ab (k:Nat)),(7,ab (k:Nat))] (i1 z R L top base (nv z k l a aX) false)) ⟨trivial,ay4,k+1,hr,ay4,ac.sub aC ⟨rfl,rfl,rfl,rfl,rfl,congrArg (fun aB=>some (ba.map al al aB)) ((Dq k _).trans (congrArg f2 aT)),trivial⟩⟩
    .have cE:decide (((k*2 ^z:Nat):Int) - aX < a)=false:=cE;have cE:=mu cE;exact⟨ay4,k+1,hr,ay4,ac.sub aC ⟨rfl,rfl,rfl,rfl,rfl,congrArg (fun aB=>some (ba.map al al (f2 aB))) (AL fun e=>cE e.2),trivial⟩⟩
   .have cI:decide (a < ((k*2 ^z:Nat):Int)+(1:Int)*((2 ^((d.im.z:Nat):Int).toNat:Nat):Int))=false:=cI;have cI:=mu cI;rw[TW] at cI;exact⟨ay4,k+1,hr,ay4,ac.sub aC ⟨rfl,rfl,rfl,rfl,rfl,congrArg (fun aB=>some (ba.map al al (f2 aB))) (AL fun e=>cI e.1),trivial⟩⟩
  .have J:decide ((k:Int) < ((d.im.t.length:Nat):Int))=false:=J;have hr:k=d.im.t.length:=aA4
   subst hr;exact sx br rfl trivial ⟨rfl,rfl,rfl,rfl,rfl,congrArg (fun aB=>some (ba.map al al (f2 aB))) ao.symm,trivial⟩ rfl
abbrev G6 (z R:Int) (L:List aL) (top base:aC3) (l:aC4) (x y:Int):az:=i1 z R L top base l false++[(3001,.cells [.ptr 2001 0]),(3002,.cells [.d (.int .i64 x)]),(3003,.cells [.d (.int .i64 y)])]
theorem ahC (h:cb z R L) (base:aC3) (l:aC4) (a:Int) (k:Nat) {d:aL} (H:dk L top=some d) (aa:k < d.im.t.length):Fn Tryz.prog 294 [aq 3001,aq 3002,aq 3003] (G6 z R L top base l a (k:Int)) [] (ab (fe z L base a (gy z L top (k:Int))).e) (G6 z R (fe z L base a (gy z L top (k:Int))).L top base l a (k:Int)):=by
 have dH:=L1 h top (k:Int);have ai:=jc h.b3
 have bV:(gy z L top (k:Int)).length<=1000000000:=by
  have:gy z L top (k:Int)=fu z L top (cl L top) k:=by
   unfold gy;rw[H];simp only;rw[if_pos ⟨ay4,ay4⟩];rfl
  rw[this,yf h.tont H (h.b5 top).1 k];omega
 have G7:=LX h base a (gy z L top (k:Int)) bV;generalize gy z L top (k:Int)=x at*;generalize fe z L base a x=r at*;refine aU [] Tryz.func294 ?_;exact av dH <| av G7 ⟨rfl,bg⟩
theorem ahD (h:cb z R L) (top base:aC3) (l:aC4) (a aX:Int):Fn Tryz.prog 295 [aq 3001,aq 3002,aq 3003] (G6 z R L top base l a aX) [] (ab (h7 z L base a aX).e) (G6 z R (h7 z L base a aX).L top base l a aX):=by
 have ahE:=Tk h base a aX;generalize h7 z L base a aX=r at*;refine aU [] Tryz.func295 ?_;exact av ahE ⟨rfl,bg⟩
abbrev Dt (z R:Int) (L:List aL) (top base:aC3) (l:aC4) (k a aX:Int) (er fk fv g0:Nat) (es:List (Z al×Z .fn)):az:=i1 z R L top base l false++[(4,.cells [.ptr 2001 0]),(5,.cells [.d (.int .i64 k)]),(6,.cells [.d (.int .i64 a)]),(7,.cells [.d (.int .i64 aX)]),(9004,.b5 4 (fc er)),(9005,.b5 5 (fc fk)),(9006,.b5 6 (fc fv)),(9007,.b5 7 (fc g0)),(12,.aG (AJ es))]
def rP (er fk fv g0:Nat):List (Z al×Z .fn):=dx (aI:=al) (aK:=.fn) (dx (aI:=al) (aK:=.fn) [] (1:Int) (294,[er,fv,fk])) (2:Int) (295,[er,fv,g0])
theorem ahF (er fk fv g0:Nat):bY (aI:=al) (aK:=.fn) (rP er fk fv g0) (1:Int)=some (294,[er,fv,fk]):=rfl
theorem ahG (er fk fv g0:Nat):bY (aI:=al) (aK:=.fn) (rP er fk fv g0) (2:Int)=some (295,[er,fv,g0]):=rfl
theorem ahH (er fk fv g0:Nat) {x:Int} (E:x≠1) (G:x≠2):bY (aI:=al) (aK:=.fn) (rP er fk fv g0) x=none:=by
 have ae:f0 al x (1:Int)=false:=at0 E;have ao:f0 al x (2:Int)=false:=at0 G;have e:rP er fk fv g0=[(@Prod.mk (Z al) (Z .fn) (1:Int) (294,[er,fv,fk])),(@Prod.mk (Z al) (Z .fn) (2:Int) (295,[er,fv,g0]))]:=rfl;rw[e];simp only[bY,ae,ao]
theorem ahI (h:cb z R L) (base:aC3) (l:aC4) (k:Nat) (a aX:Int) (ha:a=((k*2 ^z:Nat):Int)) (aZ:aX=((2 ^z:Nat):Int)) {d:aL} (H:dk L top=some d) (aa:k < d.im.t.length):Fn Tryz.prog 293 [aq 2001,ab (k:Int),ab a,ab aX] (i1 z R L top base l false) [] (ab (i2 z L top base k).e) (i1 z R (i2 z L top base k).L top base l false):=by
 have nr:=(h.gl d (cR H).1).1.eS;have fy:=h.toiP.M (cR H).1;have vf:qD L top k=(d.im.t.getD k ck).1:=by unfold qD;rw[H]
 have vg:=Ak d.im nr k aa;rw[<-vf] at vg;have gX:=ahC h base l a k H aa;have hm:=ahD h top base l a aX
 by_cases cI:qD L top k=1
 .have e:i2 z L top base k=fe z L base a (gy z L top (k:Int)):=by rw[ha];exact if_pos cI
  rw[e];rw[cI] at vg;generalize fe z L base a (gy z L top (k:Int))=r at*;refine aU [1,2,3,5] Tryz.func293 ?_;refine⟨rfl,rfl,rfl,rfl,bw.e4 (di.mark 4 9004 rfl ay5) fun er=>bw.e4 (di.mark 5 9005 rfl ay5) fun fk=>bw.e4 (di.mark 6 9006 rfl ay5) fun fv=>bw.e4 (di.mark 7 9007 rfl ay5) fun g0=>bu [2,3,5] (br) ⟨rfl,_,_,fun N=>AK (m1:=9004) (m2:=9006) (m3:=9005) (b1:=er) (b2:=fv) (b3:=fk) (ch':=.map al .fn (dx (aI:=al) (aK:=.fn) [] (1:Int) (294,[er,fv,fk]))) rfl Tryz.underlying352 Tryz.underlying3 rfl rfl rfl rfl rfl rfl rfl (.inl rfl) (.inl rfl) N,rfl,?_⟩⟩;refine⟨_,_,fun N=>AK (m1:=9004) (m2:=9006) (m3:=9007) (b1:=er) (b2:=fv) (b3:=g0) (ch':=.aG (AJ (rP er fk fv g0))) rfl Tryz.underlying352 Tryz.underlying3 rfl rfl rfl rfl rfl rfl rfl (.inl rfl) (.inr rfl) N,rfl,?_⟩;refine bu [3,5] (cM [(4,aq 4),(5,aq 5),(6,aq 6),(7,aq 7),(9,.c (.one (.mp 12)))] (Dt z R L top base l k a aX er fk fv g0 (rP er fk fv g0))) <| av (jM _ _ L h.toiP top d H) <| av (h5 vg fy rfl rfl rfl rfl) ⟨_,_,fun N=>Mp e3 (ti:=_) rfl Tryz.underlying352 Tryz.underlying3 rfl rfl rfl rfl (ahF er fk fv g0) N,rfl,?_⟩;exact⟨rfl,bu [5] (cM [(10,.c (.one (.d (.fn (294,[er,fv,fk]))))),(11,q5 true)] (Dt z R L top base l k a aX er fk fv g0 (rP er fk fv g0))) <| bw.le (ac.TO 10 294 4 6 5 9004 9006 9005 er fv fk rfl rfl rfl rfl) <| bu [] (br) <| av (Fn.aV [(3001,4),(3002,6),(3003,5)] gX) bg⟩
 by_cases cE:qD L top k=2
 .have e:i2 z L top base k=h7 z L base a aX:=by rw[ha,aZ];exact(if_neg cI).trans (if_pos cE)
  rw[e];rw[cE] at vg;generalize h7 z L base a aX=r at*;refine aU [1,2,3,5] Tryz.func293 ?_;refine⟨rfl,rfl,rfl,rfl,bw.e4 (di.mark 4 9004 rfl ay5) fun er=>bw.e4 (di.mark 5 9005 rfl ay5) fun fk=>bw.e4 (di.mark 6 9006 rfl ay5) fun fv=>bw.e4 (di.mark 7 9007 rfl ay5) fun g0=>bu [2,3,5] (br) ⟨rfl,_,_,fun N=>AK (m1:=9004) (m2:=9006) (m3:=9005) (b1:=er) (b2:=fv) (b3:=fk) (ch':=.map al .fn (dx (aI:=al) (aK:=.fn) [] (1:Int) (294,[er,fv,fk]))) rfl Tryz.underlying352 Tryz.underlying3 rfl rfl rfl rfl rfl rfl rfl (.inl rfl) (.inl rfl) N,rfl,?_⟩⟩;refine⟨_,_,fun N=>AK (m1:=9004) (m2:=9006) (m3:=9007) (b1:=er) (b2:=fv) (b3:=g0) (ch':=.aG (AJ (rP er fk fv g0))) rfl Tryz.underlying352 Tryz.underlying3 rfl rfl rfl rfl rfl rfl rfl (.inl rfl) (.inr rfl) N,rfl,?_⟩;refine bu [3,5] (cM [(4,aq 4),(5,aq 5),(6,aq 6),(7,aq 7),(9,.c (.one (.mp 12)))] (Dt z R L top base l k a aX er fk fv g0 (rP er fk fv g0))) <| av (jM _ _ L h.toiP top d H) <| av (h5 vg fy rfl rfl rfl rfl) ⟨_,_,fun N=>Mp e3 (ti:=_) rfl Tryz.underlying352 Tryz.underlying3 rfl rfl rfl rfl (ahG er fk fv g0) N,rfl,?_⟩;exact⟨rfl,bu [5] (cM [(10,.c (.one (.d (.fn (295,[er,fv,g0]))))),(11,q5 true)] (Dt z R L top base l k a aX er fk fv g0 (rP er fk fv g0))) <| bw.le (ac.TO 10 295 4 6 7 9004 9006 9007 er fv g0 rfl rfl rfl rfl) <| bu [] (br) <| av (Fn.aV [(3001,4),(3002,6),(3003,7)] hm) bg⟩
 .have e:i2 z L top base k=⟨0,L⟩:=(if_neg cI).trans (if_neg cE);rw[e];have hw:=fun er fk fv g0=>ahH er fk fv g0 cI cE
  generalize qD L top k=cJ at*;refine aU [1,2,3,5] Tryz.func293 ?_;refine⟨rfl,rfl,rfl,rfl,bw.e4 (di.mark 4 9004 rfl ay5) fun er=>bw.e4 (di.mark 5 9005 rfl ay5) fun fk=>bw.e4 (di.mark 6 9006 rfl ay5) fun fv=>bw.e4 (di.mark 7 9007 rfl ay5) fun g0=>bu [2,3,5] (br) ⟨rfl,_,_,fun N=>AK (m1:=9004) (m2:=9006) (m3:=9005) (b1:=er) (b2:=fv) (b3:=fk) (ch':=.map al .fn (dx (aI:=al) (aK:=.fn) [] (1:Int) (294,[er,fv,fk]))) rfl Tryz.underlying352 Tryz.underlying3 rfl rfl rfl rfl rfl rfl rfl (.inl rfl) (.inl rfl) N,rfl,?_⟩⟩;refine⟨_,_,fun N=>AK (m1:=9004) (m2:=9006) (m3:=9007) (b1:=er) (b2:=fv) (b3:=g0) (ch':=.aG (AJ (rP er fk fv g0))) rfl Tryz.underlying352 Tryz.underlying3 rfl rfl rfl rfl rfl rfl rfl (.inl rfl) (.inr rfl) N,rfl,?_⟩;refine bu [3,5] (cM [(4,aq 4),(5,aq 5),(6,aq 6),(7,aq 7),(9,.c (.one (.mp 12)))] (Dt z R L top base l k a aX er fk fv g0 (rP er fk fv g0))) <| av (jM _ _ L h.toiP top d H) <| av (h5 vg fy rfl rfl rfl rfl) ⟨_,_,fun N=>Mp e3 (ti:=_) rfl Tryz.underlying352 Tryz.underlying3 rfl rfl rfl rfl (hw er fk fv g0) N,rfl,?_⟩;exact⟨rfl,bu [5] (cM [(11,q5 false)] (i1 z R L top base l false)) bg⟩
end
section
variable {z R:Nat} {L:List aL} {top base:aC3}
theorem ahJ (h:cb z R L) (base:aC3) (l:aC4) (over:Bool) {d:aL} (H:dk L top=some d) (ak: ∀k,k∈l->k < d.im.t.length) (hn:l.Nodup):Fn Tryz.prog 290 [aq 2001] (i1 z R L top base l over) [] (.ci [.one (.d (.bool (ff z L top base l over).done)),dz (ff z L top base l over).e]) (i1 z R (ff z L top base l over).L top base (ff z L top base l over).l (ff z L top base l over).over):=by
 have nr:=(h.gl d (cR H).1).1.eS;have fy:=h.toiP.M (cR H).1;have kE:d.im.z=z:=(h.gl d (cR H).1).2.1;have yt:=h.b3;have ai:=jc h.b3
 cases over with
 |true=>
  have e:ff z L top base l true=⟨false,150,L,l,true⟩:=if_pos rfl;rw[e];refine aU [] Tryz.func290 ?_;exact av (jM _ _ L h.toiP top d H) ⟨rfl,fb bg⟩
 |false=>
  have rO:(1:Int)*((2 ^((d.im.z:Nat):Int).toNat:Nat):Int)=((2 ^z:Nat):Int):=by
   rw[kE,Int.one_mul];rfl
  have cU:(0:Int)<=(1:Int)/\(0:Int)<=((d.im.z:Nat):Int)/\((d.im.z:Nat):Int)<=64:=az2
  have dU:c1 ((1:Int)*((2 ^((d.im.z:Nat):Int).toNat:Nat):Int)):=by rw[rO];omega
  by_cases a7:l=[]
  .have cC:b4 L top=d.im.t.length:=az9
   have e:ff z L top base l false=⟨true,0,(iQ L top 0 ((d.im.t.length*2 ^z:Nat):Int)).L,[],true⟩:=by
    unfold ff;rw[if_neg ay5,if_pos a7,cC]
   rw[e];subst a7;have hX:=Tl h top 0 ((d.im.t.length*2 ^z:Nat):Int);have aqr:=agO h top 0 ((d.im.t.length*2 ^z:Nat):Int);have mk:d.im.t.length*2 ^z<=256*8:=av1 nr ai.2;have em:((d.im.t.length:Nat):Int)*((2 ^z:Nat):Int)=((d.im.t.length*2 ^z:Nat):Int):=by rw[Int.natCast_mul]
   have m3:c1 (((d.im.t.length:Nat):Int)*((2 ^z:Nat):Int)):=by rw[em];omega
   rw[<-em] at hX⊢;generalize iQ L top 0 (((d.im.t.length:Nat):Int)*((2 ^z:Nat):Int))=r at*;refine aU [4,6,7] Tryz.func290 ?_;exact av (jM _ _ L h.toiP top d H) ⟨rfl,dt ⟨fun _ _=>bu [6,7] (cM [(0,aq 2001),(4,dr d.am)] (i1 z R L top base [] false)) <| av (h5 (wN d.im) fy rfl rfl rfl rfl) ⟨cU,dU,fb <| bu [7] (ac.sub (K':=[(0,aq 2001),(4,dr d.am),(5,ab ((2 ^z:Nat):Int))]) (B':=i1 z R L top base [] false) ⟨rfl,rfl,rO,trivial⟩ aC) <| av (h5 (np d.im) fy rfl rfl rfl rfl) ⟨m3,av hX ⟨rfl,bu [] (cM [(0,aq 2001)] (i1 z R r.L top base [] false)) <| av (TR z R r.L top base [] false) bg⟩⟩⟩,fun h=>by cases h⟩⟩
  .have e:ff z L top base l false=⟨false,(i2 z L top base (eN l)).e,(i2 z L top base (eN l)).L,if(i2 z L top base (eN l)).e=0 then l.erase (eN l) else l,false⟩:=by
    unfold ff;rw[if_neg ay5,if_neg a7]
   rw[e];obtain⟨cA,cF,dF⟩:=G1 a7;have aa:=ak _ cF
   have Bz: ∀g:{hc:List Int//hc.Perm (gZ (f2 l))},pd g.1=((eN l:Nat):Int):=fun g=>by
    rw[TK g.2 (by rw[vc];simpa using a7),vc];exact cA
   have uW: ∀g:{hc:List Int//hc.Perm (gZ (f2 l))},g.1.length=l.length:=fun g=>by
    rw[g.2.length_eq,vc,ar1]
   have mT:l.length<=256:=by
    have:=GX d.im.t.length l hn ak;omega
   have nl:0 < l.length:=List.length_pos_iff.2 a7;have rl:=Mq l;have My:=TI (f2 l) (Ms hn) (Mt fun k aa=>by have:=ak k aa;omega) ay4;have mk:eN l*2 ^z<=256*8:=av1 ay4 ai.2;have em:((eN l:Nat):Int)*((2 ^z:Nat):Int)=((eN l*2 ^z:Nat):Int):=by rw[Int.natCast_mul]
   have m3:c1 (((eN l:Nat):Int)*((2 ^z:Nat):Int)):=by rw[em];omega
   have ahK:=ahI h base l (eN l) _ _ em rfl H aa;have dm:=Mr (eN l) l;generalize eN l=rQ at*;generalize i2 z L top base rQ=r at*;refine aU [4,9,10,12] Tryz.func290 ?_;refine av (jM _ _ L h.toiP top d H) ⟨rfl,dt ⟨fun _ _=>bu [9,10,12] (cM [(0,aq 2001),(4,dr d.am)] (i1 z R L top base l false)) <| av (h5 (wN d.im) fy rfl rfl rfl rfl) ⟨cU,dU,fun J=>?_,fun _=>?_⟩,fun h=>by cases h⟩⟩
   .exfalso;have J:decide ((((f2 l).length:Nat):Int)=0)=true:=J;have:=gd J;omega
   refine bw.le (ac.sub (K':=[(0,aq 2001),(5,ab ((2 ^z:Nat):Int))]) (B':=i1 z R L top base l false) ⟨rfl,rO,trivial⟩ aC) <| bw.iL e3 ay7 <| lP ((Fn.aV [(1001,2002),(2001,9001)] (Mm (f2 l))).x) fun _=>lP (cx.aV [(1001,2002),(2001,9001)] My) fun g=>?_
   have ahL:=uW g;have Du:=Bz g;refine lP ((TL g.1 ay4 ay4).x) fun _=>?_
   refine bu [12] (ac.sub (K':=[(0,aq 2001),(5,ab ((2 ^z:Nat):Int)),(6,ab (rQ:Nat))]) (B':=i1 z R L top base l false) ⟨rfl,rfl,Du,trivial⟩ aC) ⟨m3,av ahK ⟨fun U=>?_,fun U=>?_⟩⟩
   .have U:r.e=0:=gd U;exact bu [] (cM [(0,aq 2001),(6,ab (rQ:Nat)),(7,ab r.e)] (i1 z R r.L top base l false)) <| sx br rfl aC ⟨rfl,rfl,rfl,rfl,rfl,congrArg (fun aB=>some (ba.map al al aB)) (dm.trans (congrArg f2 (if_pos U).symm)),trivial⟩ rfl
   .have U: ¬r.e=0:=mu U;exact sx br rfl aC ⟨rfl,rfl,rfl,rfl,rfl,congrArg (fun aB=>some (ba.map al al (f2 aB))) (if_neg U).symm,trivial⟩ rfl
end
end
section
section
variable {z R:Nat} {L:List aL}
theorem i0.aQ {L':List aL} {t:aC3} (ak:i0 L t L') (n:aC3):b4 L' n=b4 L n/\(dk L' n).isSome=(dk L n).isSome:=by
 rcases ak with rfl |⟨d,im,au,aw,rfl⟩
 .exact⟨rfl,rfl⟩
 .exact Mi L au aw
end
end
section
section
variable {z R:Nat} {L:List aL} {top base:aC3} {l:aC4}
structure lz (z R:Nat) (L:List aL) (top:aC3) (l:aC4):Prop where
 cs:cb z R L
 iy:(dk L top).isSome=true
 lt: ∀k,k∈l->k < b4 L top
 hE:l.Nodup
theorem lz.rR {L':List aL} {t:aC3} (h:lz z R L top l) (ak:i0 L t L'):lz z R L' top l:=⟨ak.cs h.cs,by rw[(ak.aQ top).2];exact h.iy,fun k aa=>by rw[(ak.aQ top).1];exact h.lt k aa,h.hE⟩
theorem Dv (h:cb z R L) (top base:aC3) (k:Nat):i0 L base (i2 z L top base k).L:=by
 unfold i2
 split
 .exact wL h _ _ _
 .split
  .exact Di h _ _ _
  .exact .inl rfl
theorem lz.step (h:lz z R L top l) (base:aC3) (over:Bool):lz z R (ff z L top base l over).L top (ff z L top base l over).l:=by
 unfold ff
 split
 .exact h
 .split
  .exact⟨(h.rR (tV h.cs _ _ _)).cs,(h.rR (tV h.cs _ _ _)).iy,fun k aa=>(by cases aa),av8⟩
  .have E:=h.rR (Dv h.cs top base (eN l));refine⟨E.cs,E.iy,fun k aa=>E.lt k ?_,?_⟩
   .have aa:k∈(if(i2 z L top base (eN l)).e=0 then l.erase (eN l) else l):=aa
    split at aa
    .exact List.mem_of_mem_erase aa
    .exact aa
   .show(if(i2 z L top base (eN l)).e=0 then l.erase (eN l) else l).Nodup
    split
    .exact h.hE.erase _
    .exact h.hE
theorem lz.G8 (h:cb z R L) (U:oo L top=0):lz z R L top (tW L top):=by
 obtain⟨d,H,_⟩:=Ds h (G2 U).1;exact⟨h,by rw[H];rfl,fun k aa=>List.mem_range.1 (ax3.1 aa).1,List.nodup_range.filter _⟩
theorem lz.get (h:lz z R L top l): ∃d,dk L top=some d/\ ∀k,k∈l->k < d.im.t.length:=by
 obtain⟨d,H⟩:=at4.1 h.iy;refine⟨d,H,fun k aa=>?_⟩;have:=h.lt k aa;unfold b4 at this;rw[H] at this;exact this
theorem lz.Mz (h:lz z R L top l) (base:aC3) (over:Bool):Fn Tryz.prog 290 [aq 2001] (i1 z R L top base l over) [] (.ci [.one (.d (.bool (ff z L top base l over).done)),dz (ff z L top base l over).e]) (i1 z R (ff z L top base l over).L top base (ff z L top base l over).l (ff z L top base l over).over):=
 let⟨_,H,ak⟩:=h.get
 ahJ h.cs base l over H ak h.hE
theorem ahM {z n:Nat} {l:aC4} {a aX:Int}: ∀{k:Nat},k∈nv z n l a aX->k∈l\/k < n:=by
 induction n with
 |zero=>exact fun h=>.inl h
 |succ n bq=>
  intro k aa;rw[G5] at aa
  split at aa
  .rcases Dr.1 aa with aa |rfl
   .exact(bq aa).imp id ay4
   .exact .inr ay4
  .exact(bq aa).imp id ay4
theorem ahN {z n:Nat} {l:aC4} {a aX:Int} (h:l.Nodup):(nv z n l a aX).Nodup:=by
 induction n with
 |zero=>exact h
 |succ n bq=>
  rw[G5]
  split
  .exact TP bq
  .exact bq
theorem lz.wr (h:lz z R L top l) (over:Bool) (a aX:Int):lz z R L top (qE z L top l over a aX):=by
 unfold qE
 split
 .exact h
 .exact⟨h.cs,h.iy,fun k aa=>(ahM aa).elim (h.lt k) id,ahN h.hE⟩
end
section
variable {z R:Nat} {L:List aL} {top base nm:aC3} {l:aC4}
theorem ahO {d:aL} (H:dk L top=some d) {k:Nat} (aa:k < d.im.t.length):gy z L top (k:Int)=fu z L top (cl L top) k:=by
 unfold gy;rw[H];simp only;rw[if_pos ⟨ay4,ay4⟩];rfl
structure lc (z R:Nat) (L:List aL) (top base:aC3) (l:aC4):Prop extends lz z R L top l where
 vd:(dk L base).isSome=true
 le:b4 L top<=b4 L base
 f4:fm L top=(base,0)
 ne:base≠[]
theorem lc.G8 (h:cb z R L) (U:oo L top=0):lc z R L top (fm L top).1 (tW L top):=by
 obtain⟨ae,ao,bm,c0⟩:=G2 U;obtain⟨d,H,O,ht⟩:=Ds h ae;obtain⟨e,oq⟩:=ht (by rw[<-O];exact ao);rw[<-O] at oq;exact⟨lz.G8 h U,by rw[oq];rfl,c0,by rw[<-ae],ao⟩
theorem i0.fm {L':List aL} {t:aC3} (ak:i0 L t L') (n:aC3):fm L' n=fm L n:=by
 rcases ak with rfl |⟨d,im,au,aw,rfl⟩
 .rfl
 .unfold Go.Proofs.YtkfbeijmgggkmaaGreat.fm;rw[u5]
  cases H:dk L n with
  |none=>rfl
  |some d=>show(_,_)=(_,_);rw[ym]
theorem lc.rR {L':List aL} {t:aC3} (h:lc z R L top base l) (ak:i0 L t L'):lc z R L' top base l:=⟨h.tolz.rR ak,by rw[(ak.aQ base).2];exact h.vd,by rw[(ak.aQ base).1,(ak.aQ top).1];exact h.le,by rw[ak.fm];exact h.f4,h.ne⟩
theorem lc.step (h:lc z R L top base l) (over:Bool):lc z R (ff z L top base l over).L top base (ff z L top base l over).l/\ ∃t,i0 L t (ff z L top base l over).L:=by
 have aA:=h.tolz.step base over
 have ak: ∃t,i0 L t (ff z L top base l over).L:=by
  unfold ff
  split
  .exact⟨top,.inl rfl⟩
  .split
   .exact⟨top,tV h.cs _ _ _⟩
   .exact⟨base,Dv h.cs top base _⟩
 refine⟨?_,ak⟩;obtain⟨t,ak⟩:=ak;have E:=h.rR ak;exact⟨aA,E.vd,E.le,E.f4,E.ne⟩
theorem lc.wr (h:lc z R L top base l) (over:Bool) (a aX:Int):lc z R L top base (qE z L top l over a aX):=⟨h.tolz.wr over a aX,h.vd,h.le,h.f4,h.ne⟩
end
def fY (z:Nat) (L:List aL) (nm:aC3) (s:Nat):aC3:=jt z L nm (cl L nm) s
def rS (z:Nat) (L:List aL) (top base:aC3) (l:aC4):Prop:= ∀s,s < b4 L top*2 ^z->s/2 ^z∉l->fY z L top s=fY z L base s
section
variable {z R:Nat} {L L':List aL} {top base t:aC3} {l:aC4}
theorem lc.dk (h:lc z R L top base l): ∃d,Go.Proofs.YtkfbeijmgggkmaaGreat.dk L top=some d/\d.back=base:=by
 have O:=h.f4;unfold fm at O
 cases H:Go.Proofs.YtkfbeijmgggkmaaGreat.dk L top with
 |none=>rw[H] at O;exact absurd (congrArg Prod.snd O) (show¬(140:Int)=0 by decide)
 |some d=>
  rw[H] at O;exact⟨d,rfl,congrArg Prod.fst O⟩
theorem wO {L L':List aL} {n n':aC3} {s:Nat} (h:fu z L' n' (cl L' n') (s/2 ^z)=fu z L n (cl L n) (s/2 ^z)):fY z L' n' s=fY z L n s:=by
 unfold fY;rw[rN,rN,h]
theorem Dw (h:cb z R L) {d:aL} (H:dk L top=some d) (a7:d.back≠[]) {c:Nat} (aN:(d.im.t.getD c ck).1=0):fu z L top (cl L top) c=fu z L d.back (cl L d.back) c:=by
 rw[yp H (fun e=>e.2 aN),L7 h H a7,L5 H]
theorem MA {d:aL} (H:dk L top=some d) {cJ c:Nat} (J:c < d.im.t.length) (aN:(d.im.t.getD c ck).1≠0):fu z L top cJ c=eh d.im c none:=by
 unfold fu;rw[GT H ⟨J,aN⟩]
theorem G9 {n s:Nat} (h:s < n*2 ^z):s/2 ^z < n:=(ax0 (Nat.two_pow_pos z)).2 h
theorem ahP (h:cb z R L) (ak:i0 L base L') {d:aL} (H:dk L top=some d) (O:d.back=base) (a7:base≠[]):dk L' top=some d/\cb z R L'/\ ∀s,s < b4 L top*2 ^z->
  ((d.im.t.getD (s/2 ^z) ck).1≠0->fY z L' top s=fY z L top s)/\((d.im.t.getD (s/2 ^z) ck).1=0->fY z L' top s=fY z L' base s/\fY z L top s=fY z L base s):=by
 subst O;have sA:=L9 h H a7;have e8:=ak.cs h
 have dq:dk L' top=some d:=by
  rcases ak with rfl |⟨e,im,au,aw,rfl⟩
  .exact H
  .rw[GL (fun e=>sA.ne e.symm),H]
 refine⟨dq,e8,fun s aw=>⟨fun aN=>?_,fun aN=>?_⟩⟩
 .have J:=G9 aw;have cC:b4 L top=d.im.t.length:=az9
  rw[cC] at J;exact wO (by rw[MA dq J aN,MA H J aN])
 .exact⟨wO (Dw e8 dq a7 aN),wO (Dw h H a7 aN)⟩
theorem AM {k s:Nat}:(k*2 ^z<=s/\s < k*2 ^z+2 ^z)↔s/2 ^z=k:=by
 have ai:=Nat.two_pow_pos z;rw[Nat.div_eq_iff ai];have:(k+1)*2 ^z=k*2 ^z+2 ^z:=aw4 ..;omega
theorem ahQ {k s:Nat} (h:s/2 ^z=k):s - k*2 ^z=s % 2 ^z:=by
 have E:=Nat.div_add_mod s (2 ^z);rw[h,Nat.mul_comm] at E;omega
theorem ahR (h:lc z R L top base l) {k:Nat} (aa:k < b4 L top) (U:(i2 z L top base k).e=0) (s:Nat):fY z (i2 z L top base k).L base s=if s/2 ^z=k then fY z L top s else fY z L base s:=by
 obtain⟨d,H,O⟩:=h.dk;have ai:=jc h.cs.b3;have cC:b4 L top=d.im.t.length:=az9
 have vf:qD L top k=(d.im.t.getD k ck).1:=by unfold qD;rw[H]
 rw[cC] at aa;have ap:=(h.cs.gl d (cR H).1).1
 by_cases cI:qD L top k=1
 .have e:i2 z L top base k=fe z L base ((k*2 ^z:Nat):Int) (gy z L top (k:Int)):=if_pos cI;rw[e,ahO H aa] at U⊢;have hw:=GW h.cs U s;have bV:(fu z L top (cl L top) k).length=16*2 ^z:=yf h.cs.tont H (h.cs.b5 top).1 k;rw[bV,show 16*2 ^z/16=2 ^z by omega] at hw;have hw:fY z (fe z L base ((k*2 ^z:Nat):Int) (fu z L top (cl L top) k)).L base s=if k*2 ^z<=s/\s < k*2 ^z+2 ^z then kR (fu z L top (cl L top) k) (s - k*2 ^z) else fY z L base s:=hw
  rw[hw]
  by_cases c:s/2 ^z=k
  .rw[if_pos (AM.2 c),if_pos c,ahQ c];unfold fY;rw[rN,c]
  .rw[if_neg (fun e=>c (AM.1 e)),if_neg c]
 .by_cases cE:qD L top k=2
  .have e:i2 z L top base k=h7 z L base ((k*2 ^z:Nat):Int) ((2 ^z:Nat):Int):=(if_neg cI).trans (if_pos cE);rw[e] at U⊢;have hw:fY z (h7 z L base ((k*2 ^z:Nat):Int) ((2 ^z:Nat):Int)).L base s=if k*2 ^z<=s/\s < k*2 ^z+2 ^z then List.replicate 16 0 else fY z L base s:=Me h.cs U s
   rw[hw]
   by_cases c:s/2 ^z=k
   .rw[if_pos (AM.2 c),if_pos c];unfold fY;rw[rN,c,MA H aa (by rw[<-vf,cE];decide)];have aZ:d.im.t[k]? =some d.im.t[k]:=oj aa;have nM:d.im.t.getD k ck=d.im.t[k]:=by rw[aq3,aZ];rfl
    have aT:d.im.t[k]? =some tN:=by
     rcases ap.slot k _ aZ with e |e |⟨x,e,_⟩
     .rw[nM,e] at vf;rw[vf] at cE;exact absurd cE ay5
     .rw[aZ,e]
     .rw[nM,e] at vf;rw[vf] at cE;exact absurd cE (show¬(1:Int)=2 by decide)
    rw[Mc aT];unfold iO;rw[AH h.cs H,Dk];have:=Nat.mod_lt s (Nat.two_pow_pos z);omega
   .rw[if_neg (fun e=>c (AM.1 e)),if_neg c]
  .have e:i2 z L top base k=⟨0,L⟩:=(if_neg cI).trans (if_neg cE);rw[e];show fY z L base s=_
   split
   .rename_i c;have aZ:d.im.t[k]? =some d.im.t[k]:=oj aa;have nM:d.im.t.getD k ck=d.im.t[k]:=by rw[aq3,aZ];rfl
    have aN:(d.im.t.getD k ck).1=0:=by
     rcases ap.slot k _ aZ with e |e |⟨x,e,_⟩
     .rw[nM,e]
     .exact absurd (by rw[vf,nM,e]) cE
     .exact absurd (by rw[vf,nM,e]) cI
    subst O;exact(wO (by rw[c];exact Dw h.cs H h.ne aN)).symm
   .rfl
theorem ahS (h:cb z R L) (U:oo L top=0):rS z L top (fm L top).1 (tW L top):=fun s aw hn=>by
 obtain⟨ae,ao,_⟩:=G2 U;obtain⟨d,H,O,_⟩:=Ds h ae;have J:=G9 aw
 have bf:hv L top (s/2 ^z)=true:=by
  cases e:hv L top (s/2 ^z) with
  |true=>rfl
  |false=>exact absurd (ax3.2 ⟨List.mem_range.2 J,by rw[e];rfl⟩) hn
 have cC:b4 L top=d.im.t.length:=az9
 unfold hv at bf;rw[H] at bf;have bf:(decide (d.im.t.length<=s/2 ^z)||decide ((d.im.t.getD (s/2 ^z) ck).1=0))=true:=bf;rw[at0 ay4,Bool.false_or] at bf;rw[O] at ao⊢;exact wO (Dw h H ao (gd bf))
theorem ahT (h:lc z R L top base l) (ay:rS z L top base l) {k:Nat} (aa:k < b4 L top) (U:(i2 z L top base k).e=0):rS z (i2 z L top base k).L top base (l.erase k)/\ ∀s,s < b4 L top*2 ^z->fY z (i2 z L top base k).L top s=fY z L top s:=by
 obtain⟨d,H,O⟩:=h.dk;have lo:=Dv h.cs top base k;obtain⟨cj,cT,eg⟩:=ahP h.cs lo H O h.ne;have bl:=ahR h aa U
 have b6: ∀s,s < b4 L top*2 ^z->fY z (i2 z L top base k).L top s=fY z L top s:=fun s aw=>by
  by_cases aN:(d.im.t.getD (s/2 ^z) ck).1=0
  .obtain⟨g1,g2⟩:=(eg s aw).2 aN;rw[g1,bl]
   split
   .rfl
   .exact g2.symm
  .exact(eg s aw).1 aN
 refine⟨fun s aw hn=>?_,b6⟩;rw[(lo.aQ top).1] at aw;rw[b6 s aw,bl]
 split
 .rfl
 .rename_i c;exact ay s aw fun aA=>hn ((List.mem_erase_of_ne c).2 aA)
theorem ahU (h:lc z R L top base []) (ay:rS z L top base []):rS z (iQ L top 0 ((b4 L top*2 ^z:Nat):Int)).L top base []/\(∀s,s < b4 L top*2 ^z->fY z (iQ L top 0 ((b4 L top*2 ^z:Nat):Int)).L top s=fY z L top s)/\ ∀k,k < b4 L top->qD (iQ L top 0 ((b4 L top*2 ^z:Nat):Int)).L top k=0:=by
 obtain⟨d,H,O⟩:=h.dk;subst O;have ap:=(h.cs.gl d (cR H).1).1;have cC:b4 L top=d.im.t.length:=az9
 have dB:b4 L top*2 ^z=e7 d.im:=by rw[AG h.cs H,cC]
 have lo:=tV h.cs top 0 ((b4 L top*2 ^z:Nat):Int);have e8:=lo.cs h.cs;have sA:=L9 h.cs H h.ne;obtain⟨_,gP,mW⟩:=lo.off h.cs sA
 have cL:(iQ L top 0 ((b4 L top*2 ^z:Nat):Int)).L=dl L top (Ao d.im 0 (e7 d.im)) none:=by
  unfold iQ;rw[H];simp only;rw[dB,if_neg (fun bf=>bf (Ts ap (aq0 _)))];rfl
 have dq:dk (iQ L top 0 ((b4 L top*2 ^z:Nat):Int)).L top=some {d with im:=Ao d.im 0 (e7 d.im),cP:=none}:=by rw[cL];exact yn H _ _
 have aa: ∀k,k < b4 L top->((Ao d.im 0 (e7 d.im)).t.getD k ck).1=0:=fun k aa=>by
  rw[aq3,agW ap ay4];rfl
 have c5: ∀s,fY z (iQ L top 0 ((b4 L top*2 ^z:Nat):Int)).L d.back s=fY z L d.back s:=fun s=>wO (mW _)
 have b6: ∀s,s < b4 L top*2 ^z->fY z (iQ L top 0 ((b4 L top*2 ^z:Nat):Int)).L top s=fY z L d.back s:=fun s aw=>by
  rw[<-c5];exact wO (Dw e8 dq h.ne (aa _ (G9 aw)))
 refine⟨fun s aw _=>?_,fun s aw=>?_,fun k eD=>?_⟩
 .rw[(lo.aQ top).1] at aw;rw[b6 s aw,c5]
 .rw[b6 s aw];exact(ay s aw ay6).symm
 .unfold qD;rw[dq];exact aa k eD
theorem TX {n:Nat} {l:aC4} {a aX:Int} {k:Nat} (h:k∈l\/(k < n/\a < ((k*2 ^z+2 ^z:Nat):Int)/\((k*2 ^z:Nat):Int) - aX < a)):k∈nv z n l a aX:=by
 induction n with
 |zero=>
  rcases h with h |h
  .exact h
  .exact absurd h.1 (ax7 _)
 |succ n bq=>
  rw[G5]
  by_cases c:k=n
  .rcases h with h |⟨E,G⟩
   .have:=bq (.inl h)
    split
    .exact Dr.2 (.inl this)
    .exact this
   .subst c;rw[if_pos G];exact Dr.2 (.inr rfl)
  .have:=bq (h.imp id fun h=>⟨ay4,h.2⟩)
   split
   .exact Dr.2 (.inl this)
   .exact this
theorem ahV (h:lc z R L top base l) (ay:rS z L top base l) {a N:Nat} (lo:i0 L top L') (hw: ∀s,¬(a<=s/\s < a+N)->fY z L' top s=fY z L top s):rS z L' top base (qE z L' top l false (a:Int) (N:Int)):=fun s aw hn=>by
 obtain⟨d,H,O⟩:=h.dk;subst O;obtain⟨_,gP,mW⟩:=lo.off h.cs (L9 h.cs H h.ne);rw[(lo.aQ top).1] at aw;have c5:fY z L' d.back s=fY z L d.back s:=wO (mW _);unfold qE at hn
 by_cases gT:(N:Int) < 1
 .rw[if_pos (.inr gT)] at hn;rw[c5,hw s ay4];exact ay s aw hn
 .rw[if_neg (by rintro(e |e);cases e;exact gT e)] at hn;have E:s/2 ^z∉l:=fun e=>hn (TX (.inl e))
  rw[c5,hw s fun⟨r1,r2⟩=>hn (TX (.inr ⟨by rw[(lo.aQ top).1];exact G9 aw,?_,?_⟩))]
  .exact ay s aw E
  .have:=(AM (z:=z)).2 (rfl:s/2 ^z=s/2 ^z);omega
  .have:=(AM (z:=z)).2 (rfl:s/2 ^z=s/2 ^z);omega
theorem TY (aw:b4 L' top=b4 L top) (aa:(dk L' top).isSome=(dk L top).isSome) (h: ∀s,s < b4 L top*2 ^z->fY z L' top s=fY z L top s):kS z L' top=kS z L top:=Mh aw aa h
theorem ahW (z:Nat) (L:List aL) (top base:aC3):ff z L top base [] false=⟨true,0,(iQ L top 0 ((b4 L top*2 ^z:Nat):Int)).L,[],true⟩:=rfl
theorem ahX (h:cb z R L) {k:Nat} (U:(i2 z L top base k).e≠0):(i2 z L top base k).L=L:=by
 unfold i2 at U⊢
 split at U
 .rename_i c;rw[if_pos c];exact GY h U
 .rename_i c;rw[if_neg c]
  split at U
  .rename_i c;rw[if_pos c];exact Mg h U
  .rename_i c;rw[if_neg c]
theorem TZ (h:lc z R L top base l) (ay:rS z L top base l):rS z (ff z L top base l false).L top base (ff z L top base l false).l/\kS z (ff z L top base l false).L top=kS z L top:=by
 by_cases a7:l=[]
 .subst a7;rw[ahW];obtain⟨g1,g2,_⟩:=ahU h ay;have lo:=tV h.cs top 0 ((b4 L top*2 ^z:Nat):Int);exact⟨g1,TY (lo.aQ top).1 (lo.aQ top).2 g2⟩
 .unfold ff;rw[if_neg ay5,if_neg a7]
  by_cases U:(i2 z L top base (eN l)).e=0
  .rw[if_pos U];obtain⟨g1,g2⟩:=ahT h ay (h.lt _ (G1 a7).2.1) U;have lo:=Dv h.cs top base (eN l);exact⟨g1,TY (lo.aQ top).1 (lo.aQ top).2 g2⟩
  .rw[if_neg U,ahX h.cs U];exact⟨ay,rfl⟩
end
section
variable {z R:Nat} {L:List aL} {top base:aC3} {l:aC4}
end
end
section
section
variable {P:Program} {ids:aC4} {K:aY} {B:az}
theorem AN {o:Oper} {op:BinOp} {T fG:TypeId} {x y:Operand} {n m r:Int} (ah:o.op= .binOp op T x y fG) (hx:a2 K x= .c (.one (.d (.int .i64 n)))) (aD:a2 K y= .c (.one (.d (.int .i64 m))))
  (h:(op= .add/\r=IntKind.i64.wrap (n+m))\/(op= .sub/\r=IntKind.i64.wrap (n - m))\/(op= .quo/\m≠0/\r=IntKind.i64.wrap (n.tdiv m))) (N:Nat):bA P N ids o K B (.c (.one (.d (.int .i64 r)))) ⟨[],[],[]⟩:=by
 have m1:x∈o.op.operands:=az1
 have m2:y∈o.op.operands:=az1
 refine bA.val fun K' B' g1 g2 C ρ F fi w aj ar=>?_
 have ae:=ar.int ((g1 x m1).trans hx);have ao:=ar.int ((g1 y m2).trans aD);refine⟨.int .i64 r,?_,rfl⟩;simp only[execOp,ah,ae,ao];rcases h with⟨rfl,rfl⟩ |⟨rfl,rfl⟩ |⟨rfl,aA,rfl⟩
 .simp[eqGuard,go_sem,Op.intArith]
 .simp[eqGuard,go_sem,Op.intArith]
 .simp[eqGuard,go_sem,Op.intDiv,aA]
end
abbrev MB (s g:Int):List bB:=[.d (.int .i64 s),.d (.int .i64 g),.mp 1002]
abbrev iz (s g:Int) (es:List (Z al×Z al)):az:=[(1001,.cells (MB s g)),(1002,.map al al es)]
theorem T0 (s:Int):Fn Tryz.prog 113 [ab s] [] [] (fI (decide (0<=s)&&decide (s<=4096))) []:=by
 refine aU [] Tryz.func113 ?_;refine⟨fun E=>?_,fun E=>?_⟩
 .have E:decide (0<=s)=true:=E;exact eG br rfl (show decide (s<=4096)=(decide (0<=s)&&decide (s<=4096)) by rw[E];rfl)
 .have E:decide (0<=s)=false:=E;exact eG br rfl (show false=(decide (0<=s)&&decide (s<=4096)) by rw[E];rfl)
def ot (s g:Int):Bool:=((decide (0<=s)&&decide (s<=4096))&&(!decide (g < 1)&& !decide (64 < g)))&&decide (((g.toNat &&& (g - 1).toNat:Nat):Int)=0)
theorem G' {s g:Int} (h:ot s g=true):(0<=s/\s<=4096)/\1<=g/\g<=64:=by
 unfold ot at h;simp only[vj,Bool.not_eq_true',as5,decide_eq_false_iff_not] at h;obtain⟨⟨⟨E,G⟩,af,aW⟩,_⟩:=h;omega
theorem MC (s g:Int) (h:ot s g=true):Fn Tryz.prog 69 [ab s,ab g] [] [2001,2002] (.ci [.one (.ptr 2001 0),dz 0]) [(2001,.cells [.d (.int .i64 s),.d (.int .i64 g),.mp 2002]),(2002,.map al al [])]:=by
 obtain⟨g1,g2,cX⟩:=G' h;have ax:=T0 s;rw[ar0 g1.1,ar0 g1.2] at ax;unfold ot at h;simp only[vj] at h;have bG:=h.2;have m1:c1 (g - 1):=az2
 refine aU [] Tryz.func69 ?_;refine av ax <| dt ⟨fun h=>absurd (gd h) ay4,fun _=>⟨fun h=>absurd (gd h) ay4,fun _=>⟨m1,_,_,fun N=>GE rfl rfl rfl ay4 ay4 ay4 ay4 N,rfl,?_⟩⟩⟩;refine⟨fun h=>?_,fun _=>?_⟩
 .exfalso;have h:(!decide (((g.toNat &&& (g - 1).toNat:Nat):Int)=0))=true:=h;rw[bG] at h
  cases h
 exact⟨rfl,rfl,_,_,_,ac.trans (ac.aV 28 2001 rfl) (ac.aV 26 2002 rfl),rfl,aC,aC,rfl⟩
theorem ahY (s g:Int) (h:ot s g=false):Fn Tryz.prog 69 [ab s,ab g] [] [] (.ci [mP,dz 1]) []:=by
 have ax:=T0 s;unfold ot at h;generalize(decide (0<=s)&&decide (s<=4096))=b at*;refine aU [] Tryz.func69 ?_;refine av ax ⟨fun _=>?_,fun E=>?_⟩
 .exact bg
 have E:b=true:=by
  have E:(!b)=false:=E;simpa using E
 refine⟨fun _=>?_,fun G=>?_⟩
 .exact bg
 refine⟨fun _=>?_,fun af=>?_⟩
 .exact bg
 have G:decide (g < 1)=false:=G;have af:decide (64 < g)=false:=af;rw[E,G,af] at h;have cF:=mu G;have dF:=mu af;have m1:c1 (g - 1):=az2
 refine⟨m1,_,_,fun N=>GE rfl rfl rfl ay4 ay4 ay4 ay4 N,rfl,?_⟩;refine⟨fun _=>?_,fun aW=>?_⟩
 .exact bg
 .exfalso;have aW:(!decide (((g.toNat &&& (g - 1).toNat:Nat):Int)=0))=false:=aW;have h:((true&&(!false&& !false))&&decide (((g.toNat &&& (g - 1).toNat:Nat):Int)=0))=false:=h;generalize decide (((g.toNat &&& (g - 1).toNat:Nat):Int)=0)=c at*
  cases c
  .cases aW
  .cases h
theorem MD (s g:Int) (es:List (Z al×Z al)):Fn Tryz.prog 77 [aq 1001] (iz s g es) [] (ab s) (iz s g es):=by
 refine aU [] Tryz.func77 ?_;exact bg
def Dx (aB:Int):Bool:=decide (0 < aB)
def mZ (g:Int) (es:List (Z al×Z al)) (k:Nat):Bool:=Dx ((bY (aI:=al) (aK:=al) es ((k:Int)/g)).getD (cO al))
theorem T1 (s g:Int) (es:List (Z al×Z al)) (k:Nat) (aZ:1<=g) (aa:(k:Int) < s) (aw:s<=4096):Fn Tryz.prog 120 [aq 1001,ab (k:Int)] (iz s g es) [] (fI (mZ g es k)) (iz s g es):=by
 have aT:(0:Int)<=(k:Int)/g:=ay1 ay4 ay4;have Dy:(k:Int)/g<=(k:Int):=Int.ediv_le_self _ ay4;have m1:c1 ((k:Int)/g):=az2
 refine aU [] Tryz.func120 ?_;exact⟨fun _=>⟨fun _=>⟨⟨ay4,ay4⟩,m1,rfl,bg⟩,fun h=>absurd (mu h) ay4⟩,fun h=>absurd (mu h) ay4⟩
def sK (es:List (Z al×Z al)) (f:Int):Nat->List (Z al×Z al)
 |0=>es
 |n+1=>dx (aI:=al) (aK:=al) (sK es f n) (f+(n:Int)) (1:Int)
abbrev rT (s g:Int) (es:List (Z al×Z al)):az:=iz s g es++[(3001,.cells [.ptr 1001 0])]
theorem ahZ (s g:Int) (es:List (Z al×Z al)) (k:Int):Fn Tryz.prog 157 [ab k,aq 3001] (rT s g es) [] gO (rT s g (dx (aI:=al) (aK:=al) es k (1:Int))):=by
 refine aU [] Tryz.func157 ?_;exact⟨trivial,bg⟩
abbrev ah0 (ea k:Int):aY:=[(4,ab ea),(5,.c (.one (.cY 157 [.p 3001 0]))),(13,ab k)]
theorem ah1 (s g:Int) (es:List (Z al×Z al)) (fr bL f' ea:Int) (E:0<=bL) (G:0<=fr) (af:bL<=s) (aW:fr<=s - bL) (aw:s<=4096) (bG:0<=f') (fF:ea<=1000000):Fn Tryz.prog 156 [aq 1001,ab fr,ab bL,ab f',ab ea,.c (.one (.cY 157 [.p 3001 0]))] (rT s g es) [] (ab 0) (rT s g (sK es f' (ea - f').toNat)):=by
 have m1:c1 (s - bL):=az2
 refine aU [] Tryz.func156 ?_;refine⟨fun h=>absurd (gd h) ay4,fun _=>⟨fun h=>absurd (gd h) ay4,fun _=>⟨fun h=>absurd (gd h) ay4,fun _=>⟨m1,fun h=>absurd (gd h) ay4,fun _=>d2 [6] (X:=Nat) (fun j=>ah0 ea (f'+(j:Int))) (fun j=>rT s g (sK es f' j)) (fun j=>j<=(ea - f').toNat) (fun j=>(ea - f').toNat - j) 0 (aq8 _) ?_ ?_⟩⟩⟩⟩
 .exact ac.sub ⟨rfl,rfl,(show f'=f'+((0:Nat):Int) by omega),trivial⟩ aC
 intro j V;have V:j<=(ea - f').toNat:=V;refine⟨fun J=>?_,fun J=>?_⟩
 .have J:decide (f'+(j:Int) < ea)=true:=J;have J:=gd J;exact bu [] (br) <| av (ahZ s g (sK es f' j) (f'+(j:Int))) ⟨ay4,j+1,ay4,ay4,ac.sub ⟨rfl,rfl,(show f'+(j:Int)+1=f'+((j+1:Nat):Int) by omega),trivial⟩ aC⟩
 .have J:decide (f'+(j:Int) < ea)=false:=J;have J:=mu J;have ft:j=(ea - f').toNat:=az2
  subst ft;exact bg
theorem ah2 (s g:Int) (es:List (Z al×Z al)) (fr bL f' ea:Int) (h: ¬(0<=bL/\0<=fr/\bL<=s/\fr<=s - bL)) (aw:0<=s/\s<=4096):Fn Tryz.prog 156 [aq 1001,ab fr,ab bL,ab f',ab ea,.c (.one (.cY 157 [.p 3001 0]))] (rT s g es) [] (ab 1) (rT s g es):=by
 refine aU [] Tryz.func156 ?_;refine⟨fun _=>?_,fun cA=>?_⟩
 .exact bg
 refine⟨fun _=>?_,fun cF=>?_⟩
 .exact bg
 refine⟨fun _=>?_,fun dF=>?_⟩
 .exact bg
 have cA: ¬bL < 0:=mu cA;have cF: ¬fr < 0:=mu cF;have dF: ¬s < bL:=mu dF;have m1:c1 (s - bL):=az2
 refine⟨m1,fun _=>?_,fun fj=>?_⟩
 .exact bg
 .exfalso;have fj: ¬s - bL < fr:=mu fj;exact h ay4
def yu (s fr bL:Int):Prop:=0<=bL/\0<=fr/\bL<=s/\fr<=s - bL
instance (s fr bL:Int):Decidable (yu s fr bL):=by unfold yu;infer_instance
def nw (s g:Int) (es:List (Z al×Z al)) (fr bL:Int):List (Z al×Z al):=if yu s fr bL then sK es (fr/g) ((if bL=0 then 0 else(fr+bL+g - 1)/g) - fr/g).toNat else es
abbrev Ha (fr bL ea:Int):aY:=[(1,ab fr),(2,ab bL),(3,aq 3),(7,ab ea)]
abbrev Dz (s g:Int) (es:List (Z al×Z al)):az:=iz s g es++[(3,.cells [.ptr 1001 0])]
theorem ME (s g:Int) (es:List (Z al×Z al)) (fr bL:Int) (aw:0<=s/\s<=4096) (aZ:1<=g/\g<=64):Fn Tryz.prog 103 [aq 1001,ab fr,ab bL] (iz s g es) [] (ab (if yu s fr bL then 0 else 1)) (iz s g (nw s g es fr bL)):=by
 by_cases ay:yu s fr bL
 .have bF:nw s g es fr bL=sK es (fr/g) ((if bL=0 then 0 else(fr+bL+g - 1)/g) - fr/g).toNat:=if_pos ay;rw[bF,if_pos ay];obtain⟨k1,v2,v3,v4⟩:=ay;have dQ:(0:Int)<=fr/g:=ay1 ay4 ay4;have cW:fr/g<=fr:=Int.ediv_le_self _ ay4;have dJ:(0:Int)<=(fr+bL+g - 1)/g:=ay1 ay4 ay4;have dM:(fr+bL+g - 1)/g<=fr+bL+g - 1:=Int.ediv_le_self _ ay4;have cU:c1 (fr+bL):=az2
  have dU:c1 (fr+bL+g):=az2
  have ls:c1 (fr+bL+g - 1):=az2
  have sF:c1 ((fr+bL+g - 1)/g):=az2
  have n5:c1 (fr/g):=az2
  have n6:(0:Int)<=fr+bL+g - 1/\0 < g:=az2
  have n7:(0:Int)<=fr/\0 < g:=az2
  have U:=fun ea (h:ea<=1000000)=>ah1 s g es fr bL (fr/g) ea k1 v2 v3 v4 aw.2 dQ h
  have jk:=U _ (show(fr+bL+g - 1)/g<=1000000 by omega);have gE:=U 0 ay5;generalize xY:(fr+bL+g - 1)/g=ea at*;generalize Dy:fr/g=f' at*;refine aU [4] Tryz.func103 ?_;refine⟨rfl,?_⟩;refine⟨cU,dU,ls,n6,by rw[xY];exact sF,rfl,fun ak=>?_,fun ak=>?_⟩
  .have ak:bL=0:=gd ak;rw[if_pos ak];refine bu [] (cM (Ha fr bL 0) (Dz s g es)) ?_;exact⟨n7,by rw[Dy];exact n5,av (Fn.arg (args:=[aq 1001,ab fr,ab bL,ab (fr/g),ab 0,.c (.one (.cY 157 [.p 3001 0]))]) gE ⟨rfl,rfl,rfl,Dy,rfl,rfl,trivial⟩ |> Fn.aV [(3001,3)]) ⟨rfl,bg⟩⟩
  .have ak: ¬bL=0:=mu ak;rw[if_neg ak];refine bu [] (ac.sub (K':=Ha fr bL ea) (B':=Dz s g es) ⟨rfl,rfl,rfl,xY,trivial⟩ aC) ?_;exact⟨n7,by rw[Dy];exact n5,av (Fn.arg (args:=[aq 1001,ab fr,ab bL,ab (fr/g),ab ea,.c (.one (.cY 157 [.p 3001 0]))]) jk ⟨rfl,rfl,rfl,Dy,rfl,rfl,trivial⟩ |> Fn.aV [(3001,3)]) ⟨rfl,bg⟩⟩
 .have bF:nw s g es fr bL=es:=if_neg ay;rw[bF,if_neg ay];have U:=fun f' ea=>ah2 s g es fr bL f' ea ay aw
  refine aU [1,4] Tryz.func103 ?_;refine⟨rfl,bw.mR (2000000+10) ay5 <| bw.mR (2000000+15) ay5 <| bw.mR (2000000+16) ay5 <| bw.mR (2000000+21) ay5 <| bu [4] (br) ⟨_,_,fun N=>AN rfl rfl rfl (.inl ⟨rfl,rfl⟩) N,rfl,?_⟩⟩;refine⟨_,_,fun N=>AN rfl rfl rfl (.inl ⟨rfl,rfl⟩) N,rfl,?_⟩;refine⟨_,_,fun N=>AN rfl rfl rfl (.inr (.inl ⟨rfl,rfl⟩)) N,rfl,?_⟩;refine⟨_,_,fun N=>AN rfl rfl rfl (.inr (.inr ⟨rfl,ay4,rfl⟩)) N,rfl,?_⟩;refine⟨rfl,?_⟩;generalize IntKind.i64.wrap _=ea;refine⟨fun _=>?_,fun _=>?_⟩
  .show bw _ _ _ _ _ _ _;refine bw.le (cM (Ha fr bL 0) (Dz s g es)) <| bw.mR (2000000+32) ay5 <| bu [] (br) ⟨_,_,fun N=>AN rfl rfl rfl (.inr (.inr ⟨rfl,ay4,rfl⟩)) N,rfl,?_⟩;exact av (Fn.aV [(3001,3)] (U _ _)) ⟨rfl,bg⟩
  .show bw _ _ _ _ _ _ _;refine bw.le (cM (Ha fr bL ea) (Dz s g es)) <| bw.mR (2000000+32) ay5 <| bu [] (br) ⟨_,_,fun N=>AN rfl rfl rfl (.inr (.inr ⟨rfl,ay4,rfl⟩)) N,rfl,?_⟩;exact av (Fn.aV [(3001,3)] (U _ _)) ⟨rfl,bg⟩
end
section
open Go.RowKit Go.Proofs Go.Maps Go.Shelf Go.MapKept Tryz
open Go.WideElems (Fit rd rg pl rd_val rd_key rg_of)
abbrev jP:bz:=.b' .u8
def yv:Int->Int->Bool:=fun x y=>decide (x<=y)
def m0 (l:List Int):List Int:=l.mergeSort yv
theorem DA (l:List Int):(m0 l).Perm l:=List.mergeSort_perm l yv
theorem T2 (m:Nat):AnyZI.SortsIn Tryz.prog RK Fence.wide m:=
 ⟨fun bk off cap hc W cZ jh cC=>callsIn_wide.2 (AnyM.slices_Sort_int RM bk off cap hc W cZ jh cC),
  fun p cap W=>callsIn_wide.2 (AnyM.slices_Sort_int_none RM p cap W)⟩
theorem ah3 (es:List (Z al×Z jP)):Fn Tryz.prog 168 [.c (.one (.mp 1001))] [(1001,.map al jP es)] [2001] (.c (.one (.cY 208 [.p 2001 0]))) [(2001,.cells [.mp 1001]),(1001,.map al jP es)]:=by
 refine aU [] Tryz.func168 ?_;exact⟨rfl,_,_,_,ac.aV 1 2001 rfl,rfl,rfl,aC,rfl⟩
theorem ah4 (es:List (Z al×Z al)) (hn:(gZ es).Nodup) (ak: ∀s∈gZ es,(Lit.int .i64 s).wf=true) (aw:es.length<=4294967296):
  Fn Tryz.prog 154 [.c (.one (.cY 201 [.p 2001 0]))] [(2001,.cells [.mp 1001]),(1001,.map al al es)] [] (bQ al (m0 (gZ es))) [(2001,.cells [.mp 1001]),(1001,.map al al es)]:=by
 refine⟨ay7,fun ρ F I w bU a8 cZ bh eE bV dy=>?_⟩
 match bU,bV with
 | [v],_=>
  obtain⟨aE,ay,fZ,r,hD,kO,ax⟩:=dy 0 _ v rfl rfl;have ax:r=[]:=ax;have kO:fZ= .pointer (some ⟨(ρ 2001).bk,0,none⟩):=kO;subst ax kO hD ay;obtain⟨_,aE,T,gX,hD⟩:=cZ 2001 _ rfl;obtain⟨x,r,hD,hx,ax⟩:=hD;have ax:r=[]:=ax;have hx:x= .map (some (ρ 1001).bk):=hx;subst ax hx hD;obtain⟨_,bR,bS,hm,aA,c5⟩:=cZ 1001 _ rfl;have GF:(4294967296:Nat)<=maxLen:=by decide
  obtain⟨ju,dw,cC,o9⟩:=Ml (P:=Tryz.prog) (k:=3) ay7 hm aA c5 hn ak ay4;have bt:(ρ 2001).bk < w.heap.size:=l3 gX
  have u4:SeqGives Fence.wide 2 Tryz.prog 201 #[.pointer (some ⟨(ρ 2001).bk,0,none⟩)] encZ (fun hc=>hc.Perm (intKeys ju)) (Maps.size ju) w:=
   AnyZI.keys_gives (ρ:=KI) {RI with} Fence.wide _ trivial rfl ay4 (ρ 2001).bk (ρ 1001).bk es.length ju w bt (oS gX rfl) dw
  have J:=AnyZI.sorted_in RL Fence.wide 5 trivial trivial trivial trivial rfl ay4 (T2 _) (enters_of Tryz.func200 ay7 rfl) 201 #[.pointer (some ⟨(ρ 2001).bk,0,none⟩)] trivial (enters_of Tryz.func201 ay7 rfl) _ _ aB0 aB0 _ u4;refine(callsIn_wide.1 J).mono ?_;rintro e w' ⟨v,hc,rfl,ar,fK,yh,gF⟩;have a1:cm I w (fun b=>b < w'.heap.size/\(I b\/w.heap.size<=b)) w':=fun b fN=>⟨⟨ar6 (a8 b fN) gF.size,.inl fN⟩,gF.block b (a8 b fN)⟩
  refine⟨v,ρ,F,rfl,cS.pq gF,fun _ _=>rfl,_,a1,fun b h=>⟨h.1,h.2.imp id .inr⟩,fun c ch J=>Holds.cp a1 (fun b O=>gF.block b (bh c ch J b O).1) gF.size ch (fun _ _=>rfl) (cZ c ch J),fun c ch J b O=>?_,fun c b9 ch ch' b E G=>eE c b9 ch ch' b E G,?_⟩
  .have:=bh c ch J b O;exact⟨ar6 this.1 gF.size,fun h=>(by rcases h.2 with h |h;exact this.2 h;omega),.inl ⟨c,ch,J,O⟩⟩
  .have aa:hc.mergeSort (fun x y=>decide (x<=y))=m0 (gZ es):=Go.mergeSort_of_perm_i (ar.trans o9);rw[aa] at fK;have hB:=fC.ps fK;have wH:hc.length=(m0 (gZ es)).length:=by rw[<-aa,List.length_mergeSort]
   rw[wH] at hB;exact(hB.za fun i _ aF=>(fK.lt i aF).1).Mn fun b E G=>⟨E,.inr G⟩
theorem ah5 (es:List (Z al×Z jP)) (hn:(gZ es).Nodup) (ak: ∀s∈gZ es,(Lit.int .i64 s).wf=true) (aw:es.length<=4294967296):
  Fn Tryz.prog 154 [.c (.one (.cY 208 [.p 2001 0]))] [(2001,.cells [.mp 1001]),(1001,.map al jP es)] [] (bQ al (m0 (gZ es))) [(2001,.cells [.mp 1001]),(1001,.map al jP es)]:=by
 refine⟨ay7,fun ρ F I w bU a8 cZ bh eE bV dy=>?_⟩
 match bU,bV with
 | [v],_=>
  obtain⟨aE,ay,fZ,r,hD,kO,ax⟩:=dy 0 _ v rfl rfl;have ax:r=[]:=ax;have kO:fZ= .pointer (some ⟨(ρ 2001).bk,0,none⟩):=kO;subst ax kO hD ay;obtain⟨_,aE,T,gX,hD⟩:=cZ 2001 _ rfl;obtain⟨x,r,hD,hx,ax⟩:=hD;have ax:r=[]:=ax;have hx:x= .map (some (ρ 1001).bk):=hx;subst ax hx hD;obtain⟨_,bR,bS,hm,aA,c5⟩:=cZ 1001 _ rfl;have GF:(4294967296:Nat)<=maxLen:=by decide
  obtain⟨ju,dw,cC,o9⟩:=Ml (P:=Tryz.prog) (k:=3) ay7 hm aA c5 hn ak ay4;have bt:(ρ 2001).bk < w.heap.size:=l3 gX
  have u4:SeqGives Fence.wide 2 Tryz.prog 208 #[.pointer (some ⟨(ρ 2001).bk,0,none⟩)] encZ (fun hc=>hc.Perm (intKeys ju)) (Maps.size ju) w:=
   AnyZI.keys_gives (ρ:=RJ) {adz with} Fence.wide _ trivial rfl ay4 (ρ 2001).bk (ρ 1001).bk es.length ju w bt (oS gX rfl) dw
  have J:=AnyZI.sorted_in RL Fence.wide 5 trivial trivial trivial trivial rfl ay4 (T2 _) (enters_of Tryz.func200 ay7 rfl) 208 #[.pointer (some ⟨(ρ 2001).bk,0,none⟩)] trivial (enters_of Tryz.func208 ay7 rfl) _ _ aB0 aB0 _ u4;refine(callsIn_wide.1 J).mono ?_;rintro e w' ⟨v,hc,rfl,ar,fK,yh,gF⟩;have a1:cm I w (fun b=>b < w'.heap.size/\(I b\/w.heap.size<=b)) w':=fun b fN=>⟨⟨ar6 (a8 b fN) gF.size,.inl fN⟩,gF.block b (a8 b fN)⟩
  refine⟨v,ρ,F,rfl,cS.pq gF,fun _ _=>rfl,_,a1,fun b h=>⟨h.1,h.2.imp id .inr⟩,fun c ch J=>Holds.cp a1 (fun b O=>gF.block b (bh c ch J b O).1) gF.size ch (fun _ _=>rfl) (cZ c ch J),fun c ch J b O=>?_,fun c b9 ch ch' b E G=>eE c b9 ch ch' b E G,?_⟩
  .have:=bh c ch J b O;exact⟨ar6 this.1 gF.size,fun h=>(by rcases h.2 with h |h;exact this.2 h;omega),.inl ⟨c,ch,J,O⟩⟩
  .have aa:hc.mergeSort (fun x y=>decide (x<=y))=m0 (gZ es):=Go.mergeSort_of_perm_i (ar.trans o9);rw[aa] at fK;have hB:=fC.ps fK;have wH:hc.length=(m0 (gZ es)).length:=by rw[<-aa,List.length_mergeSort]
   rw[wH] at hB;exact(hB.za fun i _ aF=>(fK.lt i aF).1).Mn fun b E G=>⟨E,.inr G⟩
end
end Go.Proofs.YtkfbeijmgggkmaaGreat
