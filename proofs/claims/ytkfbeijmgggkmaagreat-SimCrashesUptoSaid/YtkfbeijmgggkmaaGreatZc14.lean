/-
A part of the proof of this claim: lemmas, with no condition beyond what each says.
-/
import Derived.Test.YtkfbeijmgggkmaaGreatZc13
set_option linter.unusedVariables false
set_option linter.unusedSimpArgs false
set_option maxRecDepth 10000
set_option maxHeartbeats 4000000
namespace Go.Proofs.YtkfbeijmgggkmaaGreat
open Go.RowKit Go.Proofs Tryz
section
open Go.RowKit Go.Proofs Go.Maps Go.Shelf Go.MapKept Tryz
open Go.WideElems (Fit rd rg pl rd_val rd_key rg_of)
def ahm {aJ:bA} (p:aa ai×aa aJ):Int:=p.1
def g5 {aJ:bA} (es:List (aa ai×aa aJ)):List Int:=es.map ahm
theorem TN {I:Nat->Prop} {w:World} {aJ:bA}: ∀{l:List (aa ai×aa aJ)} {es:List MapEntry},iw I w ai aJ l es->es.map (·.key)=(g5 l).map encZ
 | [],_,h=>by rw[show _=[] from h];rfl
 |p::l,_,⟨e,r,h,E,_,al⟩=>by
  rw[h,ar8,TN al,E];rfl
theorem ahn {P:Program} {k:TypeId} (Z:P.underlying k=some (.int .i64)) (s:Int) (h:(Lit.int .i64 s).wf=true):keyOf P k (encZ s)=some (.int .i64 s):=by
 simp[keyOf,Z,encZ,mapKey,h]
theorem TO: ∀{l m:List Int},l.map encZ=m.map encZ->l=m
 | [],[],_=>rfl
 | [],_::_,h=>by simp at h
 |_::_,[],h=>by simp at h
 |x::l,y::m,h=>by
  simp only[ar8,List.cons.injEq] at h;rw[encZ_inj h.1,TO h.2]
theorem Mo {P:Program} {k:TypeId} (Z:P.underlying k=some (.int .i64)) {I:Nat->Prop} {w:World} {aJ:bA} {es:List (aa ai×aa aJ)} {bU:List MapEntry} {bV b:Nat} (O:w.heap[b]? =some (.map (List.toArray bU) bV))
  (aw:iw I w ai aJ es bU) (dy:mg bU bV) (hn:(g5 es).Nodup) (ap: ∀s∈g5 es,(Lit.int .i64 s).wf=true) (ax:es.length<=maxLen):
  ∃ju,w.ownsMap P k p3 b es.length ju/\Maps.size ju=es.length/\(intKeys ju).Perm (g5 es):=by
 have bZ:=BJ aw;have ym:=TN aw
 have Dg: ∀x∈bU,∃s:Int,x.key=encZ s/\rg P k p3 x=(.int .i64 s,.nil)/\ ∃y,rd P k p3 x=some y:=by
  intro x hx;have:x.key∈(g5 es).map encZ:=by rw[<-ym];exact as0 hx
  obtain⟨s,ae,U⟩:=as5.1 this;have LT:keyOf P k x.key=some (.int .i64 s):=U▸ahn Z _ (ap s ae);have kH:rd P k p3 x=some (.int .i64 s,.nil):=by simp[rd,LT]
  exact⟨s,U.symm,rg_of kH,_,kH⟩
 have pi:=Go.WideShapes.sorted_perm (bU.map (rg P k p3))
 have hR:(bU.map (rg P k p3)).map (fun p=>Go.intOf p.1)=g5 es:=by
  refine TO ?_;rw[<-ym,at8,at8];refine as7 fun x hx=>?_
  obtain⟨s,af,ao,_⟩:=Dg x hx;simp[ao,af,Go.intOf]
 refine⟨.map ((bU.map (rg P k p3)).foldr DataW.insert []),⟨List.toArray bU,bV,O,⟨by simp[bZ];exact ax,(stamped_iff _ _).2 ⟨dy.2,dy.1.imp fun h=>by omega,?_⟩,fun x hx=>(Dg x hx).choose_spec.2.2⟩,by simp[bZ],rfl⟩,?_,?_⟩
 .have E:(bU.map (·.key)).Pairwise (· ≠ ·):=by
   rw[ym];exact List.pairwise_map.2 (hn.imp fun a6 e=>a6 (encZ_inj e))
  exact List.pairwise_map.1 E
 .show List.length _=_;rw[pi.length_eq,ar7,bZ]
 .show(List.map (fun p=>Go.intOf (Prod.fst p)) _).Perm _;rw[<-hR];exact pi.map _
theorem Mp (es:List (aa ai×aa ai)):Fn Tryz.prog 155 [.c (.one (.mp 1001))] [(1001,.map ai ai es)] [2001] (.c (.one (.cY 201 [.p 2001 0]))) [(2001,.cells [.mp 1001]),(1001,.map ai ai es)]:=by
 refine aT [] Tryz.func155 ?_;exact⟨rfl,_,_,_,ab.aV 1 2001 rfl,rfl,rfl,az,rfl⟩
theorem fF.Mq {I D:Nat->Prop} {w:World} {v:Value} {l:List Int} (h:fF D w 1 v l.length (l.map encZ)) (cp: ∀b,b < w.heap.size->D b->I b):cq I w (.b4 ai) l (fun _=>some v):=by
 obtain⟨_,A,c,av,E,G,al⟩:=h;refine⟨A,c,congrArg some av,E,G,fun ae=>?_⟩;obtain⟨b,o,d5,O,bx,hx⟩:=al ae;refine⟨b,o,d5,cp b bx O,fun i x aG=>?_⟩;have:=hx i (encZ x) (by rw[as6,show l[i]? =some x from aG];rfl);simpa[cq,aS,encZ] using this
theorem TP (es:List (aa ai×aa ai)) (hn:(g5 es).Nodup) (ap: ∀s∈g5 es,(Lit.int .i64 s).wf=true) (ax:es.length<=4294967296):
  cA Tryz.prog 199 [.c (.one (.cY 201 [.p 2001 0]))] [(2001,.cells [.mp 1001]),(1001,.map ai ai es)] [] (X:={hd:List Int//hd.Perm (g5 es)}) (fun g=>bv ai g.1) (fun _=>[(2001,.cells [.mp 1001]),(1001,.map ai ai es)]):=by
 refine⟨aw3,fun ρ F I w bW a2 c0 bd eG bZ dx=>?_⟩
 match bW,bZ with
 | [v],_=>
  obtain⟨aE,aA,e',r,hD,mv,aC⟩:=dx 0 _ v rfl rfl;have aC:r=[]:=aC;have mv:e'= .pointer (some ⟨(ρ 2001).bh,0,none⟩):=mv;subst aC mv hD aA;obtain⟨_,aE,T,gb,hD⟩:=c0 2001 _ rfl;obtain⟨x,r,hD,hx,aC⟩:=hD;have aC:r=[]:=aC;have hx:x= .map (some (ρ 1001).bh):=hx;subst aC hx hD;obtain⟨_,bU,bV,gU,aw,dy⟩:=c0 1001 _ rfl;have GT:(4294967296:Nat)<=maxLen:=by decide
  obtain⟨ju,dC,cu,pi⟩:=Mo (P:=Tryz.prog) (k:=3) aw3 gU aw dy hn ap aw0;have bx:(ρ 2001).bh < w.heap.size:=me gb
  have vd:SeqGives Fence.wide 2 Tryz.prog 201 #[.pointer (some ⟨(ρ 2001).bh,0,none⟩)] encZ (fun hd=>hd.Perm (intKeys ju)) (Maps.size ju) w:=
   AnyZI.keys_gives (ρ:=K2) {RP with} Fence.wide _ trivial rfl aw0 (ρ 2001).bh (ρ 1001).bh es.length ju w bx (oZ gb rfl) dC
  have J:=AnyZI.collect_in adD Fence.wide 4 trivial trivial rfl aw0 201 #[.pointer (some ⟨(ρ 2001).bh,0,none⟩)] trivial (enters_of Tryz.func201 aw3 rfl) _ _ ay6 ay6 _ vd;refine(callsIn_wide.1 J).mono ?_;rintro e w' ⟨v,hd,rfl,au,ga,yn,gN⟩;have aZ:cj I w (fun b=>b < w'.heap.size/\(I b\/w.heap.size<=b)) w':=fun b fW=>⟨⟨Nat.lt_of_lt_of_le (a2 b fW) gN.size,.inl fW⟩,gN.block b (a2 b fW)⟩
  refine⟨⟨hd,au.trans pi⟩,v,ρ,F,rfl,cP.oR gN,fun _ _=>rfl,_,aZ,fun b h=>⟨h.1,h.2.imp id .inr⟩,fun c ch J=>Holds.ck aZ (fun b O=>gN.block b (bd c ch J b O).1) gN.size ch (fun _ _=>rfl) (c0 c ch J),fun c ch J b O=>?_,fun c b7 ch ch' b E G=>eG c b7 ch ch' b E G,?_⟩
  .have:=bd c ch J b O;exact⟨Nat.lt_of_lt_of_le this.1 gN.size,fun h=>(by rcases h.2 with h |h;exact this.2 h;omega),.inl ⟨c,ch,J,O⟩⟩
  .have hB:=fF.sm ga;exact(hB.zs fun i _ aG=>(ga.lt i aG).1).Mq fun b E G=>⟨E,.inr G⟩
def po:List Int->Int
 | []=>0
 |x::l=>l.foldl min x
theorem aho {l:List Int} (h:0 < l.length):po (l.take 1)=l[0]:=by
 cases l with
 |nil=>simp at h
 |cons x l=>rfl
theorem ahp {l:List Int} {k:Nat} (av:0 < k) (h:k < l.length):po (l.take (k+1))=min (po (l.take k)) l[k]:=by
 cases l with
 |nil=>simp at h
 |cons x l=>
  cases k with
  |zero=>omega
  |succ k=>
   have Z:k < l.length:=aw9
   show List.foldl min x (l.take (k+1))=min (List.foldl min x (l.take k)) l[k];rw[List.take_add_one,oj Z,av3];rfl
theorem TQ: ∀(l:List Int) (x:Int),List.foldl min x l<=x/\(∀y,y∈l->List.foldl min x l<=y)/\(List.foldl min x l=x\/List.foldl min x l∈l)
 | [],x=>⟨Int.le_refl _,fun y h=>ax0,.inl rfl⟩
 |aB::l,x=>by
  obtain⟨E,G,al⟩:=TQ l (min x aB);show List.foldl min (min x aB) l<=x/\(∀y,y∈aB::l->List.foldl min (min x aB) l<=y)/\(List.foldl min (min x aB) l=x\/List.foldl min (min x aB) l∈aB::l);refine⟨aw0,fun y aD=>?_,?_⟩
  .rcases aq7.1 aD with rfl |aD
   .omega
   .exact G y aD
  .rcases al with al |al
   .rcases Int.le_total x aB with c |c
    .exact .inl aw0
    .exact .inr (by rw[al,show min x aB=aB by omega];exact ar4 ..)
   .exact .inr (aq6 _ al)
theorem Mr {l:List Int} (h:l≠[]):po l∈l/\ ∀y,y∈l->po l<=y:=by
 cases l with
 |nil=>exact absurd rfl h
 |cons x l=>
  obtain⟨E,G,al⟩:=TQ l x;refine⟨?_,fun y aD=>?_⟩
  .rcases al with al |al
   .show List.foldl min x l∈x::l;rw[al];exact ar4 ..
   .exact aq6 _ al
  .rcases aq7.1 aD with rfl |aD
   .exact E
   .exact G y aD
theorem TR {l m:List Int} (h:l.Perm m) (hn:m≠[]):po l=po m:=by
 have ap:l≠[]:=fun e=>hn (by subst e;exact List.nil_perm.1 h)
 obtain⟨b0,ca⟩:=Mr ap;obtain⟨b1,b2⟩:=Mr hn;have:=ca _ (h.mem_iff.2 b1);have:=b2 _ (h.mem_iff.1 b0);omega
theorem TS (l:List Int) (av:0 < l.length) (E:l.length<=1073741824):Fn Tryz.prog 292 [bv ai l] [] [] (ac (po l)) []:=by
 have aY:=iR (n:=0) av;have cn:=aho av;refine aT [3] Tryz.func292 ?_;refine⟨fun h=>?_,fun _=>?_⟩
 .have h:decide (((l.length:Nat):Int) < 1)=true:=h;have:=gd h;omega
 refine br [] (bq) ⟨aw0,l[0],aY,dG [] (X:=Nat) (fun k=>[(0,bv ai l),(3,ac (po (l.take k))),(4,ac (k:Int))]) (fun _=>[]) (fun k=>1<=k/\k<=l.length) (fun k=>l.length - k) 1 ⟨aq4 _,av⟩ ?_ ?_⟩
 .exact ab.sub ⟨rfl,cn.symm,rfl,trivial⟩ trivial
 rintro k ⟨b',Z⟩;refine⟨fun J=>?_,fun J=>?_⟩
 .have J:decide ((k:Int) < ((l.length:Nat):Int))=true:=J;have hs:k < l.length:=ay2
  have ax:=ahp b' hs;exact⟨aw0,l[k],iR (n:=k) hs,aw0,k+1,⟨aw0,hs⟩,aw0,ab.sub ⟨rfl,ax.symm,rfl,trivial⟩ trivial⟩
 .have J:decide ((k:Int) < ((l.length:Nat):Int))=false:=J;have hs:k=l.length:=ax9
  exact ej bq rfl (show po (l.take k)=po l by rw[hs,as2])
section
variable {P:Program} {N:Nat} {ids:aA1} {K:aX} {B:ay}
theorem TT {o:Oper} {T kt et:TypeId} {x:Operand} {c:Nat} (ag:o.op= .call {callee:=.builtin .clear,args:= #[x],argTypes:= #[T]}) (ci:P.underlying T=some (.map kt et)) {aH aJ:bA} {es:List (aa aH×aa aJ)}
  (hx:a7 K x= .c (.one (.mp c))) (J:aj B c=some (.map aH aJ es)) (N:Nat):bB P N ids o K B (.cb []) ⟨[c],[],[(c,some (.map aH aJ []))]⟩:=by
 have m1:x∈o.op.operands:=ax1
 refine bB.P6 J fun K' B' g1 C ρ F a w ar au f1=>?_
 obtain⟨bd,bU,bV,O,aw,dy⟩:=ar.holds c _ f1;have af:=au.mp ((g1 x m1).trans hx);have bx:=me O;have d':=fun o=>MapKept.run_setObj_map (P:=P) o O
 have aC:(Builtin.clear_ #[T] o.type #[.map (some (ρ c).bh)]).run P w= .ok (.tuple #[]) {w with heap:=w.heap.setIfInBounds (ρ c).bh (.map #[] bV)}:=by
  simp[Builtin.clear_,run_underlying ci,MapKept.run_getObj_map O,d',Result.andThen]
 refine⟨{w with heap:=w.heap.setIfInBounds (ρ c).bh (.map #[] bV)},?_,uI ((bd _).2 rfl),fun I aZ=>⟨bd,[],bV,by simp[bx],rfl,aw2,fun e U=>by cases U⟩⟩;simp[execOp,ag,resolve,invoke,builtin,af,aC]
theorem bB.TU {o:Oper} {c:Nat} {ix:aA1} {cB ch:ba} (J:aj B c=some cB)
  (h: ∀(K':aX) (B':ay),(∀x,x∈o.op.operands->a7 K' x=a7 K x)->(∀d,d∈ix->aj B' d=aj B d)-> ∀(C:fi) (ρ:Nat->bo) (F:Nat->Nat->Prop) (a:Act) (w:World),Mem ids C B' ρ F w->ey K' ρ (b5 C B' F w) a w->aj B' c=some cB-> ∃w',(execOp a.eval o).run P w= .ok .skip w'/\cP (F c) w w'/\
   (∀I,cj (b5 C B' F w) w I w'->Holds ρ I (F c) w' (ρ c) ch)):
  bB P N ids o K B .undef ⟨c::ix,[],[(c,some ch)]⟩:=by
 rintro K' B' E G - C a w ⟨hn,H,ρ,F,ar,au⟩ bx fO Q dq;have cQ:aj B' c=some cB:=(G c aw2).trans J;obtain⟨w',hx,cE,c0⟩:=h K' B' E (fun d H=>G d (aq6 _ H)) C ρ F a w ar au cQ;obtain⟨bP,U⟩:=ar.h0 cQ cE c0;unfold Oper.wp;rw[hx,Oper.upon_skip];exact dq _ _ ⟨kq.trans hn,kr.trans H,ρ,F,bP,(au.mono U fun _ _ _=>rfl).ku (fun e U=>by rw[hn];exact bx e U) rfl⟩
def AW (es:List (aa ai×aa .fn)):bg where
 bn:=fun I F w p=>Holds (fun _=>⟨0,none,0,0⟩) I F w p (.map ai .fn es)
 ck:=fun I F w I' w' p h U bd aR=>Holds.ck U bd aR _ (fun _ _=>rfl) h
def Dx (es:List (aa ai×aa .fn)) (ch:ba):Prop:=ch= .map ai .fn es\/ch= .aF (AW es)
theorem Dx.holds {es:List (aa ai×aa .fn)} {ch:ba} (h:Dx es ch) {ρ:Nat->bo} {I F:Nat->Prop} {w:World} {p:bo}:Holds ρ I F w p ch↔(∀b,F b↔b=p.bh)/\ ∃bU bV,w.heap[p.bh]? =some (.map (List.toArray bU) bV)/\iw I w ai .fn es bU/\mg bU bV:=by
 rcases h with rfl |rfl
 .exact Iff.rfl
 .exact Iff.rfl
theorem AX {o:Oper} {T kt et:TypeId} {x i v:Operand} {c f hM jj qp m1 m2 m3 b1 b2 b3:Nat} (ag:o.op= .insert T x i v) (ci:P.underlying T=some (.map kt et)) (kg:P.underlying kt=some (.int .i64)) {es:List (aa ai×aa .fn)} {ch ch':ba} (hx:a7 K x= .c (.one (.mp c))) {key:Int} (Z:a7 K i= .c (.one (.d (.int .i64 key))))
  (aA:a7 K v= .c (.one (.cY f [.p hM 0,.p jj 0,.p qp 0]))) (E:aj B m1=some (.cg hM (fg b1))) (G:aj B m2=some (.cg jj (fg b2))) (al:aj B m3=some (.cg qp (fg b3)))
  (J:aj B c=some ch) (hw:Dx es ch) (qu:Dx (dw (aH:=ai) (aJ:=.fn) es key (f,[b1,b2,b3])) ch') (N:Nat):bB P N ids o K B .undef ⟨[c,m1,m2,m3],[],[(c,some ch')]⟩:=by
 have cM:x∈o.op.operands:=aw7
 have dK:i∈o.op.operands:=aw7
 have lr:v∈o.op.operands:=aw7
 refine bB.TU J fun K' B' g1 g2 C ρ F a w ar au f1=>?_
 obtain⟨bd,bU,bV,O,aw,dy⟩:=hw.holds.1 (ar.holds c _ f1);have af:=au.mp ((g1 x cM).trans hx);have ao:a.eval i= .int .i64 key:=au.int ((g1 i dK).trans Z)
 have bm:a.eval v=mL (f,[b1,b2,b3]):=by
  have h:=au.ev ((g1 v lr).trans aA);obtain⟨aE,e,kS,r1,af,cC,v2,r2,ao,cF,v3,fV,bm,dD,fm⟩:=h;have ce:=pV (N:=N) (a:=a) ar ((g2 m1 aw2).trans E);have cR:=pV (N:=N) (a:=a) ar ((g2 m2 aw2).trans G);have er:=pV (N:=N) (a:=a) ar ((g2 m3 aw2).trans al);have cC:kS= .pointer (some ⟨(ρ hM).bh,0,none⟩):=cC;have cF:v2= .pointer (some ⟨(ρ jj).bh,0,none⟩):=cF;have dD:v3= .pointer (some ⟨(ρ qp).bh,0,none⟩):=dD;have fm:fV=[]:=fm;rw[e,af,ao,bm,cC,cF,dD,fm,ce,cR,er];rfl
 have cp:jy (b5 C B' F w) w .fn (f,[b1,b2,b3]) (mL (f,[b1,b2,b3])):=⟨rfl,⟨fun _=>rfl,fun e=>by cases e⟩,rfl⟩;obtain⟨eE,jV,aC,gv,qr⟩:=BL (P:=P) (aH:=ai) (aJ:=.fn) ci kg rfl O aw dy key cp;have bx:=me O;refine⟨{w with heap:=w.heap.setIfInBounds (ρ c).bh (.map (List.toArray eE) jV)},?_,uI ((bd _).2 rfl),fun I aZ=>qu.holds.2 ⟨bd,eE,jV,by simp[bx],gv.mono aZ,qr⟩⟩;have aC:(Instr.mapUpdate T (.map (some (ρ c).bh)) (.int .i64 key) (mL (f,[b1,b2,b3]))).run P w= .ok () {w with heap:=w.heap.setIfInBounds (ρ c).bh (.map (List.toArray eE) jV)}:=aC;simp only[execOp,ag,Sem.run_bind,af,ao,bm,aC,Result.andThen_ok,Sem.run_pure]
def ahq (x:Option (aa .fn)):aO:=match x with
 |some x=>.cb [.one (.d (.fn x)),.one (.d (.lit true))]
 |none=>.cb [.one .any,.one (.d (.lit false))]
theorem ahr {I:Nat->Prop} {w:World} {x:aa .fn} {v:Value} (h:jy I w .fn x v):v=mL x:=by
 have E:=h.2.1.1 rfl;have G:=h.2.2;rw[E] at G;have G:some v=some (mL x):=G;injection G
theorem Ms {aU:dl} (bl:eh P aU) {o:Oper} {T kt et:TypeId} {x i:Operand} {c:Nat} (ag:o.op= .lookup T x i true) (ci:P.underlying T=some (.map kt et)) (kg:P.underlying kt=some (.int .i64)) {ti:b8} (gK:aU.find et=some ti) {es:List (aa ai×aa .fn)} (hx:a7 K x= .c (.one (.mp c))) {key:Int} (Z:a7 K i= .c (.one (.d (.int .i64 key))))
  (J:aj B c=some (.aF (AW es))) {r:Option (aa .fn)} (aC:bY (aH:=ai) (aJ:=.fn) es key=r) (N:Nat):bB P N ids o K B (ahq r) ⟨[c],[],[]⟩:=by
 have cM:x∈o.op.operands:=aw7
 have dK:i∈o.op.operands:=aw7
 subst aC;obtain⟨C1,d,bz⟩:=bl.at_ gK;obtain⟨aB,aR,mR⟩:=bz.zero;refine bB.val fun K' B' g1 g2 C ρ F a w ar au=>?_
 obtain⟨bd,bU,bV,O,aw,dy⟩:=(Dx.holds (.inr rfl)).1 (ar.holds c _ ((g2 c aw2).trans J));have af:=au.mp ((g1 x cM).trans hx);have ao:a.eval i= .int .i64 key:=au.int ((g1 i dK).trans Z);have CK:(zeroValue et).run P w= .ok aB w:=by simp[zeroValue,typeInfo,bz.jW,aR]
 have qP:=fun e=>MapKept.run_checkKey (P:=P) (w:=w) kg (so (aH:=ai) (d:=.int .i64) rfl key) e 9999
 rcases BK (I:=b5 C B' F w) (w:=w) (aH:=ai) (aJ:=.fn) (d:=.int .i64) rfl key es bU 0 aw with⟨b0,ca,_⟩ |⟨j,y,e,b0,ca,_,_,a5,_⟩
 .have hf:=MapKept.run_findKey (P:=P) (w:=w) kg b0;refine⟨.tuple #[aB,.bool false],?_,by rw[ca];exact⟨[aB,.bool false],rfl,_,_,rfl,trivial,_,_,rfl,rfl,rfl⟩⟩
  have aC:(Instr.lookup T (.map (some (ρ c).bh)) (.int .i64 key) true).run P w= .ok (.tuple #[aB,.bool false]) w:=by
   simp only[gQ] at qP hf;simp[Instr.lookup,run_underlying ci,MapKept.run_getObj_map O,qP,hf,CK,Result.andThen]
  simp only[execOp,ag,Sem.run_bind,af,ao,aC,Result.andThen_ok,Sem.run_pure]
 .have hf:=MapKept.run_findKey (P:=P) (w:=w) kg b0;have aD:=ahr a5;refine⟨.tuple #[mL y,.bool true],?_,by rw[ca];exact⟨[mL y,.bool true],rfl,_,_,rfl,rfl,_,_,rfl,rfl,rfl⟩⟩
  have aC:(Instr.lookup T (.map (some (ρ c).bh)) (.int .i64 key) true).run P w= .ok (.tuple #[mL y,.bool true]) w:=by
   simp only[gQ] at qP hf;simp[Instr.lookup,run_underlying ci,MapKept.run_getObj_map O,qP,hf,Result.andThen,aD]
  simp only[execOp,ag,Sem.run_bind,af,ao,aC,Result.andThen_ok,Sem.run_pure]
theorem ab.TV (s f hM jj qp m1 m2 m3 b1 b2 b3:Nat) (ax:dI K s= .c (.one (.d (.fn (f,[b1,b2,b3]))))) (E:aj B m1=some (.cg hM (fg b1))) (G:aj B m2=some (.cg jj (fg b2))) (al:aj B m3=some (.cg qp (fg b3))):ab ids K B ((s,.c (.one (.cY f [.p hM 0,.p jj 0,.p qp 0])))::K) B:=by
 rintro N C a w ⟨hn,H,ρ,F,ar,au⟩;refine⟨hn,H,ρ,F,ar,fun t=>?_⟩;rw[kp]
 split
 .rename_i e;subst e;have h:=au s;rw[ax] at h;have h:a.tmps.getD s undef=mL (f,[b1,b2,b3]):=h;have ce:=pV (N:=N) (a:=a) ar E;have cR:=pV (N:=N) (a:=a) ar G;have er:=pV (N:=N) (a:=a) ar al;exact⟨_,h,_,_,rfl,by rw[<-ce];rfl,_,_,rfl,by rw[<-cR];rfl,_,_,rfl,by rw[<-er];rfl,rfl⟩
 .exact au t
end
abbrev Dy (k:Nat):aa ai×aa ai:=@Prod.mk Int Int (k:Int) 1
abbrev gg (l:aA1):List (aa ai×aa ai):=l.map Dy
def m9 (l:aA1) (k:Nat):aA1:=if k∈l then l else l++[k]
theorem Mt (l:aA1):(gg l).length=l.length:=ar7 _
theorem AY (a b:Nat):fN ai (a:Int) (b:Int)=decide (a=b):=by
 show decide ((a:Int)=(b:Int))=_
 by_cases h:a=b
 .rw[ar6 h,ar6 aw0]
 .rw[at3 h,at3 aw0]
theorem ahs {l:List (aa ai×aa ai)} {p:aa ai×aa ai} {k x:Int} (h:fN ai k p.1=true):dw (aH:=ai) (aJ:=ai) (p::l) k x= @Prod.mk Int Int k x::l:=by
 simp only[dw,h];rfl
theorem aht {l:List (aa ai×aa ai)} {p:aa ai×aa ai} {k x:Int} (h:fN ai k p.1=false):dw (aH:=ai) (aJ:=ai) (p::l) k x=p::dw (aH:=ai) (aJ:=ai) l k x:=by
 simp only[dw,h]
theorem ahu {l:List (aa ai×aa ai)} {p:aa ai×aa ai} {k:Int} (h:fN ai k p.1=true):gR (aH:=ai) (aJ:=ai) (p::l) k=l:=by
 simp only[gR,h]
theorem ahv {l:List (aa ai×aa ai)} {p:aa ai×aa ai} {k:Int} (h:fN ai k p.1=false):gR (aH:=ai) (aJ:=ai) (p::l) k=p::gR (aH:=ai) (aJ:=ai) l k:=by
 simp only[gR,h]
theorem Dz (k:Nat): ∀l:aA1,dw (aH:=ai) (aJ:=ai) (gg l) (k:Int) (1:Int)=gg (m9 l k)
 | []=>rfl
 |x::l=>by
  by_cases h:k=x
  .refine(ahs (p:=Dy x) (l:=gg l) ((AY k x).trans (ar6 h))).trans ?_;subst h;unfold m9;rw[if_pos (ar4 ..)];rfl
  .refine(aht (p:=Dy x) (l:=gg l) ((AY k x).trans (at3 h))).trans ?_;rw[Dz k l];unfold m9
   by_cases G:k∈l
   .rw[if_pos G,if_pos (aq6 _ G)];rfl
   .rw[if_neg G,if_neg (fun e=>by rcases aq7.1 e with e |e;exact h e;exact G e)];rfl
theorem Mu (k:Nat): ∀l:aA1,gR (aH:=ai) (aJ:=ai) (gg l) (k:Int)=gg (l.erase k)
 | []=>rfl
 |x::l=>by
  by_cases h:k=x
  .refine(ahu (p:=Dy x) (l:=gg l) ((AY k x).trans (ar6 h))).trans ?_;subst h;rw[List.erase_cons_head]
  .refine(ahv (p:=Dy x) (l:=gg l) ((AY k x).trans (at3 h))).trans ?_;rw[Mu k l,List.erase_cons_tail (by simpa using fun e=>h e.symm)];rfl
theorem Hd {l:aA1} {k x:Nat}:x∈m9 l k↔x∈l\/x=k:=by
 unfold m9
 split
 .rename_i h;exact⟨.inl,fun h'=>h'.elim id fun e=>e▸h⟩
 .rw[as4,ar5]
theorem TW {l:aA1} {k:Nat} (h:l.Nodup):(m9 l k).Nodup:=by
 unfold m9
 split
 .exact h
 .rename_i Z;rw[List.nodup_append];refine⟨h,aw2,fun a ha b O e=>?_⟩;rw[ar5] at O;subst O e;exact Z ha
theorem vh (l:aA1):g5 (gg l)=l.map fun k:Nat=>(k:Int):=by
 unfold g5 gg;rw[at8];rfl
theorem Mv {l:aA1} (h:l.Nodup):(g5 (gg l)).Nodup:=by
 rw[vh];exact Mm (fun x _ y _ e=>by have e:(x:Int)=(y:Int):=e;omega) h
theorem Mw {l:aA1} (h: ∀k,k∈l->k<=1000000): ∀s∈g5 (gg l),(Lit.int .i64 s).wf=true:=fun s ax=>by
 rw[vh] at ax;obtain⟨k,Z,rfl⟩:=as5.1 ax;have:=h k Z;show(decide (IntKind.i64.min<=(k:Int))&&decide ((k:Int)<=IntKind.i64.max))=true;rw[ar6 (show(IntKind.i64.min:Int)<=(k:Int) from Int.le_trans (by decide:IntKind.i64.min<=(0:Int)) aw0),ar6 (show(k:Int)<=IntKind.i64.max from Int.le_trans (by omega:(k:Int)<=1000000) aw1)];rfl
def dE (l:aA1):Nat:=(po (l.map fun k:Nat=>(k:Int))).toNat
theorem yt {l:aA1} (h:l≠[]):po (l.map fun k:Nat=>(k:Int))=((dE l:Nat):Int)/\dE l∈l/\ ∀y,y∈l->dE l<=y:=by
 have a6:l.map (fun k:Nat=>(k:Int))≠[]:=aw9
 obtain⟨E,G⟩:=Mr a6;obtain⟨k,Z,U⟩:=as5.1 E;have aw:dE l=k:=by unfold dE;rw[<-U];rfl
 refine⟨by rw[aw,U],by rw[aw];exact Z,fun y aD=>?_⟩;have:=G _ (as0 aD);rw[aw];omega
end
section
section
variable {z R:Nat} {L:List aM} {top base:aA0}
theorem TX {k:Nat} (h:rZ L top base=some k):lB L top base=true/\k < cl L top/\l2 L top base k=true/\ ∀j,j < k->l2 L top base j=false:=by
 unfold rZ at h
 split at h
 .rename_i O;obtain⟨g1,g2,c2⟩:=List.find?_range_eq_some.1 h;exact⟨O,List.mem_range.1 g2,g1,fun j V=>by simpa using c2 j V⟩
 .cases h
theorem ahw (h: ∀k,k < cl L top->l2 L top base k=false):rZ L top base=none:=by
 unfold rZ
 split
 .exact List.find?_range_eq_none.2 fun k Z=>by simp[h k Z]
 .rfl
theorem ahx (h:cr z R L) {t:aA0} {d:aM} {im:bL} (H:dk L t=some d) (ax:iz d.im im):kj (dh L t im none) top base=kj L top base/\lB (dh L t im none) top base=lB L top base:=by
 unfold kj lB;rw[Ml h t im none top,G1,(Mn L H ax).2];exact⟨rfl,rfl⟩
theorem ahy (h:cr z R L) {d:aM} (H:dk L top=some d) {k:Nat} (Z:k < d.im.t.length) (U:(eU z L top ((k*2 ^z:Nat):Int) (e8 z L top (k:Int))).e=0):
  ∃L',eU z L top ((k*2 ^z:Nat):Int) (e8 z L top (k:Int))=⟨0,L'⟩/\cr z R L'/\(∃cT,dk L' top=some cT/\cT.am=d.am/\cT.im.t.length=d.im.t.length/\(cT.im.t.getD k cy).1=1)/\kj L' top base=kj L top base/\lB L' top base=lB L top base/\
   (∀j,j≠k->l2 L' top base j=l2 L top base j)/\l2 L' top base k=false/\sZ z L' top=sZ z L top:=by
 have dF:e8 z L top (k:Int)=jb z L top (c' L top) k:=by
  unfold e8;rw[H];simp only;rw[if_pos ⟨aw0,aw0⟩];rfl
 have bZ:(jb z L top (c' L top) k).length=16*2 ^z:=wI h.tonC H (h.cg top).1 k;obtain⟨aq,kv,TY⟩:=h.gf d (cU H).1;have wN:=ahl h H Z;have f0:=agS h top ((k*2 ^z:Nat):Int) (e8 z L top (k:Int));obtain⟨cT,im,dn,ax,cH,ahz⟩:=TK h U;rw[H] at dn;injection dn with dn
 subst dn;have ae:=js h.b3
 have He: ∀c,(im.t.getD c cy).1=if c=k then 1 else(d.im.t.getD c cy).1:=fun c=>by
  rw[ahz c,dF,bZ,show 16*2 ^z/16=2 ^z by omega];show(if 0 < 2 ^z/\16*(k*2 ^z) < (c+1)*(16*2 ^z)/\c*(16*2 ^z) < 16*(k*2 ^z+2 ^z) then _ else _)=_;have af:16*(k*2 ^z)=k*(16*2 ^z):=Nat.mul_left_comm ..;have bm:(k+1)*(16*2 ^z)=k*(16*2 ^z)+16*2 ^z:=Nat.succ_mul ..;have ao:16*(k*2 ^z+2 ^z)=(k+1)*(16*2 ^z):=by rw[bm,<-af];omega
  have cW:0 < 16*2 ^z:=aw8
  by_cases cJ:c=k
  .subst cJ;rw[if_pos rfl,if_pos ⟨aw0,by rw[af];exact Nat.mul_lt_mul_of_pos_right (Nat.lt_succ_self c) cW,by rw[ao];exact Nat.mul_lt_mul_of_pos_right (Nat.lt_succ_self c) cW⟩]
  .rw[if_neg cJ,if_neg];rintro⟨_,g1,g2⟩;rw[af] at g1;rw[ao] at g2;have g1:=Nat.lt_of_mul_lt_mul_right g1;have g2:=Nat.lt_of_mul_lt_mul_right g2;omega
 obtain⟨b1,b2⟩:=ahx (top:=top) (base:=base) h H ax
 have hw:eU z L top ((k*2 ^z:Nat):Int) (e8 z L top (k:Int))=⟨0,dh L top im none⟩:=by
  rw[<-cH,<-U]
 rw[hw] at wN f0
 have C4: ∀j,l2 (dh L top im none) top base j=(hJ (dh L top im none) top j&&(kj L top base).any fun n=> !hJ L n j):=fun j=>by
  unfold l2;rw[b1]
  congr 1
  rw[Bool.eq_iff_iff,List.any_eq_true,List.any_eq_true]
  have bj: ∀n,n∈kj L top base->hJ (dh L top im none) n j=hJ L n j:=fun n hn=>by
   unfold hJ;rw[L9 (TM h H n hn).1]
  constructor
  .rintro⟨n,hn,hx⟩;exact⟨n,hn,by rw[<-bj n hn];exact hx⟩
  .rintro⟨n,hn,hx⟩;exact⟨n,hn,by rw[bj n hn];exact hx⟩
 have yb: ∀j,hJ (dh L top im none) top j=if j=k then false else hJ L top j:=fun j=>by
  unfold hJ;rw[wM H,H];show(decide (im.t.length<=j)||decide ((im.t.getD j cy).1=0))=_;rw[He,ax.eN]
  by_cases c:j=k
  .rw[if_pos c,if_pos c,at3 aw0];rfl
  .rw[if_neg c,if_neg c]
 refine⟨dh L top im none,hw,f0,⟨_,wM H im none,rfl,ax.eN,?_⟩,b1,b2,fun j V=>?_,?_,wN⟩
 .show(im.t.getD k cy).1=1;rw[He,if_pos rfl]
 .rw[C4,yb,if_neg V];rfl
 .rw[C4,yb,if_pos rfl];rfl
end
end
section
theorem ab.s0 {ids:aA1} {K:aX} {B:ay} (c:Nat) {l l':List bC} (J:aj B c=some (.cells l)) (ap:ET l l'):ab ids K B K ((c,.cells l')::B):=by
 rintro N C a w ⟨hn,H,ρ,F,ar,au⟩
 obtain⟨bP,aZ⟩:=ar.h0 (w':=w) (ch:=.cells l') J (cP.refl _ _) fun I a2=>by
  obtain⟨E,aE,T,G,al⟩:=ar.holds c _ J;exact⟨E,aE,T,G,Ka ap (cc.mono a2 _ _ (fun _ _=>rfl) al)⟩
 exact⟨hn,H,ρ,F,bP,au.mono aZ fun _ _ _=>rfl⟩
theorem wO (s:bL):Fn Tryz.prog 119 [ah 1001] (dB s) [] (ac (s.z:Nat)) (dB s):=by
 refine aT [] Tryz.func119 ?_;exact bc
end
section
abbrev Mx (top base:aA0) (over:Bool):List bC:=[.ptr 1001 0,.d (.str top),.d (.str base),.mp 2002,.d (.bool over)]
abbrev i2 (z R:Int) (L:List aM) (top base:aA0) (l:aA1) (over:Bool):ay:=bS z R L++[(2001,.cells (Mx top base over)),(2002,.map ai ai (gg l))]
def p7 (L:List aM) (top:aA0):Int:=if(gH L top).2≠0\/(gH L top).1=[] then 140 else if 1 < (pj L (gH L top).1).length then 143 else if cl L (gH L top).1 < cl L top then 1 else 0
def wP (L:List aM) (top:aA0):aA1:=(List.range (cl L top)).filter fun k=> !hJ L top k
def ov (z n:Nat) (l:aA1) (a a1:Int):aA1:=(List.range n).foldl (fun l k=>if a < ((k*2 ^z+2 ^z:Nat):Int)/\((k*2 ^z:Nat):Int) - a1 < a then m9 l k else l) l
def yu (L:List aM) (n:aA0) (k:Nat):Int:=match dk L n with
 |none=>0
 |some d=>(d.im.t.getD k cy).1
def l3 (z:Nat) (L:List aM) (top base:aA0) (k:Nat):pm:=if yu L top k=1 then eU z L base ((k*2 ^z:Nat):Int) (e8 z L top (k:Int)) else if yu L top k=2 then mx z L base ((k*2 ^z:Nat):Int) ((2 ^z:Nat):Int) else⟨0,L⟩
structure ahA where
 done:Bool
 e:Int
 L:List aM
 l:aA1
 over:Bool
def gh (z:Nat) (L:List aM) (top base:aA0) (l:aA1) (over:Bool):ahA:=if over=true then⟨false,150,L,l,true⟩ else if l=[] then⟨true,0,(my L top 0 ((cl L top*2 ^z:Nat):Int)).L,[],true⟩ else
 ⟨false,(l3 z L top base (dE l)).e,(l3 z L top base (dE l)).L,if(l3 z L top base (dE l)).e=0 then l.erase (dE l) else l,false⟩
section
variable {z R:Nat} {L:List aM} {top base:aA0}
theorem ahB (z R:Int) (L:List aM) (top base:aA0) (l:aA1) (over:Bool):Fn Tryz.prog 289 [ah 2001] (i2 z R L top base l over) [] (fk over) (i2 z R L top base l over):=by
 refine aT [] Tryz.func289 ?_;exact bc
theorem TZ (z R:Int) (L:List aM) (top base:aA0) (l:aA1) (over:Bool):Fn Tryz.prog 291 [ah 2001] (i2 z R L top base l over) [] gV (i2 z R L top base [] true):=by
 refine aT [] Tryz.func291 ?_;refine⟨_,_,fun N=>TT rfl Tryz.underlying159 rfl rfl N,rfl,?_⟩;exact⟨_,_,_,ab.s0 2001 (l':=Mx top base true) rfl az,rfl,trivial,az,rfl⟩
theorem ahC (z R:Int) (L:List aM) (top base:aA0) (l:aA1) (over:Bool):Fn Tryz.prog 288 [ah 2001] (i2 z R L top base l over) [] gV (i2 z R L top base [] true):=by
 refine aT [] Tryz.func288 ?_;exact ak (TZ z R L top base l over) bc
theorem T0 (U:p7 L top=0):(gH L top).2=0/\(gH L top).1≠[]/\(pj L (gH L top).1).length<=1/\cl L top<=cl L (gH L top).1:=by
 unfold p7 at U
 split at U
 .exact absurd U aw1
 .rename_i E
  split at U
  .exact absurd U aw1
  .rename_i G
   split at U
   .exact absurd U aw1
   .rename_i al;refine⟨Decidable.byContradiction fun e=>E (.inl e),fun e=>E (.inr e),aw0,aw0⟩
theorem My (h:cr z R L) (E:(gH L top).2=0): ∃d,dk L top=some d/\(gH L top).1=d.back/\(d.back≠[]-> ∃e,dk L d.back=some e):=by
 unfold gH at E⊢
 cases H:dk L top with
 |none=>rw[H] at E;exact absurd E aw1
 |some d=>exact⟨d,rfl,rfl,h.iB d (cU H).1⟩
theorem ahD (h:cr z R L) (top:aA0) (U:p7 L top≠0):Fn Tryz.prog 71 [ah 1001,bQ top] (bS z R L) [] (.cb [mZ,dp (p7 L top)]) (bS z R L):=by
 have li:=G4 h top;have su:=Tz h (gH L top).1;have bz:=fun E=>My (top:=top) h E
 have nw:(gH L top).2≠0\/(gH L top).1=[]->p7 L top=140:=fun e=>if_pos e
 have uO: ¬((gH L top).2≠0\/(gH L top).1=[])->1 < (pj L (gH L top).1).length->p7 L top=143:=fun af ao=>(if_neg af).trans (if_pos ao)
 have T1: ¬((gH L top).2≠0\/(gH L top).1=[])-> ¬1 < (pj L (gH L top).1).length->cl L (gH L top).1 < cl L top->p7 L top=1:=fun af ao bm=>(if_neg af).trans ((if_neg ao).trans (if_pos bm))
 have CY: ¬((gH L top).2≠0\/(gH L top).1=[])-> ¬1 < (pj L (gH L top).1).length-> ¬cl L (gH L top).1 < cl L top->p7 L top=0:=fun af ao bm=>(if_neg af).trans ((if_neg ao).trans (if_neg bm))
 generalize p7 L top=aqu at*;generalize gH L top=gW at*;obtain⟨hK,be⟩:=gW;have li:Fn Tryz.prog 114 [ah 1001,bQ top] (bS z R L) [] (.cb [.one (.d (.str hK)),dp be]) (bS z R L):=li;generalize pj L hK=us at*;refine aT [4,6] Tryz.func71 ?_;refine ak li ⟨fun E=>?_,fun E=>?_⟩
 .have E:(!decide (be=0))=true:=E;have E: ¬be=0:=ay8
  exact ej bq rfl ⟨rfl,(nw (.inl E)).symm,trivial⟩
 have E:(!decide (be=0))=false:=E;have E:be=0:=ay8
 refine⟨fun G=>?_,fun G=>?_⟩
 .have G:hK=[]:=gd G;exact ej bq rfl ⟨rfl,(nw (.inr G)).symm,trivial⟩
 have G: ¬hK=[]:=mu G;have hn: ¬(be≠0\/hK=[]):=fun e=>e.elim (fun e=>e E) G
 refine br [6] (bq) <| ak su ⟨fun al=>?_,fun al=>?_⟩
 .have al:decide ((1:Int) < ((us.length:Nat):Int))=true:=al;have al:1 < us.length:=by have:=gd al;omega
  exact ej bq rfl ⟨rfl,(uO hn al).symm,trivial⟩
 have al:decide ((1:Int) < ((us.length:Nat):Int))=false:=al;have al: ¬1 < us.length:=by have:=mu al;omega
 obtain⟨d,H,O,iS⟩:=bz E;have O:hK=d.back:=O;obtain⟨e,qQ⟩:=iS (by rw[<-O];exact G);rw[<-O] at qQ;have lZ:=h.toh8.M (cU H).1;have Mz:=h.toh8.M (cU qQ).1;have hE:cl L top=d.im.t.length:=ay5
 have fR:cl L hK=e.im.t.length:=by unfold cl;rw[qQ]
 rw[hE,fR] at T1 CY;refine br [] (cw [(0,ah 1001),(1,bQ top),(6,bQ hK)] (bS z R L)) <| ak (jK _ _ L h.toh8 hK e qQ) <| ak (h9 (nz e.im) Mz rfl rfl rfl rfl) <| ak (jK _ _ L h.toh8 top d H) <| ak (h9 (nz d.im) lZ rfl rfl rfl rfl) ⟨fun aW=>?_,fun aW=>?_⟩
 .have aW:decide (((e.im.t.length:Nat):Int) < ((d.im.t.length:Nat):Int))=true:=aW;have aW:e.im.t.length < d.im.t.length:=by have:=gd aW;omega
  exact ej bq rfl ⟨rfl,(T1 hn al aW).symm,trivial⟩
 .exfalso;have aW:decide (((e.im.t.length:Nat):Int) < ((d.im.t.length:Nat):Int))=false:=aW;have aW: ¬e.im.t.length < d.im.t.length:=by have:=mu aW;omega
  exact U (CY hn al aW)
abbrev ahE (top hK:aA0) (n k:Nat):aX:=[(0,ah 1001),(1,bQ top),(6,bQ hK),(8,ah 44),(48,ac (n:Nat)),(49,ac (k:Nat))]
abbrev MA (z R:Int) (L:List aM) (top base:aA0) (l:aA1):ay:=bS z R L++[(44,.cells [.ptr 1001 0,.d (.str top),.d (.str base),.mp 42,.d (.bool false)]),(42,.map ai ai (gg l))]
theorem Hf (p:Nat->Bool) (k:Nat):(List.range (k+1)).filter p=(List.range k).filter p++if p k=true then[k] else[]:=by
 rw[List.range_succ,List.filter_append]
 cases h:p k with
 |true=>rw[if_pos rfl,List.filter_cons_of_pos h];rfl
 |false=>rw[if_neg aw1,List.filter_cons_of_neg (by rw[h];decide)];rfl
theorem ahF (p:Nat->Bool) (k:Nat) (h:p k=true):m9 ((List.range k).filter p) k=(List.range (k+1)).filter p:=by
 rw[Hf,if_pos h];unfold m9;rw[if_neg (fun e=>by have:=List.mem_range.1 (av0.1 e).1;omega)]
theorem ahG (h:cr z R L) (top:aA0) (U:p7 L top=0):Fn Tryz.prog 71 [ah 1001,bQ top] (bS z R L) [2001,2002] (.cb [.one (.ptr 2001 0),dp 0]) (i2 z R L top (gH L top).1 (wP L top) false):=by
 obtain⟨af,ao,bm,c6⟩:=T0 U;obtain⟨d,H,O,iS⟩:=My h af;obtain⟨e,qQ⟩:=iS (by rw[<-O];exact ao);rw[<-O] at qQ;have lZ:=h.toh8.M (cU H).1;have Mz:=h.toh8.M (cU qQ).1;have nB:=(h.gf d (cU H).1).1.eN;have hE:cl L top=d.im.t.length:=ay5
 have fR:cl L (gH L top).1=e.im.t.length:=by unfold cl;rw[qQ]
 have Hg:wP L top=(List.range d.im.t.length).filter fun k=> !hJ L top k:=by unfold wP;rw[hE]
 have ahH: ∀k,k < d.im.t.length->hJ L top k=decide ((d.im.t.getD k cy).1=0):=fun k Z=>by
  unfold hJ;rw[H];show(decide (d.im.t.length<=k)||_)=_;rw[at3 aw0];rfl
 rw[hE,fR] at c6;rw[Hg];have li:=G4 h top;have su:=Tz h (gH L top).1;have ahI:=ahF (fun k=> !hJ L top k);have ahJ:=fun k (Z:hJ L top k=true)=>Hf (fun k=> !hJ L top k) k
 generalize gH L top=gW at*;obtain⟨hK,be⟩:=gW;have af:be=0:=af;have ao: ¬hK=[]:=ao;have bm:(pj L hK).length<=1:=bm;subst af;have li:Fn Tryz.prog 114 [ah 1001,bQ top] (bS z R L) [] (.cb [.one (.d (.str hK)),dp 0]) (bS z R L):=li;have su:Fn Tryz.prog 115 [ah 1001,bQ hK] (bS z R L) [] (bv .str (pj L hK)) (bS z R L):=su;generalize pj L hK=us at*;refine aT [4,6,8,9] Tryz.func71 ?_;refine ak li <| cX ⟨fun G=>absurd (gd G) ao,fun _=>br [6,8,9] (cw [(0,ah 1001),(1,bQ top),(6,bQ hK)] (bS z R L)) <| ak su ⟨fun al=>?_,fun _=>?_⟩⟩
 .exfalso;have al:decide ((1:Int) < ((us.length:Nat):Int))=true:=al;have:=gd al;omega
 refine br [8,9] (cw [(0,ah 1001),(1,bQ top),(6,bQ hK)] (bS z R L)) <| ak (jK _ _ L h.toh8 hK e qQ) <| ak (h9 (nz e.im) Mz rfl rfl rfl rfl) <| ak (jK _ _ L h.toh8 top d H) <| ak (h9 (nz d.im) lZ rfl rfl rfl rfl) ⟨fun aW=>?_,fun _=>?_⟩
 .exfalso;have aW:decide (((e.im.t.length:Nat):Int) < ((d.im.t.length:Nat):Int))=true:=aW;have:=gd aW;omega
 refine br [9] (cw [(0,ah 1001),(1,bQ top),(6,bQ hK)] (bS z R L)) ⟨rfl,rfl,br [] (ab.trans (ab.s0 44 (l':=[.ptr 1001 0,.d (.str top),.d (.str hK),.mp 42,.d (.bool false)]) rfl az) (cw [(0,ah 1001),(1,bQ top),(6,bQ hK),(8,ah 44)] (MA z R L top hK []))) <| ak (jK _ _ L h.toh8 top d H) <| ak (h9 (nz d.im) lZ rfl rfl rfl rfl) <| dG [12,13] (X:=Nat) (fun k=>ahE top hK d.im.t.length k) (fun k=>MA z R L top hK ((List.range k).filter fun k=> !hJ L top k)) (fun k=>k<=d.im.t.length) (fun k=>d.im.t.length - k) 0 (aq9 _) ?_ ?_⟩
 .exact ab.sub az az
 intro k Z;have Z:k<=d.im.t.length:=Z;refine⟨fun J=>?_,fun J=>?_⟩
 .have J:decide ((k:Int) < ((d.im.t.length:Nat):Int))=true:=J;have hs:k < d.im.t.length:=ay2
  have bj:=ahH k hs;refine br [13] (bq) <| ak (jK _ _ L h.toh8 top d H) <| ak (h9 (AB d.im nB k hs) lZ rfl rfl rfl rfl) ⟨fun bG=>?_,fun bG=>?_⟩
  .have bG:(!decide ((d.im.t.getD k cy).1=0))=true:=bG;have rV:=ahI k (by show(!hJ L top k)=true;rw[bj];exact bG);exact br [] (cw [(0,ah 1001),(1,bQ top),(6,bQ hK),(8,ah 44),(48,ac (d.im.t.length:Nat)),(49,ac (k:Nat)),(9,ac (k:Nat))] (MA z R L top hK ((List.range k).filter fun k=> !hJ L top k))) ⟨trivial,aw0,k+1,hs,aw0,ab.sub az ⟨rfl,rfl,rfl,rfl,rfl,congrArg (fun aB=>some (ba.map ai ai aB)) ((Dz k _).trans (congrArg gg rV)),trivial⟩⟩
  .have bG:(!decide ((d.im.t.getD k cy).1=0))=false:=bG;have Hh:hJ L top k=true:=by rw[bj];simpa using bG
   have ax:=ahJ k Hh;rw[if_neg (by rw[Hh];decide),au0] at ax;exact⟨aw0,k+1,hs,aw0,ab.sub az ⟨rfl,rfl,rfl,rfl,rfl,congrArg (fun aB=>some (ba.map ai ai (gg aB))) ax.symm,trivial⟩⟩
 .have J:decide ((k:Int) < ((d.im.t.length:Nat):Int))=false:=J;have hs:k=d.im.t.length:=ax9
  subst hs;exact⟨_,_,_,ab.trans (ab.aV 44 2001 rfl) (ab.aV 42 2002 rfl),rfl,az,az,rfl⟩
end
section
variable {z R:Nat} {L:List aM} {top base:aA0}
theorem MB (z n:Nat) (l:aA1) (a a1:Int):ov z (n+1) l a a1=if a < ((n*2 ^z+2 ^z:Nat):Int)/\((n*2 ^z:Nat):Int) - a1 < a then m9 (ov z n l a a1) n else ov z n l a a1:=by
 unfold ov;rw[List.range_succ,av3];rfl
def t' (z:Nat) (L:List aM) (top:aA0) (l:aA1) (over:Bool) (a a1:Int):aA1:=if over=true\/a1 < 1 then l else ov z (cl L top) l a a1
abbrev ahK (am:Nat) (a a1:Int) (n k:Nat):aX:=[(0,ah 2001),(1,ac a),(2,ac a1),(6,c8 am),(31,ac (n:Nat)),(32,ac (k:Nat))]
theorem ahL (h:cr z R L) (base:aA0) (l:aA1) (over:Bool) (a a1:Int) (vi:a1<=9223372036854775807) {d:aM} (H:dk L top=some d):Fn Tryz.prog 102 [ah 2001,ac a,ac a1] (i2 z R L top base l over) [] gV (i2 z R L top base (t' z L top l over a a1) over):=by
 have nB:=(h.gf d (cU H).1).1.eN;have fJ:=h.toh8.M (cU H).1;have kv:d.im.z=z:=(h.gf d (cU H).1).2.1;have ae:=js h.b3;have yv:=h.b3;have cu:cl L top=d.im.t.length:=ay5
 cases over with
 |true=>
  have e:t' z L top l true a a1=l:=if_pos (.inl rfl);rw[e];refine aT [] Tryz.func102 ?_;exact ak (jK _ _ L h.toh8 top d H) ⟨rfl,d7 bc⟩
 |false=>
  have af:a1 < 1->t' z L top l false a a1=l:=fun e=>if_pos (.inr e)
  have ao: ¬a1 < 1->t' z L top l false a a1=ov z d.im.t.length l a a1:=fun e=>(if_neg (fun c=>c.elim (fun c=>by cases c) e)).trans (by rw[cu])
  have au:=fun k=>MB z k l a a1
  have aqv:ov z 0 l a a1=l:=rfl;generalize t' z L top l false a a1=j7 at*
  have pp: ∀k:Nat,(k:Int)*((2 ^((d.im.z:Nat):Int).toNat:Nat):Int)=((k*2 ^z:Nat):Int):=fun k=>by
   rw[kv];show(k:Int)*((2 ^z:Nat):Int)=_;rw[Int.natCast_mul]
  have r0:(1:Int)*((2 ^((d.im.z:Nat):Int).toNat:Nat):Int)=((2 ^z:Nat):Int):=by
   have:=pp 1;rw[Nat.one_mul] at this;exact this
  refine aT [2] Tryz.func102 ?_;refine ak (jK _ _ L h.toh8 top d H) ⟨rfl,cX ⟨fun _ _=>⟨fun ap=>?_,fun ap=>?_⟩,fun h=>by cases h⟩⟩
  .have ap:a1 < 1:=gd ap;exact sJ bq rfl trivial ⟨rfl,rfl,rfl,rfl,rfl,congrArg (fun aB=>some (ba.map ai ai (gg aB))) (af ap).symm,trivial⟩ rfl
  have ap: ¬a1 < 1:=mu ap;have ao:=ao ap;refine br [] (cw [(0,ah 2001),(1,ac a),(2,ac a1),(6,c8 d.am)] (i2 z R L top base l false)) <| ak (h9 (nz d.im) fJ rfl rfl rfl rfl) <| dG [6,7] (X:=Nat) (fun k=>ahK d.am a a1 d.im.t.length k) (fun k=>i2 z R L top base (ov z k l a a1) false) (fun k=>k<=d.im.t.length) (fun k=>d.im.t.length - k) 0 (aq9 _) ?_ ?_
  .exact ab.sub az az
  intro k Z;have Z:k<=d.im.t.length:=Z;refine⟨fun J=>?_,fun J=>?_⟩
  .have J:decide ((k:Int) < ((d.im.t.length:Nat):Int))=true:=J;have hs:k < d.im.t.length:=ay2
   have T2:=pp k;have T3:=au k;have mk:k*2 ^z<=256*8:=Nat.mul_le_mul aw0 ae.2;have m1:(0:Int)<=(k:Int)/\(0:Int)<=((d.im.z:Nat):Int)/\((d.im.z:Nat):Int)<=64:=aw8
   have m2:c3 ((k:Int)*((2 ^((d.im.z:Nat):Int).toNat:Nat):Int)):=by rw[T2];omega
   have cM:(0:Int)<=(1:Int)/\(0:Int)<=((d.im.z:Nat):Int)/\((d.im.z:Nat):Int)<=64:=aw8
   have dK:c3 ((1:Int)*((2 ^((d.im.z:Nat):Int).toNat:Nat):Int)):=by rw[r0];omega
   have lr:c3 (((k*2 ^z:Nat):Int)+(1:Int)*((2 ^((d.im.z:Nat):Int).toNat:Nat):Int)):=by rw[r0];omega
   have sQ:c3 (((k*2 ^z:Nat):Int) - a1):=aw8
   have T4:((k*2 ^z:Nat):Int)+(1:Int)*((2 ^((d.im.z:Nat):Int).toNat:Nat):Int)=((k*2 ^z+2 ^z:Nat):Int):=by rw[r0];omega
   refine ak (h9 (wO d.im) fJ rfl rfl rfl rfl) ⟨m1,m2,br [7] (ab.sub (K':=[(0,ah 2001),(1,ac a),(2,ac a1),(6,c8 d.am),(31,ac (d.im.t.length:Nat)),(32,ac (k:Nat)),(7,ac (k:Nat)),(8,ac ((k*2 ^z:Nat):Int))]) (B':=i2 z R L top base (ov z k l a a1) false) ⟨rfl,rfl,rfl,rfl,rfl,rfl,rfl,T2,trivial⟩ az) <| ak (h9 (wO d.im) fJ rfl rfl rfl rfl) ⟨cM,dK,lr,?_⟩⟩;have AZ:(¬(a < ((k*2 ^z+2 ^z:Nat):Int)/\((k*2 ^z:Nat):Int) - a1 < a))->ov z k l a a1=ov z (k+1) l a a1:=fun e=>by rw[T3,if_neg e]
   refine⟨fun cJ=>?_,fun cJ=>?_⟩
   .have cJ:decide (a < ((k*2 ^z:Nat):Int)+(1:Int)*((2 ^((d.im.z:Nat):Int).toNat:Nat):Int))=true:=cJ;have cJ:=gd cJ;rw[T4] at cJ;refine⟨sQ,fun cG=>?_,fun cG=>?_⟩
    .have cG:decide (((k*2 ^z:Nat):Int) - a1 < a)=true:=cG;have cG:=gd cG;have aP:m9 (ov z k l a a1) k=ov z (k+1) l a a1:=by rw[T3,if_pos ⟨cJ,cG⟩]
     exact br [] (cw [(0,ah 2001),(1,ac a),(2,ac a1),(6,c8 d.am),(31,ac (d.im.t.length:Nat)),(32,ac (k:Nat)),(7,ac (k:Nat))] (i2 z R L top base (ov z k l a a1) false)) ⟨trivial,aw0,k+1,hs,aw0,ab.sub az ⟨rfl,rfl,rfl,rfl,rfl,congrArg (fun aB=>some (ba.map ai ai aB)) ((Dz k _).trans (congrArg gg aP)),trivial⟩⟩
    .have cG:decide (((k*2 ^z:Nat):Int) - a1 < a)=false:=cG;have cG:=mu cG;exact⟨aw0,k+1,hs,aw0,ab.sub az ⟨rfl,rfl,rfl,rfl,rfl,congrArg (fun aB=>some (ba.map ai ai (gg aB))) (AZ fun e=>cG e.2),trivial⟩⟩
   .have cJ:decide (a < ((k*2 ^z:Nat):Int)+(1:Int)*((2 ^((d.im.z:Nat):Int).toNat:Nat):Int))=false:=cJ;have cJ:=mu cJ;rw[T4] at cJ;exact⟨aw0,k+1,hs,aw0,ab.sub az ⟨rfl,rfl,rfl,rfl,rfl,congrArg (fun aB=>some (ba.map ai ai (gg aB))) (AZ fun e=>cJ e.1),trivial⟩⟩
  .have J:decide ((k:Int) < ((d.im.t.length:Nat):Int))=false:=J;have hs:k=d.im.t.length:=ax9
   subst hs;exact sJ bq rfl trivial ⟨rfl,rfl,rfl,rfl,rfl,congrArg (fun aB=>some (ba.map ai ai (gg aB))) ao.symm,trivial⟩ rfl
abbrev Hi (z R:Int) (L:List aM) (top base:aA0) (l:aA1) (x y:Int):ay:=i2 z R L top base l false++[(3001,.cells [.ptr 2001 0]),(3002,.cells [.d (.int .i64 x)]),(3003,.cells [.d (.int .i64 y)])]
theorem ahM (h:cr z R L) (base:aA0) (l:aA1) (a:Int) (k:Nat) {d:aM} (H:dk L top=some d) (Z:k < d.im.t.length):Fn Tryz.prog 294 [ah 3001,ah 3002,ah 3003] (Hi z R L top base l a (k:Int)) [] (ac (eU z L base a (e8 z L top (k:Int))).e) (Hi z R (eU z L base a (e8 z L top (k:Int))).L top base l a (k:Int)):=by
 have dF:=Mi h top (k:Int);have ae:=js h.b3
 have bZ:(e8 z L top (k:Int)).length<=1000000000:=by
  have:e8 z L top (k:Int)=jb z L top (c' L top) k:=by
   unfold e8;rw[H];simp only;rw[if_pos ⟨aw0,aw0⟩];rfl
  rw[this,wI h.tonC H (h.cg top).1 k];omega
 have Hj:=Mh h base a (e8 z L top (k:Int)) bZ;generalize e8 z L top (k:Int)=x at*;generalize eU z L base a x=r at*;refine aT [] Tryz.func294 ?_;exact ak dF <| ak Hj ⟨rfl,bc⟩
theorem ahN (h:cr z R L) (top base:aA0) (l:aA1) (a a1:Int):Fn Tryz.prog 295 [ah 3001,ah 3002,ah 3003] (Hi z R L top base l a a1) [] (ac (mx z L base a a1).e) (Hi z R (mx z L base a a1).L top base l a a1):=by
 have ahO:=Tx h base a a1;generalize mx z L base a a1=r at*;refine aT [] Tryz.func295 ?_;exact ak ahO ⟨rfl,bc⟩
abbrev DA (z R:Int) (L:List aM) (top base:aA0) (l:aA1) (k a a1:Int) (eA fp fC g6:Nat) (es:List (aa ai×aa .fn)):ay:=i2 z R L top base l false++[(4,.cells [.ptr 2001 0]),(5,.cells [.d (.int .i64 k)]),(6,.cells [.d (.int .i64 a)]),(7,.cells [.d (.int .i64 a1)]),(9004,.cg 4 (fg eA)),(9005,.cg 5 (fg fp)),(9006,.cg 6 (fg fC)),(9007,.cg 7 (fg g6)),(12,.aF (AW es))]
def r3 (eA fp fC g6:Nat):List (aa ai×aa .fn):=dw (aH:=ai) (aJ:=.fn) (dw (aH:=ai) (aJ:=.fn) [] (1:Int) (294,[eA,fC,fp])) (2:Int) (295,[eA,fC,g6])
theorem ahP (eA fp fC g6:Nat):bY (aH:=ai) (aJ:=.fn) (r3 eA fp fC g6) (1:Int)=some (294,[eA,fC,fp]):=rfl
theorem ahQ (eA fp fC g6:Nat):bY (aH:=ai) (aJ:=.fn) (r3 eA fp fC g6) (2:Int)=some (295,[eA,fC,g6]):=rfl
theorem ahR (eA fp fC g6:Nat) {x:Int} (E:x≠1) (G:x≠2):bY (aH:=ai) (aJ:=.fn) (r3 eA fp fC g6) x=none:=by
 have af:fN ai x (1:Int)=false:=at3 E;have ao:fN ai x (2:Int)=false:=at3 G;have e:r3 eA fp fC g6=[(@Prod.mk (aa ai) (aa .fn) (1:Int) (294,[eA,fC,fp])),(@Prod.mk (aa ai) (aa .fn) (2:Int) (295,[eA,fC,g6]))]:=rfl;rw[e];simp only[bY,af,ao]
theorem ahS (h:cr z R L) (base:aA0) (l:aA1) (k:Nat) (a a1:Int) (ha:a=((k*2 ^z:Nat):Int)) (aY:a1=((2 ^z:Nat):Int)) {d:aM} (H:dk L top=some d) (Z:k < d.im.t.length):Fn Tryz.prog 293 [ah 2001,ac (k:Int),ac a,ac a1] (i2 z R L top base l false) [] (ac (l3 z L top base k).e) (i2 z R (l3 z L top base k).L top base l false):=by
 have nB:=(h.gf d (cU H).1).1.eN;have fJ:=h.toh8.M (cU H).1;have He:yu L top k=(d.im.t.getD k cy).1:=by unfold yu;rw[H]
 have vk:=AB d.im nB k Z;rw[<-He] at vk;have gb:=ahM h base l a k H Z;have gU:=ahN h top base l a a1
 by_cases cJ:yu L top k=1
 .have e:l3 z L top base k=eU z L base a (e8 z L top (k:Int)):=by rw[ha];exact if_pos cJ
  rw[e];rw[cJ] at vk;generalize eU z L base a (e8 z L top (k:Int))=r at*;refine aT [1,2,3,5] Tryz.func293 ?_;refine⟨rfl,rfl,rfl,rfl,bk.eH (c5.mark 4 9004 rfl aw1) fun eA=>bk.eH (c5.mark 5 9005 rfl aw1) fun fp=>bk.eH (c5.mark 6 9006 rfl aw1) fun fC=>bk.eH (c5.mark 7 9007 rfl aw1) fun g6=>br [2,3,5] (bq) ⟨rfl,_,_,fun N=>AX (m1:=9004) (m2:=9006) (m3:=9005) (b1:=eA) (b2:=fC) (b3:=fp) (ch':=.map ai .fn (dw (aH:=ai) (aJ:=.fn) [] (1:Int) (294,[eA,fC,fp]))) rfl Tryz.underlying352 Tryz.underlying3 rfl rfl rfl rfl rfl rfl rfl (.inl rfl) (.inl rfl) N,rfl,?_⟩⟩;refine⟨_,_,fun N=>AX (m1:=9004) (m2:=9006) (m3:=9007) (b1:=eA) (b2:=fC) (b3:=g6) (ch':=.aF (AW (r3 eA fp fC g6))) rfl Tryz.underlying352 Tryz.underlying3 rfl rfl rfl rfl rfl rfl rfl (.inl rfl) (.inr rfl) N,rfl,?_⟩;refine br [3,5] (cw [(4,ah 4),(5,ah 5),(6,ah 6),(7,ah 7),(9,.c (.one (.mp 12)))] (DA z R L top base l k a a1 eA fp fC g6 (r3 eA fp fC g6))) <| ak (jK _ _ L h.toh8 top d H) <| ak (h9 vk fJ rfl rfl rfl rfl) ⟨_,_,fun N=>Ms ee (ti:=_) rfl Tryz.underlying352 Tryz.underlying3 rfl rfl rfl rfl (ahP eA fp fC g6) N,rfl,?_⟩;exact⟨rfl,br [5] (cw [(10,.c (.one (.d (.fn (294,[eA,fC,fp]))))),(11,ro true)] (DA z R L top base l k a a1 eA fp fC g6 (r3 eA fp fC g6))) <| bk.le (ab.TV 10 294 4 6 5 9004 9006 9005 eA fC fp rfl rfl rfl rfl) <| br [] (bq) <| ak (Fn.aV [(3001,4),(3002,6),(3003,5)] gb) bc⟩
 by_cases cG:yu L top k=2
 .have e:l3 z L top base k=mx z L base a a1:=by rw[ha,aY];exact(if_neg cJ).trans (if_pos cG)
  rw[e];rw[cG] at vk;generalize mx z L base a a1=r at*;refine aT [1,2,3,5] Tryz.func293 ?_;refine⟨rfl,rfl,rfl,rfl,bk.eH (c5.mark 4 9004 rfl aw1) fun eA=>bk.eH (c5.mark 5 9005 rfl aw1) fun fp=>bk.eH (c5.mark 6 9006 rfl aw1) fun fC=>bk.eH (c5.mark 7 9007 rfl aw1) fun g6=>br [2,3,5] (bq) ⟨rfl,_,_,fun N=>AX (m1:=9004) (m2:=9006) (m3:=9005) (b1:=eA) (b2:=fC) (b3:=fp) (ch':=.map ai .fn (dw (aH:=ai) (aJ:=.fn) [] (1:Int) (294,[eA,fC,fp]))) rfl Tryz.underlying352 Tryz.underlying3 rfl rfl rfl rfl rfl rfl rfl (.inl rfl) (.inl rfl) N,rfl,?_⟩⟩;refine⟨_,_,fun N=>AX (m1:=9004) (m2:=9006) (m3:=9007) (b1:=eA) (b2:=fC) (b3:=g6) (ch':=.aF (AW (r3 eA fp fC g6))) rfl Tryz.underlying352 Tryz.underlying3 rfl rfl rfl rfl rfl rfl rfl (.inl rfl) (.inr rfl) N,rfl,?_⟩;refine br [3,5] (cw [(4,ah 4),(5,ah 5),(6,ah 6),(7,ah 7),(9,.c (.one (.mp 12)))] (DA z R L top base l k a a1 eA fp fC g6 (r3 eA fp fC g6))) <| ak (jK _ _ L h.toh8 top d H) <| ak (h9 vk fJ rfl rfl rfl rfl) ⟨_,_,fun N=>Ms ee (ti:=_) rfl Tryz.underlying352 Tryz.underlying3 rfl rfl rfl rfl (ahQ eA fp fC g6) N,rfl,?_⟩;exact⟨rfl,br [5] (cw [(10,.c (.one (.d (.fn (295,[eA,fC,g6]))))),(11,ro true)] (DA z R L top base l k a a1 eA fp fC g6 (r3 eA fp fC g6))) <| bk.le (ab.TV 10 295 4 6 7 9004 9006 9007 eA fC g6 rfl rfl rfl rfl) <| br [] (bq) <| ak (Fn.aV [(3001,4),(3002,6),(3003,7)] gU) bc⟩
 .have e:l3 z L top base k=⟨0,L⟩:=(if_neg cJ).trans (if_neg cG);rw[e];have hw:=fun eA fp fC g6=>ahR eA fp fC g6 cJ cG
  generalize yu L top k=cZ at*;refine aT [1,2,3,5] Tryz.func293 ?_;refine⟨rfl,rfl,rfl,rfl,bk.eH (c5.mark 4 9004 rfl aw1) fun eA=>bk.eH (c5.mark 5 9005 rfl aw1) fun fp=>bk.eH (c5.mark 6 9006 rfl aw1) fun fC=>bk.eH (c5.mark 7 9007 rfl aw1) fun g6=>br [2,3,5] (bq) ⟨rfl,_,_,fun N=>AX (m1:=9004) (m2:=9006) (m3:=9005) (b1:=eA) (b2:=fC) (b3:=fp) (ch':=.map ai .fn (dw (aH:=ai) (aJ:=.fn) [] (1:Int) (294,[eA,fC,fp]))) rfl Tryz.underlying352 Tryz.underlying3 rfl rfl rfl rfl rfl rfl rfl (.inl rfl) (.inl rfl) N,rfl,?_⟩⟩;refine⟨_,_,fun N=>AX (m1:=9004) (m2:=9006) (m3:=9007) (b1:=eA) (b2:=fC) (b3:=g6) (ch':=.aF (AW (r3 eA fp fC g6))) rfl Tryz.underlying352 Tryz.underlying3 rfl rfl rfl rfl rfl rfl rfl (.inl rfl) (.inr rfl) N,rfl,?_⟩;refine br [3,5] (cw [(4,ah 4),(5,ah 5),(6,ah 6),(7,ah 7),(9,.c (.one (.mp 12)))] (DA z R L top base l k a a1 eA fp fC g6 (r3 eA fp fC g6))) <| ak (jK _ _ L h.toh8 top d H) <| ak (h9 vk fJ rfl rfl rfl rfl) ⟨_,_,fun N=>Ms ee (ti:=_) rfl Tryz.underlying352 Tryz.underlying3 rfl rfl rfl rfl (hw eA fp fC g6) N,rfl,?_⟩;exact⟨rfl,br [5] (cw [(11,ro false)] (i2 z R L top base l false)) bc⟩
end
section
variable {z R:Nat} {L:List aM} {top base:aA0}
theorem ahT (h:cr z R L) (base:aA0) (l:aA1) (over:Bool) {d:aM} (H:dk L top=some d) (ap: ∀k,k∈l->k < d.im.t.length) (hn:l.Nodup):Fn Tryz.prog 290 [ah 2001] (i2 z R L top base l over) [] (.cb [.one (.d (.bool (gh z L top base l over).done)),dp (gh z L top base l over).e]) (i2 z R (gh z L top base l over).L top base (gh z L top base l over).l (gh z L top base l over).over):=by
 have nB:=(h.gf d (cU H).1).1.eN;have fJ:=h.toh8.M (cU H).1;have kv:d.im.z=z:=(h.gf d (cU H).1).2.1;have yv:=h.b3;have ae:=js h.b3
 cases over with
 |true=>
  have e:gh z L top base l true=⟨false,150,L,l,true⟩:=if_pos rfl;rw[e];refine aT [] Tryz.func290 ?_;exact ak (jK _ _ L h.toh8 top d H) ⟨rfl,d7 bc⟩
 |false=>
  have r0:(1:Int)*((2 ^((d.im.z:Nat):Int).toNat:Nat):Int)=((2 ^z:Nat):Int):=by
   rw[kv,Int.one_mul];rfl
  have cM:(0:Int)<=(1:Int)/\(0:Int)<=((d.im.z:Nat):Int)/\((d.im.z:Nat):Int)<=64:=aw8
  have dK:c3 ((1:Int)*((2 ^((d.im.z:Nat):Int).toNat:Nat):Int)):=by rw[r0];omega
  by_cases a6:l=[]
  .have cu:cl L top=d.im.t.length:=ay5
   have e:gh z L top base l false=⟨true,0,(my L top 0 ((d.im.t.length*2 ^z:Nat):Int)).L,[],true⟩:=by
    unfold gh;rw[if_neg aw1,if_pos a6,cu]
   rw[e];subst a6;have hA:=Ty h top 0 ((d.im.t.length*2 ^z:Nat):Int);have aqw:=agT h top 0 ((d.im.t.length*2 ^z:Nat):Int);have mk:d.im.t.length*2 ^z<=256*8:=Nat.mul_le_mul nB ae.2;have em:((d.im.t.length:Nat):Int)*((2 ^z:Nat):Int)=((d.im.t.length*2 ^z:Nat):Int):=by rw[Int.natCast_mul]
   have m3:c3 (((d.im.t.length:Nat):Int)*((2 ^z:Nat):Int)):=by rw[em];omega
   rw[<-em] at hA⊢;generalize my L top 0 (((d.im.t.length:Nat):Int)*((2 ^z:Nat):Int))=r at*;refine aT [4,6,7] Tryz.func290 ?_;exact ak (jK _ _ L h.toh8 top d H) ⟨rfl,cX ⟨fun _ _=>br [6,7] (cw [(0,ah 2001),(4,c8 d.am)] (i2 z R L top base [] false)) <| ak (h9 (wO d.im) fJ rfl rfl rfl rfl) ⟨cM,dK,d7 <| br [7] (ab.sub (K':=[(0,ah 2001),(4,c8 d.am),(5,ac ((2 ^z:Nat):Int))]) (B':=i2 z R L top base [] false) ⟨rfl,rfl,r0,trivial⟩ az) <| ak (h9 (nz d.im) fJ rfl rfl rfl rfl) ⟨m3,ak hA ⟨rfl,br [] (cw [(0,ah 2001)] (i2 z R r.L top base [] false)) <| ak (TZ z R r.L top base [] false) bc⟩⟩⟩,fun h=>by cases h⟩⟩
  .have e:gh z L top base l false=⟨false,(l3 z L top base (dE l)).e,(l3 z L top base (dE l)).L,if(l3 z L top base (dE l)).e=0 then l.erase (dE l) else l,false⟩:=by
    unfold gh;rw[if_neg aw1,if_neg a6]
   rw[e];obtain⟨cC,cF,dD⟩:=yt a6;have Z:=ap _ cF
   have BH: ∀g:{hd:List Int//hd.Perm (g5 (gg l))},po g.1=((dE l:Nat):Int):=fun g=>by
    rw[TR g.2 (by rw[vh];simpa using a6),vh];exact cC
   have u5: ∀g:{hd:List Int//hd.Perm (g5 (gg l))},g.1.length=l.length:=fun g=>by
    rw[g.2.length_eq,vh,ar7]
   have lq:l.length<=256:=by
    have:=AV d.im.t.length l hn ap;omega
   have pe:0 < l.length:=List.length_pos_iff.2 a6;have rD:=Mt l;have MC:=TP (gg l) (Mv hn) (Mw fun k Z=>by have:=ap k Z;omega) aw0;have mk:dE l*2 ^z<=256*8:=Nat.mul_le_mul aw0 ae.2;have em:((dE l:Nat):Int)*((2 ^z:Nat):Int)=((dE l*2 ^z:Nat):Int):=by rw[Int.natCast_mul]
   have m3:c3 (((dE l:Nat):Int)*((2 ^z:Nat):Int)):=by rw[em];omega
   have ahU:=ahS h base l (dE l) _ _ em rfl H Z;have dL:=Mu (dE l) l;generalize dE l=r4 at*;generalize l3 z L top base r4=r at*;refine aT [4,9,10,12] Tryz.func290 ?_;refine ak (jK _ _ L h.toh8 top d H) ⟨rfl,cX ⟨fun _ _=>br [9,10,12] (cw [(0,ah 2001),(4,c8 d.am)] (i2 z R L top base l false)) <| ak (h9 (wO d.im) fJ rfl rfl rfl rfl) ⟨cM,dK,fun J=>?_,fun _=>?_⟩,fun h=>by cases h⟩⟩
   .exfalso;have J:decide ((((gg l).length:Nat):Int)=0)=true:=J;have:=gd J;omega
   refine bk.le (ab.sub (K':=[(0,ah 2001),(5,ac ((2 ^z:Nat):Int))]) (B':=i2 z R L top base l false) ⟨rfl,r0,trivial⟩ az) <| bk.gz ee aw3 <| hp ((Fn.aV [(1001,2002),(2001,9001)] (Mp (gg l))).x) fun _=>hp (cA.aV [(1001,2002),(2001,9001)] MC) fun g=>?_
   have ahV:=u5 g;have DB:=BH g;refine hp ((TS g.1 aw0 aw0).x) fun _=>?_
   refine br [12] (ab.sub (K':=[(0,ah 2001),(5,ac ((2 ^z:Nat):Int)),(6,ac (r4:Nat))]) (B':=i2 z R L top base l false) ⟨rfl,rfl,DB,trivial⟩ az) ⟨m3,ak ahU ⟨fun U=>?_,fun U=>?_⟩⟩
   .have U:r.e=0:=gd U;exact br [] (cw [(0,ah 2001),(6,ac (r4:Nat)),(7,ac r.e)] (i2 z R r.L top base l false)) <| sJ bq rfl az ⟨rfl,rfl,rfl,rfl,rfl,congrArg (fun aB=>some (ba.map ai ai aB)) (dL.trans (congrArg gg (if_pos U).symm)),trivial⟩ rfl
   .have U: ¬r.e=0:=mu U;exact sJ bq rfl az ⟨rfl,rfl,rfl,rfl,rfl,congrArg (fun aB=>some (ba.map ai ai (gg aB))) (if_neg U).symm,trivial⟩ rfl
end
end
section
section
variable {z R:Nat} {L:List aM}
theorem pn.aS {L':List aM} {t:aA0} (ap:pn L t L') (n:aA0):cl L' n=cl L n/\(dk L' n).isSome=(dk L n).isSome:=by
 rcases ap with rfl |⟨d,im,av,ax,rfl⟩
 .exact⟨rfl,rfl⟩
 .exact Mn L av ax
end
end
section
section
variable {z R:Nat} {L:List aM} {top base:aA0} {l:aA1}
structure lC (z R:Nat) (L:List aM) (top:aA0) (l:aA1):Prop where
 cs:cr z R L
 iB:(dk L top).isSome=true
 lt: ∀k,k∈l->k < cl L top
 gF:l.Nodup
theorem lC.wQ {L':List aM} {t:aA0} (h:lC z R L top l) (ap:pn L t L'):lC z R L' top l:=⟨ap.cs h.cs,by rw[(ap.aS top).2];exact h.iB,fun k Z=>by rw[(ap.aS top).1];exact h.lt k Z,h.gF⟩
theorem T5 (h:cr z R L) (top base:aA0) (k:Nat):pn L base (l3 z L top base k).L:=by
 unfold l3
 split
 .exact AT h _ _ _
 .split
  .exact G7 h _ _ _
  .exact .inl rfl
theorem lC.step (h:lC z R L top l) (base:aA0) (over:Bool):lC z R (gh z L top base l over).L top (gh z L top base l over).l:=by
 unfold gh
 split
 .exact h
 .split
  .exact⟨(h.wQ (AU h.cs _ _ _)).cs,(h.wQ (AU h.cs _ _ _)).iB,fun k Z=>(by cases Z),au7⟩
  .have E:=h.wQ (T5 h.cs top base (dE l));refine⟨E.cs,E.iB,fun k Z=>E.lt k ?_,?_⟩
   .have Z:k∈(if(l3 z L top base (dE l)).e=0 then l.erase (dE l) else l):=Z
    split at Z
    .exact List.mem_of_mem_erase Z
    .exact Z
   .show(if(l3 z L top base (dE l)).e=0 then l.erase (dE l) else l).Nodup
    split
    .exact h.gF.erase _
    .exact h.gF
theorem lC.ahW (h:cr z R L) (U:p7 L top=0):lC z R L top (wP L top):=by
 obtain⟨d,H,_⟩:=My h (T0 U).1;exact⟨h,by rw[H];rfl,fun k Z=>List.mem_range.1 (av0.1 Z).1,List.nodup_range.filter _⟩
theorem lC.get (h:lC z R L top l): ∃d,dk L top=some d/\ ∀k,k∈l->k < d.im.t.length:=by
 obtain⟨d,H⟩:=at5.1 h.iB;refine⟨d,H,fun k Z=>?_⟩;have:=h.lt k Z;unfold cl at this;rw[H] at this;exact this
theorem lC.len (h:lC z R L top l):l.length<=cl L top/\cl L top<=256:=by
 obtain⟨d,H,_⟩:=h.get;refine⟨AV _ l h.gF h.lt,?_⟩;unfold cl;rw[H];exact(h.cs.gf d (cU H).1).1.eN
theorem lC.MD (h:lC z R L top l) (base:aA0) (over:Bool):Fn Tryz.prog 290 [ah 2001] (i2 z R L top base l over) [] (.cb [.one (.d (.bool (gh z L top base l over).done)),dp (gh z L top base l over).e]) (i2 z R (gh z L top base l over).L top base (gh z L top base l over).l (gh z L top base l over).over):=
 let⟨_,H,ap⟩:=h.get
 ahT h.cs base l over H ap h.gF
theorem ahX {z n:Nat} {l:aA1} {a a1:Int}: ∀{k:Nat},k∈ov z n l a a1->k∈l\/k < n:=by
 induction n with
 |zero=>exact fun h=>.inl h
 |succ n bu=>
  intro k Z;rw[MB] at Z
  split at Z
  .rcases Hd.1 Z with Z |rfl
   .exact(bu Z).imp id aw0
   .exact .inr aw0
  .exact(bu Z).imp id aw0
theorem ahY {z n:Nat} {l:aA1} {a a1:Int} (h:l.Nodup):(ov z n l a a1).Nodup:=by
 induction n with
 |zero=>exact h
 |succ n bu=>
  rw[MB]
  split
  .exact TW bu
  .exact bu
theorem lC.wr (h:lC z R L top l) (over:Bool) (a a1:Int):lC z R L top (t' z L top l over a a1):=by
 unfold t'
 split
 .exact h
 .exact⟨h.cs,h.iB,fun k Z=>(ahX Z).elim (h.lt k) id,ahY h.gF⟩
end
section
variable {z R:Nat} {L:List aM} {top base nm:aA0} {l:aA1}
theorem ahZ {d:aM} (H:dk L top=some d) {k:Nat} (Z:k < d.im.t.length):e8 z L top (k:Int)=jb z L top (c' L top) k:=by
 unfold e8;rw[H];simp only;rw[if_pos ⟨aw0,aw0⟩];rfl
end
def ME (z:Nat) (L:List aM) (nm:aA0) (s:Nat):aA0:=nD z L nm (c' L nm) s
section
variable {z R:Nat} {L L':List aM} {top base t:aA0} {l:aA1}
theorem ah0 {n s:Nat} (h:s < n*2 ^z):s/2 ^z < n:=(Nat.div_lt_iff_lt_mul (Nat.two_pow_pos z)).2 h
theorem MF {k s:Nat}:(k*2 ^z<=s/\s < k*2 ^z+2 ^z)↔s/2 ^z=k:=by
 have ae:=Nat.two_pow_pos z;rw[Nat.div_eq_iff ae];have:(k+1)*2 ^z=k*2 ^z+2 ^z:=Nat.succ_mul ..;omega
theorem ah1 {k s:Nat} (h:s/2 ^z=k):s - k*2 ^z=s % 2 ^z:=by
 have E:=Nat.div_add_mod s (2 ^z);rw[h,Nat.mul_comm] at E;omega
theorem ah2 (z:Nat) (L:List aM) (top base:aA0):gh z L top base [] false=⟨true,0,(my L top 0 ((cl L top*2 ^z:Nat):Int)).L,[],true⟩:=rfl
end
section
variable {z R:Nat} {L:List aM} {top base:aA0} {l:aA1}
end
end
section
section
variable {P:Program} {ids:aA1} {K:aX} {B:ay}
theorem A0 {o:Oper} {op:BinOp} {T fQ:TypeId} {x y:Operand} {n m r:Int} (ag:o.op= .binOp op T x y fQ) (hx:a7 K x= .c (.one (.d (.int .i64 n)))) (aD:a7 K y= .c (.one (.d (.int .i64 m))))
  (h:(op= .add/\r=IntKind.i64.wrap (n+m))\/(op= .sub/\r=IntKind.i64.wrap (n - m))\/(op= .quo/\m≠0/\r=IntKind.i64.wrap (n.tdiv m))) (N:Nat):bB P N ids o K B (.c (.one (.d (.int .i64 r)))) ⟨[],[],[]⟩:=by
 have m1:x∈o.op.operands:=aw7
 have m2:y∈o.op.operands:=aw7
 refine bB.val fun K' B' g1 g2 C ρ F fl w ar au=>?_
 have af:=au.int ((g1 x m1).trans hx);have ao:=au.int ((g1 y m2).trans aD);refine⟨.int .i64 r,?_,rfl⟩;simp only[execOp,ag,af,ao];rcases h with⟨rfl,rfl⟩ |⟨rfl,rfl⟩ |⟨rfl,aw,rfl⟩
 .simp[eqGuard,go_sem,Op.intArith]
 .simp[eqGuard,go_sem,Op.intArith]
 .simp[eqGuard,go_sem,Op.intDiv,aw]
end
abbrev MG (s g:Int):List bC:=[.d (.int .i64 s),.d (.int .i64 g),.mp 1002]
abbrev iC (s g:Int) (es:List (aa ai×aa ai)):ay:=[(1001,.cells (MG s g)),(1002,.map ai ai es)]
theorem T6 (s:Int):Fn Tryz.prog 113 [ac s] [] [] (fk (decide (0<=s)&&decide (s<=4096))) []:=by
 refine aT [] Tryz.func113 ?_;refine⟨fun E=>?_,fun E=>?_⟩
 .have E:decide (0<=s)=true:=E;exact ej bq rfl (show decide (s<=4096)=(decide (0<=s)&&decide (s<=4096)) by rw[E];rfl)
 .have E:decide (0<=s)=false:=E;exact ej bq rfl (show false=(decide (0<=s)&&decide (s<=4096)) by rw[E];rfl)
def ow (s g:Int):Bool:=((decide (0<=s)&&decide (s<=4096))&&(!decide (g < 1)&& !decide (64 < g)))&&decide (((g.toNat &&& (g - 1).toNat:Nat):Int)=0)
theorem Hk {s g:Int} (h:ow s g=true):(0<=s/\s<=4096)/\1<=g/\g<=64:=by
 unfold ow at h;simp only[vj,Bool.not_eq_true',as1,decide_eq_false_iff_not] at h;obtain⟨⟨⟨E,G⟩,al,aW⟩,_⟩:=h;omega
theorem MH (s g:Int) (h:ow s g=true):Fn Tryz.prog 69 [ac s,ac g] [] [2001,2002] (.cb [.one (.ptr 2001 0),dp 0]) [(2001,.cells [.d (.int .i64 s),.d (.int .i64 g),.mp 2002]),(2002,.map ai ai [])]:=by
 obtain⟨g1,g2,c2⟩:=Hk h;have aC:=T6 s;rw[ar6 g1.1,ar6 g1.2] at aC;unfold ow at h;simp only[vj] at h;have bG:=h.2;have m1:c3 (g - 1):=aw8
 refine aT [] Tryz.func69 ?_;refine ak aC <| cX ⟨fun h=>absurd (gd h) aw0,fun _=>⟨fun h=>absurd (gd h) aw0,fun _=>⟨m1,_,_,fun N=>GS rfl rfl rfl aw0 aw0 aw0 aw0 N,rfl,?_⟩⟩⟩;refine⟨fun h=>?_,fun _=>?_⟩
 .exfalso;have h:(!decide (((g.toNat &&& (g - 1).toNat:Nat):Int)=0))=true:=h;rw[bG] at h
  cases h
 exact⟨rfl,rfl,_,_,_,ab.trans (ab.aV 28 2001 rfl) (ab.aV 26 2002 rfl),rfl,az,az,rfl⟩
theorem ah3 (s g:Int) (h:ow s g=false):Fn Tryz.prog 69 [ac s,ac g] [] [] (.cb [mZ,dp 1]) []:=by
 have aC:=T6 s;unfold ow at h;generalize(decide (0<=s)&&decide (s<=4096))=b at*;refine aT [] Tryz.func69 ?_;refine ak aC ⟨fun _=>?_,fun E=>?_⟩
 .exact bc
 have E:b=true:=by
  have E:(!b)=false:=E;simpa using E
 refine⟨fun _=>?_,fun G=>?_⟩
 .exact bc
 refine⟨fun _=>?_,fun al=>?_⟩
 .exact bc
 have G:decide (g < 1)=false:=G;have al:decide (64 < g)=false:=al;rw[E,G,al] at h;have cF:=mu G;have dD:=mu al;have m1:c3 (g - 1):=aw8
 refine⟨m1,_,_,fun N=>GS rfl rfl rfl aw0 aw0 aw0 aw0 N,rfl,?_⟩;refine⟨fun _=>?_,fun aW=>?_⟩
 .exact bc
 .exfalso;have aW:(!decide (((g.toNat &&& (g - 1).toNat:Nat):Int)=0))=false:=aW;have h:((true&&(!false&& !false))&&decide (((g.toNat &&& (g - 1).toNat:Nat):Int)=0))=false:=h;generalize decide (((g.toNat &&& (g - 1).toNat:Nat):Int)=0)=c at*
  cases c
  .cases aW
  .cases h
theorem MI (s g:Int) (es:List (aa ai×aa ai)):Fn Tryz.prog 77 [ah 1001] (iC s g es) [] (ac s) (iC s g es):=by
 refine aT [] Tryz.func77 ?_;exact bc
def DC (aB:Int):Bool:=decide (0 < aB)
def m' (g:Int) (es:List (aa ai×aa ai)) (k:Nat):Bool:=DC ((bY (aH:=ai) (aJ:=ai) es ((k:Int)/g)).getD (cL ai))
theorem T7 (s g:Int) (es:List (aa ai×aa ai)) (k:Nat) (aY:1<=g) (Z:(k:Int) < s) (ax:s<=4096):Fn Tryz.prog 120 [ah 1001,ac (k:Int)] (iC s g es) [] (fk (m' g es k)) (iC s g es):=by
 have aP:(0:Int)<=(k:Int)/g:=av9 aw0 aw0;have DD:(k:Int)/g<=(k:Int):=Int.ediv_le_self _ aw0;have m1:c3 ((k:Int)/g):=aw8
 refine aT [] Tryz.func120 ?_;exact⟨fun _=>⟨fun _=>⟨⟨aw0,aw0⟩,m1,rfl,bc⟩,fun h=>absurd (mu h) aw0⟩,fun h=>absurd (mu h) aw0⟩
def s1 (es:List (aa ai×aa ai)) (f:Int):Nat->List (aa ai×aa ai)
 |0=>es
 |n+1=>dw (aH:=ai) (aJ:=ai) (s1 es f n) (f+(n:Int)) (1:Int)
abbrev r5 (s g:Int) (es:List (aa ai×aa ai)):ay:=iC s g es++[(3001,.cells [.ptr 1001 0])]
theorem ah4 (s g:Int) (es:List (aa ai×aa ai)) (k:Int):Fn Tryz.prog 157 [ac k,ah 3001] (r5 s g es) [] gV (r5 s g (dw (aH:=ai) (aJ:=ai) es k (1:Int))):=by
 refine aT [] Tryz.func157 ?_;exact⟨trivial,bc⟩
abbrev ah5 (eg k:Int):aX:=[(4,ac eg),(5,.c (.one (.cY 157 [.p 3001 0]))),(13,ac k)]
theorem ah6 (s g:Int) (es:List (aa ai×aa ai)) (fr bN gi eg:Int) (E:0<=bN) (G:0<=fr) (al:bN<=s) (aW:fr<=s - bN) (ax:s<=4096) (bG:0<=gi) (fP:eg<=1000000):Fn Tryz.prog 156 [ah 1001,ac fr,ac bN,ac gi,ac eg,.c (.one (.cY 157 [.p 3001 0]))] (r5 s g es) [] (ac 0) (r5 s g (s1 es gi (eg - gi).toNat)):=by
 have m1:c3 (s - bN):=aw8
 refine aT [] Tryz.func156 ?_;refine⟨fun h=>absurd (gd h) aw0,fun _=>⟨fun h=>absurd (gd h) aw0,fun _=>⟨fun h=>absurd (gd h) aw0,fun _=>⟨m1,fun h=>absurd (gd h) aw0,fun _=>dG [6] (X:=Nat) (fun j=>ah5 eg (gi+(j:Int))) (fun j=>r5 s g (s1 es gi j)) (fun j=>j<=(eg - gi).toNat) (fun j=>(eg - gi).toNat - j) 0 (aq9 _) ?_ ?_⟩⟩⟩⟩
 .exact ab.sub ⟨rfl,rfl,(show gi=gi+((0:Nat):Int) by omega),trivial⟩ az
 intro j V;have V:j<=(eg - gi).toNat:=V;refine⟨fun J=>?_,fun J=>?_⟩
 .have J:decide (gi+(j:Int) < eg)=true:=J;have J:=gd J;exact br [] (bq) <| ak (ah4 s g (s1 es gi j) (gi+(j:Int))) ⟨aw0,j+1,aw0,aw0,ab.sub ⟨rfl,rfl,(show gi+(j:Int)+1=gi+((j+1:Nat):Int) by omega),trivial⟩ az⟩
 .have J:decide (gi+(j:Int) < eg)=false:=J;have J:=mu J;have fB:j=(eg - gi).toNat:=aw8
  subst fB;exact bc
theorem ah7 (s g:Int) (es:List (aa ai×aa ai)) (fr bN gi eg:Int) (h: ¬(0<=bN/\0<=fr/\bN<=s/\fr<=s - bN)) (ax:0<=s/\s<=4096):Fn Tryz.prog 156 [ah 1001,ac fr,ac bN,ac gi,ac eg,.c (.one (.cY 157 [.p 3001 0]))] (r5 s g es) [] (ac 1) (r5 s g es):=by
 refine aT [] Tryz.func156 ?_;refine⟨fun _=>?_,fun cC=>?_⟩
 .exact bc
 refine⟨fun _=>?_,fun cF=>?_⟩
 .exact bc
 refine⟨fun _=>?_,fun dD=>?_⟩
 .exact bc
 have cC: ¬bN < 0:=mu cC;have cF: ¬fr < 0:=mu cF;have dD: ¬s < bN:=mu dD;have m1:c3 (s - bN):=aw8
 refine⟨m1,fun _=>?_,fun fm=>?_⟩
 .exact bc
 .exfalso;have fm: ¬s - bN < fr:=mu fm;exact h aw0
def yw (s fr bN:Int):Prop:=0<=bN/\0<=fr/\bN<=s/\fr<=s - bN
instance (s fr bN:Int):Decidable (yw s fr bN):=by unfold yw;infer_instance
def nH (s g:Int) (es:List (aa ai×aa ai)) (fr bN:Int):List (aa ai×aa ai):=if yw s fr bN then s1 es (fr/g) ((if bN=0 then 0 else(fr+bN+g - 1)/g) - fr/g).toNat else es
abbrev Hl (fr bN eg:Int):aX:=[(1,ac fr),(2,ac bN),(3,ah 3),(7,ac eg)]
abbrev DE (s g:Int) (es:List (aa ai×aa ai)):ay:=iC s g es++[(3,.cells [.ptr 1001 0])]
theorem MJ (s g:Int) (es:List (aa ai×aa ai)) (fr bN:Int) (ax:0<=s/\s<=4096) (aY:1<=g/\g<=64):Fn Tryz.prog 103 [ah 1001,ac fr,ac bN] (iC s g es) [] (ac (if yw s fr bN then 0 else 1)) (iC s g (nH s g es fr bN)):=by
 by_cases aA:yw s fr bN
 .have bJ:nH s g es fr bN=s1 es (fr/g) ((if bN=0 then 0 else(fr+bN+g - 1)/g) - fr/g).toNat:=if_pos aA;rw[bJ,if_pos aA];obtain⟨kS,v2,v3,v4⟩:=aA;have d6:(0:Int)<=fr/g:=av9 aw0 aw0;have cV:fr/g<=fr:=Int.ediv_le_self _ aw0;have dN:(0:Int)<=(fr+bN+g - 1)/g:=av9 aw0 aw0;have dS:(fr+bN+g - 1)/g<=fr+bN+g - 1:=Int.ediv_le_self _ aw0;have cM:c3 (fr+bN):=aw8
  have dK:c3 (fr+bN+g):=aw8
  have lr:c3 (fr+bN+g - 1):=aw8
  have sQ:c3 ((fr+bN+g - 1)/g):=aw8
  have n5:c3 (fr/g):=aw8
  have n6:(0:Int)<=fr+bN+g - 1/\0 < g:=aw8
  have n7:(0:Int)<=fr/\0 < g:=aw8
  have U:=fun eg (h:eg<=1000000)=>ah6 s g es fr bN (fr/g) eg kS v2 v3 v4 ax.2 d6 h
  have jl:=U _ (show(fr+bN+g - 1)/g<=1000000 by omega);have gL:=U 0 aw1;generalize x5:(fr+bN+g - 1)/g=eg at*;generalize DD:fr/g=gi at*;refine aT [4] Tryz.func103 ?_;refine⟨rfl,?_⟩;refine⟨cM,dK,lr,n6,by rw[x5];exact sQ,rfl,fun ap=>?_,fun ap=>?_⟩
  .have ap:bN=0:=gd ap;rw[if_pos ap];refine br [] (cw (Hl fr bN 0) (DE s g es)) ?_;exact⟨n7,by rw[DD];exact n5,ak (Fn.arg (args:=[ah 1001,ac fr,ac bN,ac (fr/g),ac 0,.c (.one (.cY 157 [.p 3001 0]))]) gL ⟨rfl,rfl,rfl,DD,rfl,rfl,trivial⟩ |> Fn.aV [(3001,3)]) ⟨rfl,bc⟩⟩
  .have ap: ¬bN=0:=mu ap;rw[if_neg ap];refine br [] (ab.sub (K':=Hl fr bN eg) (B':=DE s g es) ⟨rfl,rfl,rfl,x5,trivial⟩ az) ?_;exact⟨n7,by rw[DD];exact n5,ak (Fn.arg (args:=[ah 1001,ac fr,ac bN,ac (fr/g),ac eg,.c (.one (.cY 157 [.p 3001 0]))]) jl ⟨rfl,rfl,rfl,DD,rfl,rfl,trivial⟩ |> Fn.aV [(3001,3)]) ⟨rfl,bc⟩⟩
 .have bJ:nH s g es fr bN=es:=if_neg aA;rw[bJ,if_neg aA];have U:=fun gi eg=>ah7 s g es fr bN gi eg aA ax
  refine aT [1,4] Tryz.func103 ?_;refine⟨rfl,bk.m4 (2000000+10) aw1 <| bk.m4 (2000000+15) aw1 <| bk.m4 (2000000+16) aw1 <| bk.m4 (2000000+21) aw1 <| br [4] (bq) ⟨_,_,fun N=>A0 rfl rfl rfl (.inl ⟨rfl,rfl⟩) N,rfl,?_⟩⟩;refine⟨_,_,fun N=>A0 rfl rfl rfl (.inl ⟨rfl,rfl⟩) N,rfl,?_⟩;refine⟨_,_,fun N=>A0 rfl rfl rfl (.inr (.inl ⟨rfl,rfl⟩)) N,rfl,?_⟩;refine⟨_,_,fun N=>A0 rfl rfl rfl (.inr (.inr ⟨rfl,aw0,rfl⟩)) N,rfl,?_⟩;refine⟨rfl,?_⟩;generalize IntKind.i64.wrap _=eg;refine⟨fun _=>?_,fun _=>?_⟩
  .show bk _ _ _ _ _ _ _;refine bk.le (cw (Hl fr bN 0) (DE s g es)) <| bk.m4 (2000000+32) aw1 <| br [] (bq) ⟨_,_,fun N=>A0 rfl rfl rfl (.inr (.inr ⟨rfl,aw0,rfl⟩)) N,rfl,?_⟩;exact ak (Fn.aV [(3001,3)] (U _ _)) ⟨rfl,bc⟩
  .show bk _ _ _ _ _ _ _;refine bk.le (cw (Hl fr bN eg) (DE s g es)) <| bk.m4 (2000000+32) aw1 <| br [] (bq) ⟨_,_,fun N=>A0 rfl rfl rfl (.inr (.inr ⟨rfl,aw0,rfl⟩)) N,rfl,?_⟩;exact ak (Fn.aV [(3001,3)] (U _ _)) ⟨rfl,bc⟩
end
section
open Go.RowKit Go.Proofs Go.Maps Go.Shelf Go.MapKept Tryz
open Go.WideElems (Fit rd rg pl rd_val rd_key rg_of)
abbrev iT:bA:=.b4 .u8
def yx:Int->Int->Bool:=fun x y=>decide (x<=y)
def na (l:List Int):List Int:=l.mergeSort yx
theorem yy (l:List Int):(na l).Perm l:=List.mergeSort_perm l yx
theorem T8 (m:Nat):AnyZI.SortsIn Tryz.prog RR Fence.wide m:=
 ⟨fun bh off cap hd W c0 jY cu=>callsIn_wide.2 (AnyM.slices_Sort_int RT bh off cap hd W c0 jY cu),
  fun p cap W=>callsIn_wide.2 (AnyM.slices_Sort_int_none RT p cap W)⟩
theorem ah8 (es:List (aa ai×aa iT)):Fn Tryz.prog 168 [.c (.one (.mp 1001))] [(1001,.map ai iT es)] [2001] (.c (.one (.cY 208 [.p 2001 0]))) [(2001,.cells [.mp 1001]),(1001,.map ai iT es)]:=by
 refine aT [] Tryz.func168 ?_;exact⟨rfl,_,_,_,ab.aV 1 2001 rfl,rfl,rfl,az,rfl⟩
theorem ah9 (es:List (aa ai×aa ai)) (hn:(g5 es).Nodup) (ap: ∀s∈g5 es,(Lit.int .i64 s).wf=true) (ax:es.length<=4294967296):
  Fn Tryz.prog 154 [.c (.one (.cY 201 [.p 2001 0]))] [(2001,.cells [.mp 1001]),(1001,.map ai ai es)] [] (bv ai (na (g5 es))) [(2001,.cells [.mp 1001]),(1001,.map ai ai es)]:=by
 refine⟨aw3,fun ρ F I w bW a2 c0 bd eG bZ dx=>?_⟩
 match bW,bZ with
 | [v],_=>
  obtain⟨aE,aA,e',r,hD,mv,aC⟩:=dx 0 _ v rfl rfl;have aC:r=[]:=aC;have mv:e'= .pointer (some ⟨(ρ 2001).bh,0,none⟩):=mv;subst aC mv hD aA;obtain⟨_,aE,T,gb,hD⟩:=c0 2001 _ rfl;obtain⟨x,r,hD,hx,aC⟩:=hD;have aC:r=[]:=aC;have hx:x= .map (some (ρ 1001).bh):=hx;subst aC hx hD;obtain⟨_,bU,bV,gU,aw,dy⟩:=c0 1001 _ rfl;have GT:(4294967296:Nat)<=maxLen:=by decide
  obtain⟨ju,dC,cu,pi⟩:=Mo (P:=Tryz.prog) (k:=3) aw3 gU aw dy hn ap aw0;have bx:(ρ 2001).bh < w.heap.size:=me gb
  have vd:SeqGives Fence.wide 2 Tryz.prog 201 #[.pointer (some ⟨(ρ 2001).bh,0,none⟩)] encZ (fun hd=>hd.Perm (intKeys ju)) (Maps.size ju) w:=
   AnyZI.keys_gives (ρ:=K2) {RP with} Fence.wide _ trivial rfl aw0 (ρ 2001).bh (ρ 1001).bh es.length ju w bx (oZ gb rfl) dC
  have J:=AnyZI.sorted_in RS Fence.wide 5 trivial trivial trivial trivial rfl aw0 (T8 _) (enters_of Tryz.func200 aw3 rfl) 201 #[.pointer (some ⟨(ρ 2001).bh,0,none⟩)] trivial (enters_of Tryz.func201 aw3 rfl) _ _ ay6 ay6 _ vd;refine(callsIn_wide.1 J).mono ?_;rintro e w' ⟨v,hd,rfl,au,ga,yn,gN⟩;have aZ:cj I w (fun b=>b < w'.heap.size/\(I b\/w.heap.size<=b)) w':=fun b fW=>⟨⟨Nat.lt_of_lt_of_le (a2 b fW) gN.size,.inl fW⟩,gN.block b (a2 b fW)⟩
  refine⟨v,ρ,F,rfl,cP.oR gN,fun _ _=>rfl,_,aZ,fun b h=>⟨h.1,h.2.imp id .inr⟩,fun c ch J=>Holds.ck aZ (fun b O=>gN.block b (bd c ch J b O).1) gN.size ch (fun _ _=>rfl) (c0 c ch J),fun c ch J b O=>?_,fun c b7 ch ch' b E G=>eG c b7 ch ch' b E G,?_⟩
  .have:=bd c ch J b O;exact⟨Nat.lt_of_lt_of_le this.1 gN.size,fun h=>(by rcases h.2 with h |h;exact this.2 h;omega),.inl ⟨c,ch,J,O⟩⟩
  .have Z:hd.mergeSort (fun x y=>decide (x<=y))=na (g5 es):=Go.mergeSort_of_perm_i (au.trans pi);rw[Z] at ga;have hB:=fF.sm ga;have ve:hd.length=(na (g5 es)).length:=by rw[<-Z,List.length_mergeSort]
   rw[ve] at hB;exact(hB.zs fun i _ aG=>(ga.lt i aG).1).Mq fun b E G=>⟨E,.inr G⟩
theorem ah' (es:List (aa ai×aa iT)) (hn:(g5 es).Nodup) (ap: ∀s∈g5 es,(Lit.int .i64 s).wf=true) (ax:es.length<=4294967296):
  Fn Tryz.prog 154 [.c (.one (.cY 208 [.p 2001 0]))] [(2001,.cells [.mp 1001]),(1001,.map ai iT es)] [] (bv ai (na (g5 es))) [(2001,.cells [.mp 1001]),(1001,.map ai iT es)]:=by
 refine⟨aw3,fun ρ F I w bW a2 c0 bd eG bZ dx=>?_⟩
 match bW,bZ with
 | [v],_=>
  obtain⟨aE,aA,e',r,hD,mv,aC⟩:=dx 0 _ v rfl rfl;have aC:r=[]:=aC;have mv:e'= .pointer (some ⟨(ρ 2001).bh,0,none⟩):=mv;subst aC mv hD aA;obtain⟨_,aE,T,gb,hD⟩:=c0 2001 _ rfl;obtain⟨x,r,hD,hx,aC⟩:=hD;have aC:r=[]:=aC;have hx:x= .map (some (ρ 1001).bh):=hx;subst aC hx hD;obtain⟨_,bU,bV,gU,aw,dy⟩:=c0 1001 _ rfl;have GT:(4294967296:Nat)<=maxLen:=by decide
  obtain⟨ju,dC,cu,pi⟩:=Mo (P:=Tryz.prog) (k:=3) aw3 gU aw dy hn ap aw0;have bx:(ρ 2001).bh < w.heap.size:=me gb
  have vd:SeqGives Fence.wide 2 Tryz.prog 208 #[.pointer (some ⟨(ρ 2001).bh,0,none⟩)] encZ (fun hd=>hd.Perm (intKeys ju)) (Maps.size ju) w:=
   AnyZI.keys_gives (ρ:=RQ) {adE with} Fence.wide _ trivial rfl aw0 (ρ 2001).bh (ρ 1001).bh es.length ju w bx (oZ gb rfl) dC
  have J:=AnyZI.sorted_in RS Fence.wide 5 trivial trivial trivial trivial rfl aw0 (T8 _) (enters_of Tryz.func200 aw3 rfl) 208 #[.pointer (some ⟨(ρ 2001).bh,0,none⟩)] trivial (enters_of Tryz.func208 aw3 rfl) _ _ ay6 ay6 _ vd;refine(callsIn_wide.1 J).mono ?_;rintro e w' ⟨v,hd,rfl,au,ga,yn,gN⟩;have aZ:cj I w (fun b=>b < w'.heap.size/\(I b\/w.heap.size<=b)) w':=fun b fW=>⟨⟨Nat.lt_of_lt_of_le (a2 b fW) gN.size,.inl fW⟩,gN.block b (a2 b fW)⟩
  refine⟨v,ρ,F,rfl,cP.oR gN,fun _ _=>rfl,_,aZ,fun b h=>⟨h.1,h.2.imp id .inr⟩,fun c ch J=>Holds.ck aZ (fun b O=>gN.block b (bd c ch J b O).1) gN.size ch (fun _ _=>rfl) (c0 c ch J),fun c ch J b O=>?_,fun c b7 ch ch' b E G=>eG c b7 ch ch' b E G,?_⟩
  .have:=bd c ch J b O;exact⟨Nat.lt_of_lt_of_le this.1 gN.size,fun h=>(by rcases h.2 with h |h;exact this.2 h;omega),.inl ⟨c,ch,J,O⟩⟩
  .have Z:hd.mergeSort (fun x y=>decide (x<=y))=na (g5 es):=Go.mergeSort_of_perm_i (au.trans pi);rw[Z] at ga;have hB:=fF.sm ga;have ve:hd.length=(na (g5 es)).length:=by rw[<-Z,List.length_mergeSort]
   rw[ve] at hB;exact(hB.zs fun i _ aG=>(ga.lt i aG).1).Mq fun b E G=>⟨E,.inr G⟩
end
end Go.Proofs.YtkfbeijmgggkmaaGreat
