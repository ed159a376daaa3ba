/-
A part of the proof of this claim: lemmas, with no condition beyond what each says.
-/
import Derived.Test.YthnboghbhgapcaaGreatZa20
set_option linter.unusedVariables false
set_option linter.unusedSimpArgs false
set_option maxRecDepth 10000
namespace Go.Proofs.YthnboghbhgapcaaGreat
open Go.RowKit Go.Proofs
section
section
variable {P:Program} {ids:List Nat} {K:a1} {B:ay} {o:Oper}
abbrev rN (f b:Nat):Value:=.func (.func f) #[.pointer (some ⟨b,0,none⟩)] #[]
def wO (b:Nat):Nat->List Nat->List MapEntry->Prop
 |_,[],es=>es=[]
 |i,f::fs,es=> ∃e r,es=e::r/\e.key= .int .i64 (i:Int)/\e.val=rN f b/\wO b (i+1) fs r
theorem wO.qN {b f:Nat}: ∀{fs:List Nat} {i:Nat} {es:List MapEntry} {e:MapEntry},wO b i fs es->e.key= .int .i64 ((i+fs.length:Nat):Int)->e.val=rN f b->wO b i (fs++[f]) (es++[e])
 | [],i,es,e,h,E,G=>by rw[show es=[] from h];exact⟨e,[],rfl,E,G,rfl⟩
 |x::fs,i,_,e,⟨b5,r,h,b4,ci,a3⟩,E,G=>by
  rw[h];exact⟨b5,r++[e],rfl,b4,ci,wO.qN a3 (by rw[E,as4,show i+(fs.length+1)=i+1+fs.length by omega]) G⟩
theorem HM {b:Nat} {k:Int}: ∀{fs:List Nat} {i:Nat} {es:List MapEntry} (j:Nat),wO b i fs es->
  ((k < (i:Int)\/((i+fs.length:Nat):Int)<=k)->Instr.findNow (.int .i64) (.int .i64 k) es j=some none)/\(∀(m:Nat) (aA:m < fs.length),k=((i+m:Nat):Int)->Instr.findNow (.int .i64) (.int .i64 k) es j=some (some (j+m,rN fs[m] b)))
 | [],i,es,j,h=>by
  rw[show es=[] from h];exact⟨fun _=>rfl,fun m aA=>absurd aA (au3 _)⟩
 |f::fs,i,_,j,⟨e,r,h,b4,ci,a3⟩=>by
  subst h;obtain⟨aB,aR,qS⟩:=MapKept.sameNow_of_keys (rS (aJ:=ak) (d:=.int .i64) rfl k) (rS (aJ:=ak) (d:=.int .i64) rfl ((i:Nat):Int));have aR:Instr.sameNow (.int .i64) (.int .i64 k) e.key=some aB:=by rw[b4];exact aR
  obtain⟨r1,r2⟩:=HM (k:=k) (j+1) a3
  by_cases ab:k=(i:Int)
  .have anx:aB=true:=qS.2 (by rw[ab]);subst anx;refine⟨fun bl=>?_,fun m aA bl=>?_⟩
   .rw[as4] at bl;omega
   .obtain rfl:m=0:=by omega
    simp[Instr.findNow,aR,ci]
  .have anz:aB=false:=by
    cases aB with
    |false=>rfl
    |true=>
     have:=qS.1 rfl;injection this with _ G
     exact absurd G ab
   subst anz;refine⟨fun bl=>?_,fun m aA bl=>?_⟩
   .simp only[Instr.findNow,aR];exact r1 (by rw[as4] at bl;omega)
   .cases m with
    |zero=>exact absurd bl ab
    |succ m=>
     have:=r2 m (by simpa using aA) (by rw[bl];omega);simp only[Instr.findNow,aR];simp only[List.getElem_cons_succ];rw[show j+(m+1)=j+1+m by omega];exact this
def yE (b:Nat) (fs:List Nat):bh where
 R:=fun _ F w p=>(∀x,F x↔x=p.bk)/\ ∃bT bU,w.heap[p.bk]? =some (.map (List.toArray bT) bU)/\wO b 0 fs bT/\lX bT bU
 cg:=fun _ F w _ w' p ⟨E,bT,bU,G,al⟩ _ bj _=>⟨E,bT,bU,(bj _ ((E _).2 rfl)).trans G,al⟩
def NH (b:Nat) (fs:List Nat) (ch:bd):Prop:=(fs=[]/\ch= .map ak .fn [])\/ch= .aG (yE b fs)
theorem NH.holds {b:Nat} {fs:List Nat} {ch:bd} (h:NH b fs ch) {ρ:Nat->bo} {I F:Nat->Prop} {w:World} {p:bo} (bl:Holds ρ I F w p ch):(yE b fs).R I F w p:=by
 rcases h with⟨rfl,rfl⟩ |rfl
 .obtain⟨E,bT,bU,G,al,aZ⟩:=bl;exact⟨E,bT,bU,G,al,aZ⟩
 .exact bl
theorem j' {T kt et:TypeId} {x i v:Operand} {c f b:Nat} (ai:o.op= .insert T x i v) (cc:P.underlying T=some (.map kt et)) (j3:P.underlying kt=some (.int .i64)) {fs:List Nat} {ch:bd} (hx:a7 K x= .c (.one (.mp c))) (ab:a7 K i= .c (.one (.d (.int .i64 (fs.length:Nat)))))
  (az:a7 K v=x3 f b) (H:ah B c=some ch) (hw:NH b fs ch) (N:Nat):bB P N ids o K B .undef ⟨[c],[],[(c,some (.aG (yE b (fs++[f]))))]⟩:=by
 have cH:x∈o.op.operands:=by rw[ai];simp[Op.operands]
 have dF:i∈o.op.operands:=by rw[ai];simp[Op.operands]
 have la:v∈o.op.operands:=by rw[ai];simp[Op.operands]
 refine bB.SN H fun K' B' g1 g2 C ρ F a w ar av f4=>?_
 obtain⟨bj,bT,bU,O,aA,c'⟩:=hw.holds (ar.holds c _ f4);have aj:=av.mp ((g1 x cH).trans hx);have ap:a.eval i= .int .i64 ((fs.length:Nat):Int):=av.int ((g1 i dF).trans ab);have bm:a.eval v=rN f b:=av.ev ((g1 v la).trans az);have qp:=fun e=>MapKept.run_checkKey (P:=P) (w:=w) j3 (rS (aJ:=ak) (d:=.int .i64) rfl ((fs.length:Nat):Int)) e 9999
 have eu:=fun o=>MapKept.run_setObj_map (P:=P) o O
 have hf:=MapKept.run_findKey (P:=P) (w:=w) j3 ((HM 0 aA).1 (.inr (by rw[Nat.zero_add];exact Int.le_refl _)));have bw:=k0 O;simp only[gF] at qp
 have aF:(Instr.mapUpdate T (.map (some (ρ c).bk)) (.int .i64 ((fs.length:Nat):Int)) (rN f b)).run P w= .ok () {w with heap:=w.heap.setIfInBounds (ρ c).bk (.map (List.toArray (bT++[⟨.int .i64 ((fs.length:Nat):Int),rN f b,bU⟩])) (bU+1))}:=by
  simp[Instr.mapUpdate,run_underlying cc,MapKept.run_getObj_map O,qp,hf,eu,Result.andThen]
 refine⟨{w with heap:=w.heap.setIfInBounds (ρ c).bk (.map (List.toArray (bT++[⟨.int .i64 ((fs.length:Nat):Int),rN f b,bU⟩])) (bU+1))},?_,uf ((bj _).2 rfl),fun I aY=>⟨bj,bT++[⟨.int .i64 ((fs.length:Nat):Int),rN f b,bU⟩],bU+1,by simp[bw],wO.qN aA (by rw[Nat.zero_add]) rfl,Oi c' _ _⟩⟩;simp only[execOp,ai,Sem.run_bind,aj,ap,bm,aF,Result.andThen_ok,Sem.run_pure]
theorem anA {aU:dd} (bn:d6 P aU) {T kt et:TypeId} {x i:Operand} {c b:Nat} (ai:o.op= .lookup T x i true) (cc:P.underlying T=some (.map kt et)) (j3:P.underlying kt=some (.int .i64)) {ti:cb} (gz:aU.find et=some ti) {fs:List Nat} (hx:a7 K x= .c (.one (.mp c))) {key:Int} (ab:a7 K i= .c (.one (.d (.int .i64 key))))
  (H:ah B c=some (.aG (yE b fs))) {m:Nat} {f:Nat} (aA:fs[m]? =some f) (NI:key=(m:Int)) (N:Nat):bB P N ids o K B (.ce [.one (.bI (rN f b)),.one (.d (.lit true))]) ⟨[c],[],[]⟩:=by
 have cH:x∈o.op.operands:=by rw[ai];simp[Op.operands]
 have dF:i∈o.op.operands:=by rw[ai];simp[Op.operands]
 obtain⟨Ch,d,bu⟩:=bn.at_ gz;obtain⟨aB,aR,mx⟩:=bu.zero;refine bB.val fun K' B' g1 g2 C ρ F a w ar av=>?_
 obtain⟨bj,bT,bU,O,vX,c'⟩:(yE b fs).R _ _ w _:=ar.holds c _ ((g2 c au7).trans H);have aj:=av.mp ((g1 x cH).trans hx);have ap:a.eval i= .int .i64 key:=av.int ((g1 i dF).trans ab);have qp:=fun e=>MapKept.run_checkKey (P:=P) (w:=w) j3 (rS (aJ:=ak) (d:=.int .i64) rfl key) e 9999
 obtain⟨aq,V⟩:=ap5.1 aA;have hf:=MapKept.run_findKey (P:=P) (w:=w) j3 ((HM (k:=key) 0 vX).2 m aq (by rw[Nat.zero_add];exact NI));rw[V] at hf;refine⟨.tuple #[rN f b,.bool true],?_,⟨[rN f b,.bool true],rfl,_,_,rfl,rfl,_,_,rfl,rfl,rfl⟩⟩
 have aF:(Instr.lookup T (.map (some (ρ c).bk)) (.int .i64 key) true).run P w= .ok (.tuple #[rN f b,.bool true]) w:=by
  simp only[gF] at qp hf;simp[Instr.lookup,run_underlying cc,MapKept.run_getObj_map O,qp,hf,Result.andThen]
 simp only[execOp,ai,Sem.run_bind,aj,ap,aF,Result.andThen_ok,Sem.run_pure]
theorem anB {aU:dd} (bn:d6 P aU) {T kt et:TypeId} {x i:Operand} {c b:Nat} (ai:o.op= .lookup T x i true) (cc:P.underlying T=some (.map kt et)) (j3:P.underlying kt=some (.int .i64)) {ti:cb} (gz:aU.find et=some ti) {fs:List Nat} (hx:a7 K x= .c (.one (.mp c))) {key:Int} (ab:a7 K i= .c (.one (.d (.int .i64 key))))
  (H:ah B c=some (.aG (yE b fs))) (NI:key < 0\/((fs.length:Nat):Int)<=key) (N:Nat):bB P N ids o K B (.ce [.one .any,.one (.d (.lit false))]) ⟨[c],[],[]⟩:=by
 have cH:x∈o.op.operands:=by rw[ai];simp[Op.operands]
 have dF:i∈o.op.operands:=by rw[ai];simp[Op.operands]
 obtain⟨Ch,d,bu⟩:=bn.at_ gz;obtain⟨aB,aR,mx⟩:=bu.zero;refine bB.val fun K' B' g1 g2 C ρ F a w ar av=>?_
 obtain⟨bj,bT,bU,O,vX,c'⟩:(yE b fs).R _ _ w _:=ar.holds c _ ((g2 c au7).trans H);have aj:=av.mp ((g1 x cH).trans hx);have ap:a.eval i= .int .i64 key:=av.int ((g1 i dF).trans ab);have B0:(zeroValue et).run P w= .ok aB w:=by simp[zeroValue,typeInfo,bu.jF,aR]
 have qp:=fun e=>MapKept.run_checkKey (P:=P) (w:=w) j3 (rS (aJ:=ak) (d:=.int .i64) rfl key) e 9999
 have hf:=MapKept.run_findKey (P:=P) (w:=w) j3 ((HM (k:=key) 0 vX).1 (by rw[Nat.zero_add];exact NI));refine⟨.tuple #[aB,.bool false],?_,⟨[aB,.bool false],rfl,_,_,rfl,trivial,_,_,rfl,rfl,rfl⟩⟩
 have aF:(Instr.lookup T (.map (some (ρ c).bk)) (.int .i64 key) true).run P w= .ok (.tuple #[aB,.bool false]) w:=by
  simp only[gF] at qp hf;simp[Instr.lookup,run_underlying cc,MapKept.run_getObj_map O,qp,hf,B0,Result.andThen]
 simp only[execOp,ai,Sem.run_bind,aj,ap,aF,Result.andThen_ok,Sem.run_pure]
end
theorem cv.mk {P:Program} {f:FuncId} {c m b:Nat} {args:List aQ} {aK:ay} {bf:List Nat} {X:Type} {res:X->aQ} {aP:X->ay} (h:cv P f (.c (.one (.ptr c 0))::args) aK bf res aP) (E:((ah aK m).isNone&& !bf.contains c&& !bf.contains m)=true) (G: ∀g,(ah (aP g) m).isNone=true):
  cv P f (.c (.one (.d (.aM (some b))))::args) (aK++[(m,.co c (e6 b))]) bf res (fun g=>aP g++[(m,.co c (e6 b))]):=by
 obtain⟨fR,h⟩:=h;simp only[vj,Bool.not_eq_true',au1] at E G;obtain⟨⟨b4,ci⟩,a3⟩:=E;have ci:=vO ci;have hr: ∀(B:ay) {e:Nat} {ch:bd},ah B e=some ch->ah (B++[(m,.co c (e6 b))]) e=some ch:=fun B {e ch} V=>by rw[iC,V]
 have one: ∀(B:ay),ah B m=none->ah (B++[(m,.co c (e6 b))]) m=some (.co c (e6 b)):=fun B hn=>by rw[iC,hn];simp[ah]
 have tl: ∀(B:ay) {e:Nat} {ch:bd},ah (B++[(m,.co c (e6 b))]) e=some ch->(ah B e=some ch)\/(ah B e=none/\e=m/\ch= .co c (e6 b)):=fun B {e ch} V=>by
  rw[iC] at V
  cases bl:ah B e with
  |some y=>rw[bl] at V;exact .inl V
  |none=>
   rw[bl] at V;simp only[ca] at V
   split at V
   .rename_i ap;injection V with V;exact .inr ⟨rfl,ap.symm,V.symm⟩
   .cases V
 refine⟨fR,fun ρ F I w bW bb cV bj eo b6 dt=>?_⟩;have aA:(ρ c).bk=b/\ ∀x,¬F m x:=cV m _ (one aK b4);have mD: ∀y,(∃e ch,ah aK e=some ch/\F e y)-> ∃e ch,ah (aK++[(m,bd.co c (e6 b))]) e=some ch/\F e y:=fun y ⟨e,ch,V,aC⟩=>⟨e,ch,hr _ V,aC⟩
 match bW,b6 with
 |v0::bW,b6=>
 have xr:v0= .pointer (some ⟨b,0,none⟩):=dt 0 _ v0 rfl rfl;refine(h ρ F I w (v0::bW) bb (fun e ch V=>cV e ch (hr _ V)) (fun e ch V=>bj e ch (hr _ V)) (fun e b5 ch ch' x V gO=>eo e b5 ch ch' x (hr _ V) (hr _ gO)) (by simpa using b6) ?_).mono ?_
 .intro i v x az hx
  match i with
  |0=>
   simp only[aq5,ap4] at az hx;subst az hx;show v0=_;rw[aA.1];exact xr
  |i+1=>exact dt (i+1) v x (by simpa using az) hx
 .rintro e w' ⟨g,x,ρ',F',rfl,cz,dl,I',i6,gA,lz,aE,h2,sa⟩;have ba: ∀{e ch},ah (aP g) e=some ch->e≠m:=fun {e ch} V ap=>by rw[ap,G g] at V;cases V
  refine⟨g,x,ρ',fun e=>if e=m then(fun _=>False) else F' e,rfl,cz.mono fun y _ aC=>mD y aC,dl,I',i6,fun y aC=>⟨(gA y aC).1,?_⟩,?_,?_,?_,sa⟩
  .rcases(gA y aC).2 with h |h |h
   .exact .inl h
   .exact .inr (.inl (mD y h))
   .exact .inr (.inr h)
  .intro e ch V;rcases tl _ V with V |⟨_,rfl,rfl⟩
   .simp only[if_neg (ba V)];exact lz e ch V
   .simp only[if_true];exact⟨by rw[dl c ci];exact aA.1,fun _ h=>h⟩
  .intro e ch V y aC;rcases tl _ V with V |⟨_,rfl,rfl⟩
   .simp only[if_neg (ba V)] at aC;obtain⟨cB,cL,gP⟩:=aE e ch V y aC;exact⟨cB,cL,gP.imp (mD y) id⟩
   .simp only[if_true] at aC
  .intro e b5 ch ch' y V gO hn aC d4;rcases tl _ V with cf |⟨_,rfl,rfl⟩
   .rcases tl _ gO with cM |⟨_,rfl,rfl⟩
    .simp only[if_neg (ba cf)] at aC;simp only[if_neg (ba cM)] at d4;exact h2 e b5 ch ch' y cf cM hn aC d4
    .simp only[if_true] at d4
   .simp only[if_true] at aC
theorem anC {P:Program} {T:Nat} {name:String} {f:Nat} (h:((P.info? T).bind fun i=>(i.methods.find? (·.name == name)).map fun m=>(m.path.isEmpty,m.func))=some (true,some (f,true))): ∃c7 m,P.info? T=some c7/\c7.methods.find? (·.name == name)=some m/\m.path= #[]/\m.func=some (f,true):=by
 cases E:P.info? T with
 |none=>rw[E] at h;cases h
 |some c7=>
  rw[E] at h
  cases G:c7.methods.find? (·.name == name) with
  |none=>simp only[Option.bind_some,G,Option.map_none] at h;cases h
  |some m=>
   simp only[Option.bind_some,G,at2,ap4,at3] at h;exact⟨c7,m,rfl,G,Array.isEmpty_iff.1 h.1,h.2⟩
theorem jV {P:Program} {ids:List Nat} {K:a1} {B:ay} {o:Oper} {f:FuncId} {c:Call} {x:Operand} {b:Nat} {aK:ay} {res:aQ} {aP:ay} {T e:Nat} {name:String} (ai:o.op= .call c) (E:c.callee= .invoke x name) (G:c.args.toList=[]) (hx:a7 K x=B5 T b)
  (aA:((P.info? T).bind fun i=>(i.methods.find? (·.name == name)).map fun m=>(m.path.isEmpty,m.func))=some (true,some (f,true))) (a8:P.underlying T=some (.pointer e)) (hf:Fn P f [.c (.one (.d (.aM (some b))))] aK [] res aP) (hP:kI B aK) (bu:mv aK [] aP=true) (N:Nat):
  bB P N ids o K B res ⟨cl aK,[],iy aK aP⟩:=by
 obtain⟨c7,m,cf,cM,eb,eA⟩:=anC aA;exact acq (fuel:=P.types.size+99) ai E G hx au9 cf cM eb eA a8 hf hP bu N
end
section
theorem anD (w:cj) (s:dB) (aa:w.bQ= .no):Fn Tryz.prog 35 [ao 1401,hX s] (cN w) [] (ae 1) (cN w):=by
 have cc:qJ w.b w.bQ= .nilIface:=by rw[aa];rfl
 refine aW [] Tryz.func35 rfl rfl rfl rfl ?_;refine⟨rfl,_,_,fun N=>QD rfl Tryz.underlying60 (by exact congrArg (fun v=>aQ.c (.one (.bI v))) cc) N,rfl,?_⟩;exact aT aH rfl rfl ac rfl
theorem anE (w:cj) (s:dB) (aa:ny w.bQ=false):Fn Tryz.prog 35 [ao 1401,hX s] (cN w) [] (ae 0) (cN {w with bQ:=.no}):=by
 obtain⟨z,U,L,bc,db,ds,es,M,lb,Q,b,bQ,bH⟩:=w
 cases bQ with
 |no=>cases aa
 |dc top base l over=>
  refine aW [5] Tryz.func35 rfl rfl rfl rfl ?_;refine⟨rfl,_,_,fun N=>pt rfl Tryz.underlying60 rfl N,rfl,?_⟩;refine⟨_,_,fun N=>jV rfl rfl rfl rfl au8 Tryz.underlying61 (amJ (z:=z) (U:=U) (L:=L) (top:=top) (base:=base) (l:=l) (over:=over) (b:=b)) (by exact ac) rfl N,rfl,?_⟩;refine au (tM (z:=z) (U:=U) (L:=L) (bc:=bc) (db:=db) (lb:=lb) (m:=bH) (es:=es) (M:=M)) ?_;refine bz [] (af.qI 1501 1001 rfl) ?_;exact aT aH rfl rfl ac rfl
 |pl top base over=>
  refine aW [5] Tryz.func35 rfl rfl rfl rfl ?_;refine⟨rfl,_,_,fun N=>pt rfl Tryz.underlying60 rfl N,rfl,?_⟩;refine⟨_,_,fun N=>jV rfl rfl rfl rfl au8 Tryz.underlying121 (amM (z:=z) (U:=U) (L:=L) (top:=top) (base:=base) (over:=over) (b:=b)) (by exact ac) rfl N,rfl,?_⟩;refine au (tM (z:=z) (U:=U) (L:=L) (bc:=bc) (db:=db) (lb:=lb) (m:=bH) (es:=es) (M:=M)) ?_;refine bz [] (af.qI 1501 1001 rfl) ?_;exact aT aH rfl rfl ac rfl
 |pu nm n rm l g over done=>
  refine aW [5] Tryz.func35 rfl rfl rfl rfl ?_;refine⟨rfl,_,_,fun N=>pt rfl Tryz.underlying60 rfl N,rfl,?_⟩;refine⟨_,_,fun N=>jV rfl rfl rfl rfl au8 Tryz.underlying62 (amO (z:=z) (U:=U) (L:=L) (nm:=nm) (n:=n) (rm:=rm) (l:=l) (g:=g) (over:=over) (done:=done) (b:=b)) (by exact ac) rfl N,rfl,?_⟩;refine au (tM (z:=z) (U:=U) (L:=L) (bc:=bc) (db:=db) (lb:=lb) (m:=bH) (es:=es) (M:=M)) ?_;refine bz [] (af.qI 1501 1001 rfl) ?_;exact aT aH rfl rfl ac rfl
theorem anF (w:cj) {top base:List UInt8} {l:List Nat} {over:Bool} (aa:w.bQ= .dc top base l over) (bb:kR w.z w.U w.L top l) (s:dB):Fn Tryz.prog 34 [ao 1401,hX s] (cN w) [] (ae (fU w.z w.L top base l over).e) (cN {w with L:=(fU w.z w.L top base l over).L,bQ:=if(fU w.z w.L top base l over).over=true then .no else .dc top base (fU w.z w.L top base l over).l (fU w.z w.L top base l over).over}):=by
 obtain⟨z,U,L,bc,db,ds,es,M,lb,Q,b,bQ,bH⟩:=w;simp only at aa;subst aa;have ax:=amI (b:=b) (base:=base) (over:=over) bb;simp only at ax⊢;generalize fU z L top base l over=r at ax⊢;have go: ∀fz,Fn Tryz.prog 67 [ao 1401] (lS z U r.L es M bc db lb 1 fz (some b) none bH) [] gI (lS z U r.L es M bc db lb 0 .nilIface none none bH):=fun fz=>tM
 cases r with
 |mk so e L' gM AO=>
 simp only at ax⊢
 cases AO with
 |true=>
  by_cases V:e=0
  .refine aW [8] Tryz.func34 rfl rfl rfl rfl ?_;refine⟨rfl,_,_,fun N=>pt rfl Tryz.underlying60 rfl N,rfl,?_⟩;refine⟨_,_,fun N=>jV rfl rfl rfl rfl au8 Tryz.underlying61 ax (by exact ac) rfl N,rfl,?_⟩;refine⟨fun _=>?_,fun h=>absurd h (by simp[V])⟩;refine⟨fun _ h=>(by cases h),fun _=>?_⟩;refine⟨_,_,fun N=>jV rfl rfl rfl rfl au8 Tryz.underlying61 (HD (z:=z) (U:=U) (L:=L') (top:=top) (base:=base) (l:=gM) (over:=true) (b:=b)) (by exact ac) rfl N,rfl,?_⟩;refine⟨fun _=>?_,fun h=>(by cases h)⟩;refine au (go _) ?_;refine bz [] (af.qI 1501 1001 rfl) ?_;exact aT aH rfl rfl ac rfl
  .refine aW [8] Tryz.func34 rfl rfl rfl rfl ?_;refine⟨rfl,_,_,fun N=>pt rfl Tryz.underlying60 rfl N,rfl,?_⟩;refine⟨_,_,fun N=>jV rfl rfl rfl rfl au8 Tryz.underlying61 ax (by exact ac) rfl N,rfl,?_⟩;refine⟨fun h=>absurd (gd h) V,fun _=>?_⟩;refine⟨_,_,fun N=>jV rfl rfl rfl rfl au8 Tryz.underlying61 (HD (z:=z) (U:=U) (L:=L') (top:=top) (base:=base) (l:=gM) (over:=true) (b:=b)) (by exact ac) rfl N,rfl,?_⟩;refine⟨fun _=>?_,fun h=>(by cases h)⟩;refine au (go _) ?_;refine bz [] (af.qI 1501 1001 rfl) ?_;exact aT aH rfl rfl ac rfl
 |false=>
  by_cases V:e=0
  .refine aW [] Tryz.func34 rfl rfl rfl rfl ?_;refine⟨rfl,_,_,fun N=>pt rfl Tryz.underlying60 rfl N,rfl,?_⟩;refine⟨_,_,fun N=>jV rfl rfl rfl rfl au8 Tryz.underlying61 ax (by exact ac) rfl N,rfl,?_⟩;refine⟨fun _=>?_,fun h=>absurd h (by simp[V])⟩;refine⟨fun _ h=>(by cases h),fun _=>?_⟩;refine⟨_,_,fun N=>jV rfl rfl rfl rfl au8 Tryz.underlying61 (HD (z:=z) (U:=U) (L:=L') (top:=top) (base:=base) (l:=gM) (over:=false) (b:=b)) (by exact ac) rfl N,rfl,?_⟩;refine⟨fun h=>(by cases h),fun _=>?_⟩;exact aT aH rfl rfl ac rfl
  .refine aW [] Tryz.func34 rfl rfl rfl rfl ?_;refine⟨rfl,_,_,fun N=>pt rfl Tryz.underlying60 rfl N,rfl,?_⟩;refine⟨_,_,fun N=>jV rfl rfl rfl rfl au8 Tryz.underlying61 ax (by exact ac) rfl N,rfl,?_⟩;refine⟨fun h=>absurd (gd h) V,fun _=>?_⟩;refine⟨_,_,fun N=>jV rfl rfl rfl rfl au8 Tryz.underlying61 (HD (z:=z) (U:=U) (L:=L') (top:=top) (base:=base) (l:=gM) (over:=false) (b:=b)) (by exact ac) rfl N,rfl,?_⟩;refine⟨fun h=>(by cases h),fun _=>?_⟩;exact aT aH rfl rfl ac rfl
theorem anG (w:cj) {top base:List UInt8} {over:Bool} (aa:w.bQ= .pl top base over) (bb:cE w.z w.U w.L) {d:aO} (J:dk w.L top=some d) (s:dB):Fn Tryz.prog 34 [ao 1401,hX s] (cN w) [] (ae (iF w.z w.L top base over).e) (cN {w with L:=(iF w.z w.L top base over).L,bQ:=if(iF w.z w.L top base over).over=true then .no else .pl top base (iF w.z w.L top base over).over}):=by
 obtain⟨z,U,L,bc,db,ds,es,M,lb,Q,b,bQ,bH⟩:=w;simp only at aa;subst aa;have ax:=amL (b:=b) (base:=base) (over:=over) bb J;simp only at ax⊢;generalize iF z L top base over=r at ax⊢;have go: ∀fz,Fn Tryz.prog 67 [ao 1401] (lS z U r.L es M bc db lb 2 fz none none bH) [] gI (lS z U r.L es M bc db lb 0 .nilIface none none bH):=fun fz=>tM
 cases r with
 |mk so e L' AO=>
 simp only at ax⊢
 cases AO with
 |true=>
  by_cases V:e=0
  .refine aW [8] Tryz.func34 rfl rfl rfl rfl ?_;refine⟨rfl,_,_,fun N=>pt rfl Tryz.underlying60 rfl N,rfl,?_⟩;refine⟨_,_,fun N=>jV rfl rfl rfl rfl au8 Tryz.underlying121 ax (by exact ac) rfl N,rfl,?_⟩;refine⟨fun _=>?_,fun h=>absurd h (by simp[V])⟩;refine⟨fun _ h=>(by cases h),fun _=>?_⟩;refine⟨_,_,fun N=>jV rfl rfl rfl rfl au8 Tryz.underlying121 (HE (z:=z) (U:=U) (L:=L') (top:=top) (base:=base) (over:=true) (b:=b)) (by exact ac) rfl N,rfl,?_⟩;refine⟨fun _=>?_,fun h=>(by cases h)⟩;refine au (go _) ?_;refine bz [] (af.qI 1501 1001 rfl) ?_;exact aT aH rfl rfl ac rfl
  .refine aW [8] Tryz.func34 rfl rfl rfl rfl ?_;refine⟨rfl,_,_,fun N=>pt rfl Tryz.underlying60 rfl N,rfl,?_⟩;refine⟨_,_,fun N=>jV rfl rfl rfl rfl au8 Tryz.underlying121 ax (by exact ac) rfl N,rfl,?_⟩;refine⟨fun h=>absurd (gd h) V,fun _=>?_⟩;refine⟨_,_,fun N=>jV rfl rfl rfl rfl au8 Tryz.underlying121 (HE (z:=z) (U:=U) (L:=L') (top:=top) (base:=base) (over:=true) (b:=b)) (by exact ac) rfl N,rfl,?_⟩;refine⟨fun _=>?_,fun h=>(by cases h)⟩;refine au (go _) ?_;refine bz [] (af.qI 1501 1001 rfl) ?_;exact aT aH rfl rfl ac rfl
 |false=>
  by_cases V:e=0
  .refine aW [] Tryz.func34 rfl rfl rfl rfl ?_;refine⟨rfl,_,_,fun N=>pt rfl Tryz.underlying60 rfl N,rfl,?_⟩;refine⟨_,_,fun N=>jV rfl rfl rfl rfl au8 Tryz.underlying121 ax (by exact ac) rfl N,rfl,?_⟩;refine⟨fun _=>?_,fun h=>absurd h (by simp[V])⟩;refine⟨fun _ h=>(by cases h),fun _=>?_⟩;refine⟨_,_,fun N=>jV rfl rfl rfl rfl au8 Tryz.underlying121 (HE (z:=z) (U:=U) (L:=L') (top:=top) (base:=base) (over:=false) (b:=b)) (by exact ac) rfl N,rfl,?_⟩;refine⟨fun h=>(by cases h),fun _=>?_⟩;exact aT aH rfl rfl ac rfl
  .refine aW [] Tryz.func34 rfl rfl rfl rfl ?_;refine⟨rfl,_,_,fun N=>pt rfl Tryz.underlying60 rfl N,rfl,?_⟩;refine⟨_,_,fun N=>jV rfl rfl rfl rfl au8 Tryz.underlying121 ax (by exact ac) rfl N,rfl,?_⟩;refine⟨fun h=>absurd (gd h) V,fun _=>?_⟩;refine⟨_,_,fun N=>jV rfl rfl rfl rfl au8 Tryz.underlying121 (HE (z:=z) (U:=U) (L:=L') (top:=top) (base:=base) (over:=false) (b:=b)) (by exact ac) rfl N,rfl,?_⟩;refine⟨fun h=>(by cases h),fun _=>?_⟩;exact aT aH rfl rfl ac rfl
def HN (w:cj) (nm:List UInt8) (n rm:Int) (l:List Nat) (g:List (Nat×List UInt8)) (e:Int) (w':cj):Prop:=
 (l=[]/\ ∃t:HK,vl {w with bQ:=.pu nm n rm [] g true true} g e (AN {w with bQ:=.pu nm n rm [] g true true} g t)/\w'={AN w g t with bQ:=.no})\/
 (l≠[]/\e=(ei w.z w.L nm rm l g (eQ l)).e/\w'={w with bQ:=if(ei w.z w.L nm rm l g (eQ l)).over=true then .no else .pu nm n rm (ei w.z w.L nm rm l g (eQ l)).l (ei w.z w.L nm rm l g (eQ l)).g false false})
set_option maxHeartbeats 1000000 in
theorem anH (w:cj) (aE:lo w) {nm:List UInt8} {n rm:Int} {l:List Nat} {g:List (Nat×List UInt8)} (aa:w.bQ= .pu nm n rm l g false false) (ag:fk w.z w.U w.L nm l g) (qc:gp (dH w.bH.fZ)=true) (s:dB):
  cv Tryz.prog 34 [ao 1401,hX s] (cN w) [] (X:=mV (HN w nm n rm l g)) (fun p=>ae p.1.1) (fun p=>cN p.1.2):=by
 have ax:=amN (b:=w.b) (n:=n) (rm:=rm) (over:=false) (done:=false) ag
 by_cases aq:l=[]
 .have V:i1 w.z w.L nm rm l g false false=⟨true,0,[],g,true,true⟩:=by unfold i1;rw[if_neg au6,if_pos aq]
  rw[V] at ax;simp only at ax;have Dm:=anw {w with bQ:=.pu nm n rm [] g true true} ⟨aE.cs,aE.kd,aE.ds,aE.d5,aE.q,aE.nx,aE.ec⟩ rfl ag.nil qc;obtain⟨z,U,L,bc,db,ds,es,M,lb,Q,b,bQ,bH⟩:=w;simp only at aa;subst aa;refine hD [5,6,8] Tryz.func34 rfl rfl rfl rfl ?_;refine⟨rfl,_,_,fun N=>pt rfl Tryz.underlying60 rfl N,rfl,?_⟩;refine⟨_,_,fun N=>jV rfl rfl rfl rfl au8 Tryz.underlying62 ax (by exact ac) rfl N,rfl,?_⟩;refine eO ?_;refine⟨fun _ _=>?_,fun h=>(by cases h)⟩;refine au (Wj (z:=z) (U:=U) (L:=L) (nm:=nm) (n:=n) (rm:=rm) (l:=[]) (g:=g) (over:=true) (done:=true) (b:=b)) ?_;refine⟨fun _=>?_,fun h=>(by cases h)⟩;refine bt.h3 eN au8 ?_;refine⟨_,_,_,fun g=>_,fun g=>_,Dm,ac,rfl,fun _=>rfl,fun x=>?_⟩;obtain⟨⟨aj,t⟩,hx⟩:=x;refine bz [8] (aH) ?_;refine⟨_,_,fun N=>jV rfl rfl rfl rfl au8 Tryz.underlying62 (Nu (z:=z) (U:=U) (L:=L) (nm:=nm) (n:=n) (rm:=rm) (l:=[]) (g:=g) (over:=true) (done:=true) (b:=b)) (by exact ac) rfl N,rfl,?_⟩;refine⟨fun _=>?_,fun h=>(by cases h)⟩;refine au (tM (z:=z) (U:=U) (L:=L) (bc:=bc) (db:=db) (lb:=t.2.2.2.1) (m:=pV bH g) (es:=t.2.1) (M:=t.2.2.1)) ?_;refine bz [] (af.qI 1501 1001 rfl) ?_;exact⟨⟨(aj,⟨z,U,L,bc,db,t.1,t.2.1,t.2.2.1,t.2.2.2.1,t.2.2.2.2,b,.no,pV bH g⟩),.inl ⟨aq,t,hx,Eq.refl _⟩⟩,_,_,_,aH,rfl,rfl,ac,rfl⟩
 .have V:i1 w.z w.L nm rm l g false false=⟨false,(ei w.z w.L nm rm l g (eQ l)).e,(ei w.z w.L nm rm l g (eQ l)).l,(ei w.z w.L nm rm l g (eQ l)).g,(ei w.z w.L nm rm l g (eQ l)).over,false⟩:=by unfold i1;rw[if_neg au6,if_neg aq]
  rw[V] at ax
  have DO:(ei w.z w.L nm rm l g (eQ l)).over=decide ((ei w.z w.L nm rm l g (eQ l)).e≠0):=by
   unfold ei
   split <;>rfl
  have fp: ∀W:cj,W={w with bQ:=if(ei w.z w.L nm rm l g (eQ l)).over=true then .no else .pu nm n rm (ei w.z w.L nm rm l g (eQ l)).l (ei w.z w.L nm rm l g (eQ l)).g false false}->HN w nm n rm l g (ei w.z w.L nm rm l g (eQ l)).e W:=fun W h=>.inr ⟨aq,Eq.refl _,h⟩
  obtain⟨z,U,L,bc,db,ds,es,M,lb,Q,b,bQ,bH⟩:=w;simp only at aa ax DO fp;subst aa;generalize ei z L nm rm l g (eQ l)=r at ax DO fp;obtain⟨e,gM,g2,AO⟩:=r;simp only at ax DO fp
  by_cases HO:e=0
  .obtain rfl:AO=false:=by rw[DO];simp[HO]
   refine hD [] Tryz.func34 rfl rfl rfl rfl ?_;refine⟨rfl,_,_,fun N=>pt rfl Tryz.underlying60 rfl N,rfl,?_⟩;refine⟨_,_,fun N=>jV rfl rfl rfl rfl au8 Tryz.underlying62 ax (by exact ac) rfl N,rfl,?_⟩;refine⟨fun _=>?_,fun h=>absurd HO (mu h)⟩;refine⟨fun _ _=>?_,fun h=>(by cases h)⟩;refine au (Wj (z:=z) (U:=U) (L:=L) (nm:=nm) (n:=n) (rm:=rm) (l:=gM) (g:=g2) (over:=false) (done:=false) (b:=b)) ?_;refine⟨fun h=>(by cases h),fun _=>?_⟩;refine⟨_,_,fun N=>jV rfl rfl rfl rfl au8 Tryz.underlying62 (Nu (z:=z) (U:=U) (L:=L) (nm:=nm) (n:=n) (rm:=rm) (l:=gM) (g:=g2) (over:=false) (done:=false) (b:=b)) (by exact ac) rfl N,rfl,?_⟩;refine⟨fun h=>(by cases h),fun _=>?_⟩;exact⟨⟨(e,⟨z,U,L,bc,db,ds,es,M,lb,Q,b,.pu nm n rm gM g2 false false,bH⟩),fp _ (Eq.refl _)⟩,_,_,_,aH,rfl,rfl,ac,rfl⟩
  .obtain rfl:AO=true:=by rw[DO];simp[HO]
   refine hD [8] Tryz.func34 rfl rfl rfl rfl ?_;refine⟨rfl,_,_,fun N=>pt rfl Tryz.underlying60 rfl N,rfl,?_⟩;refine⟨_,_,fun N=>jV rfl rfl rfl rfl au8 Tryz.underlying62 ax (by exact ac) rfl N,rfl,?_⟩;refine⟨fun h=>absurd (gd h) HO,fun _=>?_⟩;refine⟨_,_,fun N=>jV rfl rfl rfl rfl au8 Tryz.underlying62 (Nu (z:=z) (U:=U) (L:=L) (nm:=nm) (n:=n) (rm:=rm) (l:=gM) (g:=g2) (over:=true) (done:=false) (b:=b)) (by exact ac) rfl N,rfl,?_⟩;refine⟨fun _=>?_,fun h=>(by cases h)⟩;refine au (tM (z:=z) (U:=U) (L:=L) (bc:=bc) (db:=db) (lb:=lb) (m:=bH) (es:=es) (M:=M)) ?_;refine bz [] (af.qI 1501 1001 rfl) ?_;exact⟨⟨(e,⟨z,U,L,bc,db,ds,es,M,lb,Q,b,.no,bH⟩),fp _ (Eq.refl _)⟩,_,_,_,aH,rfl,rfl,ac,rfl⟩
end
section
theorem anI (w:cj) (s:dB) (aa:w.bQ= .no):Fn Tryz.prog 34 [ao 1401,hX s] (cN w) [] (ae 1) (cN w):=by
 have cc:qJ w.b w.bQ= .nilIface:=by rw[aa];rfl
 refine aW [] Tryz.func34 rfl rfl rfl rfl ?_;refine⟨rfl,_,_,fun N=>QD rfl Tryz.underlying60 (by exact congrArg (fun v=>aQ.c (.one (.bI v))) cc) N,rfl,?_⟩;exact aT aH rfl rfl ac rfl
theorem anJ {es:e3} {M:dN} {Q:List bM} (hf:mm es M Q) (aV:nw Q):
  Fn Tryz.prog 71 [ao 1201] [pU es M] [3001,3002] (.ce [.one (.ptr 3001 0),dw 0]) (pU es M::ln 3001 3002 Q)\/(Q=[]/\Fn Tryz.prog 71 [ao 1201] [pU es M] [] (.ce [mF,dw 181]) [pU es M]):=by
 rcases hf.ck with⟨E,G⟩ |⟨a,m,E,G,al,aZ⟩
 .exact .inr ⟨G,Fn.close (c:=1201) (bp:=nr 1201 1202 1203 4096 es M) (dv:=nr 1201 1202 1203 4096 es M) (aK:=[]) (aP:=[]) [1202,1203] (Fn.aX [(1001,1201),(1002,1202),(1003,1203)] (amp 4096 es (L:=M) E)) (fun _ _ _ _ h=>h) (fun _ _ _ _ h=>h) rfl rfl⟩
 .refine .inl ?_;have aa:=al' al aZ (by have:=NA aV.tolk;have:dq 512=255:=rfl;omega);have aq:=Fn.aX [(1001,1201),(1002,1202),(1003,1203),(2001,3001),(2002,3002)] (amm 4096 es (L:=M) E G al.ok (by rw[al.n];decide) aa (NA aV.tolk) aV.AK (fun b O=>Dk aV.tolk O) aV.len);rw[Nf] at aq;exact Fn.close (c:=1201) (bp:=nr 1201 1202 1203 4096 es M) (dv:=nr 1201 1202 1203 4096 es M) (aK:=[]) (aP:=ln 3001 3002 Q) [1202,1203] aq (fun _ _ _ _ h=>h) (fun _ _ _ _ h=>h) rfl rfl
theorem anK {es:e3} {M:dN} {Q:List bM} (hf:mm es M Q) (ks:List lQ) (ab:ks.length<=1073741824) (hg: ∀k∈ks,(mi k).length<=1073741824):
  Fn Tryz.prog 68 [ao 1201,bS lP ks] [pU es M] [] gI [pU es M]:=by
 have h:=Fn.aX [(1001,1201),(1002,1202),(1003,1203)] (alC 4096 es M 0 ks hf.bA au6 ab hg);rw[hf.ll ks] at h;exact Fn.close (c:=1201) (bp:=nr 1201 1202 1203 4096 es M) (dv:=nr 1201 1202 1203 4096 es M) (aK:=[]) (aP:=[]) [1202,1203] h (fun _ _ _ _ h=>h) (fun _ _ _ _ h=>h) rfl rfl
abbrev HP (ds:List bg):=Nat×Nat×{l:List bg//dR l/\l.map o8=(hJ ds).map qz}
abbrev HQ (w:cj) (t:HP w.ds):cj:={w with db:=t.1,lb:=t.2.1,ds:=t.2.2.1,bQ:=.no}
theorem anL (w:cj) (aE:fO w) (s:dB) (ab:s.ks.length<=1073741824) (hg: ∀k∈s.ks,(mi k).length<=1073741824):
  cv Tryz.prog 36 [ao 1401,hX s] (cN w) [] (X:=HP w.ds) (fun _=>ae 0) (fun t=>cN (HQ w t)):=by
 have NJ:=anK aE.nx s.ks ab hg;have o4:Fn Tryz.prog 70 [dn w.db,.c (.one (.d (.lit false)))] [Np w] [] (bS .u8 (qy false w.ds)) [Np w]:=Fn.arg (Fn.m8 (b:=w.db) [1002,1003,1004] 1101 (UX aE.ds false)) ac;have x':=cv.aX [(1001,4001),(1002,4002),(1003,4003),(1004,4004)] (akR aE.ds fun e V=>(aE.d5 e V).1);have AP:=anJ aE.nx aE.q;obtain⟨z,U,L,bc,db,ds,es,M,lb,Q,ew,bQ,bH⟩:=w;simp only at NJ o4 x' AP;rcases AP with AP |⟨Bz,AP⟩
 .refine hD [3,4,8] Tryz.func36 rfl rfl rfl rfl ?_;refine⟨rfl,au (tM (z:=z) (U:=U) (L:=L) (bc:=bc) (db:=db) (lb:=lb) (m:=bH) (es:=es) (M:=M)) ?_⟩;refine au NJ ?_;refine⟨eC au8,bt.h3 eN au8 ?_⟩;refine iE o4.x fun _=>?_
  refine⟨_,_,_,fun g=>_,fun g=>_,x',trivial,rfl,fun _=>rfl,fun x=>?_⟩;obtain⟨l',pZ,p3⟩:=x;refine bt.eY (df.mark 4001 4009 rfl au6) fun b=>?_
  refine bt.le (af.vh 1401 3 4001 4009 b rfl rfl rfl) ?_;refine bt.le (af.close 4001 (j1 (en (k5 [(1001,4001),(1002,4002),(1003,4003),(1004,4004)] [])) (ej l')) (o:=rJ l') ac rfl fun I F x p h=>iA.aX [(4001,1001),(4002,1002),(4003,1003),(4004,1004)] h) ?_;refine bt.le (af.trans (af.vi 4001 4009 b rfl rfl) (af.put 1101 4001 au6 rfl rfl)) ?_;refine bz [8] (af.DD 1101 rfl) ?_;refine au AP ?_;refine da ?_;refine bt.eY (df.mark 3001 3009 rfl au6) fun b2=>?_
  refine bt.le (af.vh 1401 5 3001 3009 b2 rfl rfl rfl) ?_;refine bt.le (af.close 3001 (ln 3001 3002 Q) (o:=rK Q) ac rfl fun I F x p h=>iA.aX [(3001,1001),(3002,1002)] h) ?_;refine bt.le (af.trans (af.vi 3001 3009 b2 rfl rfl) (af.put 1301 3001 au6 rfl rfl)) ?_;refine bz [] (af.trans (af.DD 1301 rfl) (af.qI 1501 1001 rfl)) ?_;exact⟨(b,b2,⟨l',pZ,p3⟩),_,_,_,aH,rfl,rfl,ac,rfl⟩
 .subst Bz;refine hD [3,4,8] Tryz.func36 rfl rfl rfl rfl ?_;refine⟨rfl,au (tM (z:=z) (U:=U) (L:=L) (bc:=bc) (db:=db) (lb:=lb) (m:=bH) (es:=es) (M:=M)) ?_⟩;refine au NJ ?_;refine⟨eC au8,bt.h3 eN au8 ?_⟩;refine iE o4.x fun _=>?_
  refine⟨_,_,_,fun g=>_,fun g=>_,x',trivial,rfl,fun _=>rfl,fun x=>?_⟩;obtain⟨l',pZ,p3⟩:=x;refine bt.eY (df.mark 4001 4009 rfl au6) fun b=>?_
  refine bt.le (af.vh 1401 3 4001 4009 b rfl rfl rfl) ?_;refine bt.le (af.close 4001 (j1 (en (k5 [(1001,4001),(1002,4002),(1003,4003),(1004,4004)] [])) (ej l')) (o:=rJ l') ac rfl fun I F x p h=>iA.aX [(4001,1001),(4002,1002),(4003,1003),(4004,1004)] h) ?_;refine bt.le (af.trans (af.vi 4001 4009 b rfl rfl) (af.put 1101 4001 au6 rfl rfl)) ?_;refine bz [8] (af.DD 1101 rfl) ?_;refine au AP ?_;refine eO ?_;refine au (Fn.aX [(1001,3001),(1002,3002)] L9) ?_;refine bt.eY (df.mark 3001 3009 rfl au6) fun b2=>?_
  refine bt.le (af.vh 1401 5 3001 3009 b2 rfl rfl rfl) ?_;refine bt.le (af.close 3001 (ln 3001 3002 []) (o:=rK []) ac rfl fun I F x p h=>iA.aX [(3001,1001),(3002,1002)] h) ?_;refine bt.le (af.trans (af.vi 3001 3009 b2 rfl rfl) (af.put 1301 3001 au6 rfl rfl)) ?_;refine bz [] (af.trans (af.DD 1301 rfl) (af.qI 1501 1001 rfl)) ?_;exact⟨(b,b2,⟨l',pZ,p3⟩),_,_,_,aH,rfl,rfl,ac,rfl⟩
end
section
abbrev jj:List Nat:=[26,27,28,29,30,31,32,33,34,35,36,37]
theorem anM (w:cj) (s:dB) (ab:s.kd < 0\/12<=s.kd):Fn Tryz.prog 8 [ao 1401,hX s] (cN w) [] (ae 1) (cN w):=by
 refine aW [1] Tryz.func8 rfl rfl rfl rfl ?_;refine⟨rfl,bt.eY (df.mark 1401 1409 rfl au6) fun b=>?_⟩;refine bz [] (aH) ?_;refine⟨rfl,_,_,fun N=>jz (m:=1409) (b:=b) rfl rfl rfl N,rfl,?_⟩;refine⟨_,_,fun N=>j' (fs:=jj.take 0) rfl Tryz.underlying78 Tryz.underlying3 rfl rfl rfl rfl (.inl ⟨rfl,rfl⟩) N,rfl,?_⟩;refine⟨_,_,fun N=>jz (m:=1409) (b:=b) rfl rfl rfl N,rfl,?_⟩;refine⟨_,_,fun N=>j' (fs:=jj.take 1) rfl Tryz.underlying78 Tryz.underlying3 rfl rfl rfl rfl (.inr rfl) N,rfl,?_⟩;refine⟨_,_,fun N=>jz (m:=1409) (b:=b) rfl rfl rfl N,rfl,?_⟩;refine⟨_,_,fun N=>j' (fs:=jj.take 2) rfl Tryz.underlying78 Tryz.underlying3 rfl rfl rfl rfl (.inr rfl) N,rfl,?_⟩;refine⟨_,_,fun N=>jz (m:=1409) (b:=b) rfl rfl rfl N,rfl,?_⟩;refine⟨_,_,fun N=>j' (fs:=jj.take 3) rfl Tryz.underlying78 Tryz.underlying3 rfl rfl rfl rfl (.inr rfl) N,rfl,?_⟩;refine⟨_,_,fun N=>jz (m:=1409) (b:=b) rfl rfl rfl N,rfl,?_⟩;refine⟨_,_,fun N=>j' (fs:=jj.take 4) rfl Tryz.underlying78 Tryz.underlying3 rfl rfl rfl rfl (.inr rfl) N,rfl,?_⟩;refine⟨_,_,fun N=>jz (m:=1409) (b:=b) rfl rfl rfl N,rfl,?_⟩;refine⟨_,_,fun N=>j' (fs:=jj.take 5) rfl Tryz.underlying78 Tryz.underlying3 rfl rfl rfl rfl (.inr rfl) N,rfl,?_⟩;refine⟨_,_,fun N=>jz (m:=1409) (b:=b) rfl rfl rfl N,rfl,?_⟩;refine⟨_,_,fun N=>j' (fs:=jj.take 6) rfl Tryz.underlying78 Tryz.underlying3 rfl rfl rfl rfl (.inr rfl) N,rfl,?_⟩;refine⟨_,_,fun N=>jz (m:=1409) (b:=b) rfl rfl rfl N,rfl,?_⟩;refine⟨_,_,fun N=>j' (fs:=jj.take 7) rfl Tryz.underlying78 Tryz.underlying3 rfl rfl rfl rfl (.inr rfl) N,rfl,?_⟩;refine⟨_,_,fun N=>jz (m:=1409) (b:=b) rfl rfl rfl N,rfl,?_⟩;refine⟨_,_,fun N=>j' (fs:=jj.take 8) rfl Tryz.underlying78 Tryz.underlying3 rfl rfl rfl rfl (.inr rfl) N,rfl,?_⟩;refine⟨_,_,fun N=>jz (m:=1409) (b:=b) rfl rfl rfl N,rfl,?_⟩;refine⟨_,_,fun N=>j' (fs:=jj.take 9) rfl Tryz.underlying78 Tryz.underlying3 rfl rfl rfl rfl (.inr rfl) N,rfl,?_⟩;refine⟨_,_,fun N=>jz (m:=1409) (b:=b) rfl rfl rfl N,rfl,?_⟩;refine⟨_,_,fun N=>j' (fs:=jj.take 10) rfl Tryz.underlying78 Tryz.underlying3 rfl rfl rfl rfl (.inr rfl) N,rfl,?_⟩;refine⟨_,_,fun N=>jz (m:=1409) (b:=b) rfl rfl rfl N,rfl,?_⟩;refine⟨_,_,fun N=>j' (fs:=jj.take 11) rfl Tryz.underlying78 Tryz.underlying3 rfl rfl rfl rfl (.inr rfl) N,rfl,?_⟩;refine⟨_,_,fun N=>anB eN (fs:=jj) rfl Tryz.underlying78 Tryz.underlying3 rfl rfl rfl rfl ab N,rfl,?_⟩;exact aT aH rfl rfl ac rfl
theorem rO (w:cj) (s:dB) {R:Int->cj->Prop} {k f:Nat} (ab:s.kd=(k:Int)) (hf:jj[k]? =some f) (H:cv Tryz.prog f [ao 1401,hX s] (cN w) [] (X:=mV R) (fun p=>ae p.1.1) (fun p=>cN p.1.2)):
  cv Tryz.prog 8 [ao 1401,hX s] (cN w) [] (X:=mV R) (fun p=>ae p.1.1) (fun p=>cN p.1.2):=by
 refine hD [1,5] Tryz.func8 rfl rfl rfl rfl ?_;refine⟨rfl,bt.eY (df.mark 1401 1409 rfl au6) fun b=>?_⟩;refine bz [5] (aH) ?_;refine⟨rfl,_,_,fun N=>jz (m:=1409) (b:=b) rfl rfl rfl N,rfl,?_⟩;refine⟨_,_,fun N=>j' (fs:=jj.take 0) rfl Tryz.underlying78 Tryz.underlying3 rfl rfl rfl rfl (.inl ⟨rfl,rfl⟩) N,rfl,?_⟩;refine⟨_,_,fun N=>jz (m:=1409) (b:=b) rfl rfl rfl N,rfl,?_⟩;refine⟨_,_,fun N=>j' (fs:=jj.take 1) rfl Tryz.underlying78 Tryz.underlying3 rfl rfl rfl rfl (.inr rfl) N,rfl,?_⟩;refine⟨_,_,fun N=>jz (m:=1409) (b:=b) rfl rfl rfl N,rfl,?_⟩;refine⟨_,_,fun N=>j' (fs:=jj.take 2) rfl Tryz.underlying78 Tryz.underlying3 rfl rfl rfl rfl (.inr rfl) N,rfl,?_⟩;refine⟨_,_,fun N=>jz (m:=1409) (b:=b) rfl rfl rfl N,rfl,?_⟩;refine⟨_,_,fun N=>j' (fs:=jj.take 3) rfl Tryz.underlying78 Tryz.underlying3 rfl rfl rfl rfl (.inr rfl) N,rfl,?_⟩;refine⟨_,_,fun N=>jz (m:=1409) (b:=b) rfl rfl rfl N,rfl,?_⟩;refine⟨_,_,fun N=>j' (fs:=jj.take 4) rfl Tryz.underlying78 Tryz.underlying3 rfl rfl rfl rfl (.inr rfl) N,rfl,?_⟩;refine⟨_,_,fun N=>jz (m:=1409) (b:=b) rfl rfl rfl N,rfl,?_⟩;refine⟨_,_,fun N=>j' (fs:=jj.take 5) rfl Tryz.underlying78 Tryz.underlying3 rfl rfl rfl rfl (.inr rfl) N,rfl,?_⟩;refine⟨_,_,fun N=>jz (m:=1409) (b:=b) rfl rfl rfl N,rfl,?_⟩;refine⟨_,_,fun N=>j' (fs:=jj.take 6) rfl Tryz.underlying78 Tryz.underlying3 rfl rfl rfl rfl (.inr rfl) N,rfl,?_⟩;refine⟨_,_,fun N=>jz (m:=1409) (b:=b) rfl rfl rfl N,rfl,?_⟩;refine⟨_,_,fun N=>j' (fs:=jj.take 7) rfl Tryz.underlying78 Tryz.underlying3 rfl rfl rfl rfl (.inr rfl) N,rfl,?_⟩;refine⟨_,_,fun N=>jz (m:=1409) (b:=b) rfl rfl rfl N,rfl,?_⟩;refine⟨_,_,fun N=>j' (fs:=jj.take 8) rfl Tryz.underlying78 Tryz.underlying3 rfl rfl rfl rfl (.inr rfl) N,rfl,?_⟩;refine⟨_,_,fun N=>jz (m:=1409) (b:=b) rfl rfl rfl N,rfl,?_⟩;refine⟨_,_,fun N=>j' (fs:=jj.take 9) rfl Tryz.underlying78 Tryz.underlying3 rfl rfl rfl rfl (.inr rfl) N,rfl,?_⟩;refine⟨_,_,fun N=>jz (m:=1409) (b:=b) rfl rfl rfl N,rfl,?_⟩;refine⟨_,_,fun N=>j' (fs:=jj.take 10) rfl Tryz.underlying78 Tryz.underlying3 rfl rfl rfl rfl (.inr rfl) N,rfl,?_⟩;refine⟨_,_,fun N=>jz (m:=1409) (b:=b) rfl rfl rfl N,rfl,?_⟩;refine⟨_,_,fun N=>j' (fs:=jj.take 11) rfl Tryz.underlying78 Tryz.underlying3 rfl rfl rfl rfl (.inr rfl) N,rfl,?_⟩;refine⟨_,_,fun N=>anA eN (fs:=jj) rfl Tryz.underlying78 Tryz.underlying3 rfl rfl rfl rfl hf ab N,rfl,?_⟩;refine bt.h3 eN au8 ?_;refine⟨_,_,_,fun g=>_,fun g=>_,cv.mk (m:=1409) (b:=b) H rfl (fun _=>rfl),ac,rfl,fun _=>rfl,fun x=>?_⟩;exact⟨x,_,_,_,aH,rfl,rfl,ac,rfl⟩
end
section
theorem cv.HA {P:Program} {f:FuncId} {args:List aQ} {aK:ay} {bf:List Nat} {X:Type} {res:X->aQ} {aP nR:X->ay} (h:cv P f args aK bf res aP) (G: ∀g c,ah (nR g) c=ah (aP g) c):cv P f args aK bf res nR:=by
 unfold cv at h⊢;simpa only[G] using h
structure tN (s:dB):Prop where
 b:s.b.length<=1000000
 nm:s.nm.length<=1000000
 l:s.l<=9223372036854775807
 ks:s.ks.length<=1073741824
 anN: ∀k∈s.ks,(mi k).length<=1073741824
inductive hv (w:cj) (s:dB):Int->cj->Prop where
 |Mf (h:s.kd < 0\/12<=s.kd):hv w s 1 w
 |write (h:s.kd=0):hv w s (hG w.z w.L w.bc s.a s.b).e (iP w s.a ((s.b.length:Int)/16) (hG w.z w.L w.bc s.a s.b))
 |zero (h:s.kd=1):hv w s (ma w.z w.L w.bc s.a s.l).e (iP w s.a s.l (ma w.z w.L w.bc s.a s.l))
 |WE (h:s.kd=2) (aA:wL w.bQ=true):hv w s 143 w
 |WF (h:s.kd=2) (aA:wL w.bQ=false):hv w s (mN w.L w.bc s.a s.l).e (iP w s.a s.l (mN w.L w.bc s.a s.l))
 |busy (h:s.kd=3\/(5<=s.kd/\s.kd<=7)) (aa:ny w.bQ=false):hv w s 143 w
 |over (h:s.kd=3) (aa:w.bQ= .no) {e:Int} {w':cj} (aF:Wr w s e w'):hv w s e w'
 |eK (h:s.kd=4) (l':List bg) (aF:(n3 ((eF w*2 ^w.z:Nat):Int) s.a=true/\DL w.ds s.nm true true ((eF w*2 ^w.z:Nat):Int) s.a [] l')\/(n3 ((eF w*2 ^w.z:Nat):Int) s.a=false/\l'=w.ds)):hv w s (HI w s) {w with ds:=l'}
 |merge (h:s.kd=5) (aa:w.bQ= .no) {e:Int} {w':cj} (aF:Ws w e w'):hv w s e w'
 |pull (h:s.kd=6) (aa:w.bQ= .no) {e:Int} {w':cj} (aF:Wt w s e w'):hv w s e w'
 |push (h:s.kd=7) (aa:w.bQ= .no) {e:Int} {w':cj} (aF:NG w s e w'):hv w s e w'
 |Ab (h:s.kd=8) (aa:w.bQ= .no):hv w s 1 w
 |NK (h:s.kd=8) {top base:List UInt8} {l:List Nat} (aa:w.bQ= .dc top base l false):hv w s (fU w.z w.L top base l false).e {w with L:=(fU w.z w.L top base l false).L,bQ:=if(fU w.z w.L top base l false).over=true then .no else .dc top base (fU w.z w.L top base l false).l (fU w.z w.L top base l false).over}
 |NL (h:s.kd=8) {top base:List UInt8} (aa:w.bQ= .pl top base false):hv w s (iF w.z w.L top base false).e {w with L:=(iF w.z w.L top base false).L,bQ:=if(iF w.z w.L top base false).over=true then .no else .pl top base (iF w.z w.L top base false).over}
 |NM (h:s.kd=8) {nm:List UInt8} {n rm:Int} {l:List Nat} {g:List (Nat×List UInt8)} (aa:w.bQ= .pu nm n rm l g false false) {e:Int} {w':cj} (aF:HN w nm n rm l g e w'):hv w s e w'
 |WG (h:s.kd=9) (aa:w.bQ= .no):hv w s 1 w
 |WH (h:s.kd=9) (aa:ny w.bQ=false):hv w s 0 {w with bQ:=.no}
 |ll (h:s.kd=10) (t:HP w.ds):hv w s 0 (HQ w t)
 |drop (h:s.kd=11) {e:Int} {w':cj} (aF:Wx w s e w'):hv w s e w'
theorem cv.lp {P:Program} {f:FuncId} {args:List aQ} {aK:ay} {bf:List Nat} {R R':Int->cj->Prop} (h:cv P f args aK bf (X:=mV R) (fun p=>ae p.1.1) (fun p=>cN p.1.2)) (fp: ∀e w',R e w'->R' e w'):cv P f args aK bf (X:=mV R') (fun p=>ae p.1.1) (fun p=>cN p.1.2):=
 h.to (fun p=>⟨p.1,fp _ _ p.2⟩) (fun _=>rfl) (fun _=>rfl)
theorem Fn.lp {P:Program} {f:FuncId} {args:List aQ} {aK:ay} {bf:List Nat} {R':Int->cj->Prop} {e:Int} {w':cj} (h:Fn P f args aK bf (ae e) (cN w')) (fp:R' e w'):cv P f args aK bf (X:=mV R') (fun p=>ae p.1.1) (fun p=>cN p.1.2):=
 h.x.to (fun _=>⟨(e,w'),fp⟩) (fun _=>rfl) (fun _=>rfl)
theorem tO {j:jU} (h:ny j=true):j= .no:=by
 cases j with
 |no=>rfl
 |_=>cases h
theorem HR (w:cj) (aE:fO w) (s:dB) (ax:tN s):cv Tryz.prog 8 [ao 1401,hX s] (cN w) [] (X:=mV (hv w s)) (fun p=>ae p.1.1) (fun p=>cN p.1.2):=by
 by_cases O:s.kd < 0\/12<=s.kd
 .exact(anM w s O).lp (.Mf O)
 have H:s.kd=0\/s.kd=1\/s.kd=2\/s.kd=3\/s.kd=4\/s.kd=5\/s.kd=6\/s.kd=7\/s.kd=8\/s.kd=9\/s.kd=10\/s.kd=11:=by omega
 rcases H with h |h |h |h |h |h |h |h |h |h |h |h
 .exact rO w s (k:=0) h rfl ((amY w aE s ax.b).lp (.write h))
 .exact rO w s (k:=1) h rfl ((amZ w aE s ax.l).lp (.zero h))
 .refine rO w s (k:=2) h rfl ?_
  cases aA:wL w.bQ with
  |true=>exact(Wp w aE s ax.l ⟨143,w.L⟩ (by rw[aA];rfl) w (by rw[aA];rfl)).lp (.WE h aA)
  |false=>exact(Wp w aE s ax.l (mN w.L w.bc s.a s.l) (by rw[aA];rfl) _ (by rw[aA];rfl)).lp (.WF h aA)
 .refine rO w s (k:=3) h rfl ?_
  cases aa:ny w.bQ with
  |false=>exact(am1 w s aa).lp (.busy (.inl h) aa)
  |true=>exact(am2 w aE s (tO aa) ax.nm).lp fun e w' aF=>.over h (tO aa) aF
 .refine rO w s (k:=4) h rfl ?_
  exact((am9 w aE s ax.nm).amA.HA (nR:=fun g=>cN {w with ds:=g.1}) fun g c=>by
   simp only[ca]
   by_cases E:1001=c
   .subst E;rfl
   .rw[if_neg E,if_neg E]).to (fun g=>⟨(_,_),.eK h g.1 g.2⟩) (fun _=>rfl) (fun _=>rfl)
 .refine rO w s (k:=5) h rfl ?_
  cases aa:ny w.bQ with
  |false=>exact(am3 w s aa).lp (.busy (.inr au5) aa)
  |true=>exact(am6 w aE s (tO aa)).lp fun e w' aF=>.merge h (tO aa) aF
 .refine rO w s (k:=6) h rfl ?_
  cases aa:ny w.bQ with
  |false=>exact(am4 w s aa).lp (.busy (.inr au5) aa)
  |true=>exact(am7 w aE s (tO aa)).lp fun e w' aF=>.pull h (tO aa) aF
 .refine rO w s (k:=7) h rfl ?_
  cases aa:ny w.bQ with
  |false=>exact(am5 w s aa).lp (.busy (.inr au5) aa)
  |true=>exact(ank w aE s (tO aa) ax.nm).lp fun e w' aF=>.push h (tO aa) aF
 .refine rO w s (k:=8) h rfl ?_;have kQ:=aE.bQ
  cases aa:w.bQ with
  |no=>exact(anI w s aa).lp (.Ab h aa)
  |dc top base l over=>
   rw[aa] at kQ;obtain⟨rfl,rfl,bb⟩:=kQ;exact(anF w aa bb s).lp (.NK h aa)
  |pl top base over=>
   rw[aa] at kQ;obtain⟨rfl,rfl⟩:=kQ;obtain⟨d,J⟩:=as8.1 aE.kd;exact(anG w aa aE.cs J s).lp (.NL h aa)
  |pu nm n rm l g over done=>
   rw[aa] at kQ;obtain⟨rfl,rfl,rfl,_,ag⟩:=kQ;exact(anH w aE.tolo aa ag (aE.rx (by rw[aa];rfl)) s).lp fun e w' aF=>.NM h aa aF
 .refine rO w s (k:=9) h rfl ?_
  cases aa:ny w.bQ with
  |false=>exact(anE w s aa).lp (.WH h aa)
  |true=>exact(anD w s (tO aa)).lp (.WG h (tO aa))
 .exact rO w s (k:=10) h rfl ((anL w aE s ax.ks ax.anN).to (fun t=>⟨(0,HQ w t),.ll h t⟩) (fun _=>rfl) (fun _=>rfl))
 .exact rO w s (k:=11) h rfl ((anb w aE s).lp fun e w' aF=>.drop h aF)
end
section
theorem WI (es:List (Z ak×Z ak)) (f k:Int): ∀n:Nat,iG (sz es f n) k=if f<=k/\k < f+(n:Int) then true else iG es k
 |0=>by
  rw[if_neg au5];rfl
 |n+1=>by
  have br:=WI es f k n;have h:=zr (aJ:=ak) (aL:=ak) q' (f+(n:Int)) (1:Int) (sz es f n);show CT ((b0 (aJ:=ak) (aL:=ak) (dr (aJ:=ak) (aL:=ak) (sz es f n) (f+(n:Int)) (1:Int)) k).getD (cK ak))=_
  by_cases e:k=f+(n:Int)
  .rw[e,h.1,if_pos au5];rfl
  .rw[h.2 k e];refine br.trans ?_
   by_cases G:f<=k/\k < f+n
   .rw[if_pos G,if_pos au5]
   .rw[if_neg G,if_neg au5]
theorem WJ {es:List (Z ak×Z ak)} (V:eZ es) (f k:Int): ∀n:Nat,iG (uS es f n) k=if f<=k/\k < f+(n:Int) then false else iG es k
 |0=>by
  rw[if_neg au5];rfl
 |n+1=>by
  have br:=WJ V f k n;have h:=BX (aJ:=ak) (aL:=ak) q' (f+(n:Int)) (uS es f n) (Gz V f n);show CT ((b0 (aJ:=ak) (aL:=ak) (gG (aJ:=ak) (aL:=ak) (uS es f n) (f+(n:Int))) k).getD (cK ak))=_
  by_cases e:k=f+(n:Int)
  .rw[e,h.1,if_pos au5];rfl
  .rw[h.2 k e];refine br.trans ?_
   by_cases G:f<=k/\k < f+n
   .rw[if_pos G,if_pos au5]
   .rw[if_neg G,if_neg au5]
theorem j9.set {s g:Int} {es:List (Z ak×Z ak)} (h:j9 s g es) (ax:0<=s/\s<=4096) (a6:1<=g/\g<=64) (fr bJ:Int):j9 s g (nj s g es fr bJ):=fun aB aR=>by
 by_cases az:x1 s fr bJ
 .have e:nj s g es fr bJ=sz es (fr/g) ((if bJ=0 then 0 else(fr+bJ+g - 1)/g) - fr/g).toNat:=if_pos az;obtain⟨kH,v2,v3,v4⟩:=az;have dY:0<=fr/g:=au4 v2 au5
  have gY:(if bJ=0 then 0 else(fr+bJ+g - 1)/g)<=me s g:=by
   split
   .exact(x8 ax a6).1
   .exact Int.ediv_le_ediv au5 au5
  have aw:=(x8 ax a6).1;rw[e,WI] at aR;generalize(if bJ=0 then 0 else(fr+bJ+g - 1)/g)=q at aR gY
  split at aR
  .omega
  .exact h aB aR
 .have e:nj s g es fr bJ=es:=if_neg az;rw[e] at aR;exact h aB aR
theorem j9.WK {s g:Int} {es:List (Z ak×Z ak)} (h:j9 s g es) (V:eZ es):j9 s g (C5 s g es):=fun aB aR=>by
 unfold C5 at aR;rw[WJ V] at aR
 split at aR
 .cases aR
 .exact h aB aR
theorem j9.nl {s g:Int} {es:List (Z ak×Z ak)} (h:j9 s g es) (ax:0<=s/\s<=4096) (a6:1<=g/\g<=64) (l:List dM):j9 s g (l.foldl (wn s g) es):=by
 induction l generalizing es with
 |nil=>exact h
 |cons x l br=>
  refine br ?_;unfold wn
  split
  .exact h.set ax a6 _ _
  .exact h
theorem j9.dc {s g:Int} {es:List (Z ak×Z ak)} (h:j9 s g es) (ax:0<=s/\s<=4096) (a6:1<=g/\g<=64) (row:List dM):j9 s g (wo s g es row):=j9.nl h ax a6 _
theorem j9.nil (s g:Int):j9 s g []:=fun aB aR=>by cases aR
theorem u2.of {e b5:bg} (h:u2 e) (E:b5.s=e.s) (G:b5.g=e.g) (al:b5.nm=e.nm) (aZ:j9 e.s e.g b5.es):u2 b5:=⟨by rw[E,G];exact h.ok,by rw[E,G];exact aZ,by rw[al];exact h.nm⟩
theorem u2.wr {e:bg} (h:u2 e) (ax:0<=e.s/\e.s<=4096) (a6:1<=e.g/\e.g<=64) (a a2:Int):u2 (kY a a2 e):=h.of rfl rfl rfl (by
 show j9 e.s e.g (if e.on=true then nj e.s e.g e.es a a2 else e.es)
 split
 .exact h.fS.set ax a6 a a2
 .exact h.fS)
theorem NN {z:Nat} {L:List aO} {nm:List UInt8} {rm a a2:Int}: ∀(ks l:List Nat) (g:List (Nat×List UInt8)),(lj z L nm rm a a2 ks l g).e=0->(lj z L nm rm a a2 ks l g).over=false
 | [],l,g=>fun _=>rfl
 |k::ks,l,g=>by
  unfold lj
  split
  .exact NN ks l g
  .split
   .exact NN ks _ _
   .rename_i h;exact fun G=>absurd G h
theorem anO {z:Nat} {L:List aO} {nm:List UInt8} {rm a a2:Int} {l:List Nat} {g:List (Nat×List UInt8)} (h:(jA z L nm rm a a2 l g false).e=0):(jA z L nm rm a a2 l g false).over=false:=by
 unfold jA at h⊢;rw[if_neg au6] at h⊢
 split at h
 .rename_i H;rw[if_pos H]
 .rename_i H;rw[if_neg H];exact NN _ _ _ h
theorem anP {z U:Nat} {L:List aO} {bc:List UInt8} {j:jU} (h:wK z U L bc j) (a a2:Int):wK z U L bc (qL z L a a2 j):=by
 cases j with
 |pu nm n rm l g over done=>
  obtain⟨rfl,rfl,rfl,E,G⟩:=h;unfold qL;simp only
  split
  .rename_i V;exact⟨rfl,anO V,rfl,E,G.ahj rm a a2 false⟩
  .trivial
 |_=>exact h
theorem wK.ry {z U:Nat} {L L':List aO} {bc t:List UInt8} {j:jU} (h:wK z U L bc j) (aq:mb L t L'):wK z U L' bc j:=by
 cases j with
 |no=>trivial
 |dc top base l over=>exact⟨h.1,h.2.1,h.2.2.ry aq⟩
 |pl top base over=>exact h
 |pu nm n rm l g over done=>exact⟨h.1,h.2.1,h.2.2.1,by rw[(aq.aS bc).1];exact h.2.2.2.1,h.2.2.2.2.ry aq⟩
theorem anQ {z U:Nat} {L:List aO} {bc:List UInt8} {j:jU} (h:wK z U L bc j) (a a2:Int):wK z U L bc (DI z L a a2 j):=by
 cases j with
 |dc top base l over=>exact⟨h.1,h.2.1,h.2.2.wr over a a2⟩
 |_=>exact h
theorem fO.NO {w:cj} (aE:fO w) (a a2:Int) (r:pH) (aq:mb w.L w.bc r.L):fO (iP w a a2 r):=by
 have aR:=aq.aS w.bc;have aa:=(anP aE.bQ a a2).ry aq;have ab:=aE.kd;have ag: ∀j,DK (DI w.z r.L a a2 j)=DK j:=fun j=>by cases j <;>rfl
 have aV: ∀j,DK (qL w.z w.L a a2 j)=true->DK j=true:=fun j h=>by
  cases j with
  |pu=>rfl
  |_=>exact h
 unfold iP
 split
 .refine⟨⟨aq.cs aE.cs,by rw[<-aR.2] at ab;exact ab,(V7 a a2).map aE.ds,fun e V=>?_,aE.q,aE.nx,fun p ag=>?_⟩,anQ aa a a2,fun h=>aE.rx (aV _ ((ag _).symm.trans h))⟩
  .obtain⟨bG,aw,rfl⟩:=ar2.1 V;obtain⟨fg,g0,_⟩:=aE.ds.ok bG aw;obtain⟨cH,dF⟩:=aE.d5 bG aw;exact⟨cH.wr fg g0 a a2,by show bG.s=((c4 r.L w.bc*2 ^w.z:Nat):Int);rw[aR.1];exact dF⟩
  .have ag:DJ a a2 (qL w.z w.L a a2 w.bQ) w.bH.ec=some p:=ag;show p.2.1=((c4 r.L w.bc*2 ^w.z:Nat):Int)/\_;rw[aR.1];unfold DJ at ag
   split at ag
   .exact aE.ec p ag
   .obtain⟨q,aV,rfl⟩:=as0.1 ag;obtain⟨kN,bD,ub⟩:=aE.ec q aV;exact⟨kN,bD,LZ ub _ _⟩
 .refine⟨⟨aq.cs aE.cs,by rw[<-aR.2] at ab;exact ab,aE.ds,fun e V=>?_,aE.q,aE.nx,fun p ag=>?_⟩,aa,fun h=>aE.rx (aV _ h)⟩
  .show _/\e.s=((c4 r.L w.bc*2 ^w.z:Nat):Int);rw[aR.1];exact aE.d5 e V
  .show p.2.1=((c4 r.L w.bc*2 ^w.z:Nat):Int)/\_;rw[aR.1];exact aE.ec p ag
end
section
theorem vm {w:cj} (h:lo w) {L':List aO} {t:List UInt8} (H:cE w.z w.U L') (ab:(dk L' t).isSome=true) (aR:c4 L' t=c4 w.L w.bc) (b:Nat) (j:jU):lo {w with L:=L',bc:=t,b:=b,bQ:=j}:=
 ⟨H,ab,h.ds,fun e V=>⟨(h.d5 e V).1,by rw[aR];exact(h.d5 e V).2⟩,h.q,h.nx,fun p ag=>by
  obtain⟨kN,bD⟩:=h.ec p ag;exact⟨by rw[aR];exact kN,bD⟩⟩
theorem anR {z U:Nat} {L:List aO} (h:cE z U L) (top base:List UInt8) (over:Bool):cE z U (iF z L top base over).L/\ ∀n,c4 (iF z L top base over).L n=c4 L n/\(dk (iF z L top base over).L n).isSome=(dk L n).isSome:=by
 unfold iF
 split
 .exact⟨h,fun _=>⟨rfl,rfl⟩⟩
 .cases sv L top base with
  |some k=>exact⟨(CL h _ _ _).cs h,fun n=>(CL h _ _ _).aS n⟩
  |none=>
   refine⟨af7 h top base,fun n=>?_⟩;show c4 (kv L top base).L n=_/\_;unfold kv
   split
   .exact⟨rfl,rfl⟩
   .split
    .exact⟨rfl,rfl⟩
    .split
     .unfold c4;rw[sq]
      cases dk L n with
      |none=>exact⟨rfl,rfl⟩
      |some d=>
       show(gq top base d).im.t.length=d.im.t.length/\_;unfold gq
       split <;>exact⟨rfl,rfl⟩
     .exact⟨rfl,rfl⟩
theorem anS {z U:Nat} {L:List aO} (h:cE z U L) (top base:List UInt8) (l:List Nat) (over:Bool): ∃t,mb L t (fU z L top base l over).L:=by
 unfold fU
 split
 .exact⟨top,.inl rfl⟩
 .split
  .exact⟨top,z7 h _ _ _⟩
  .exact⟨base,Lx h _ _ _⟩
theorem mm.AQ {es:e3} {M:dN} {Q Q':List bM} (h:mm es M Q) {b:Nat} (O:b∉M.map (·.1)):mm (ot es Q' b) ((b,ou Q' b)::M) (if pf Q'=0 then Q' else Q):=h.amW O
theorem lo.AQ {w w':cj} (h:lo w) {Q:List bM} (aV:nw Q) {e:Int} (H:wN w Q e w'):lo w':=by
 obtain⟨_,b,O,⟨V,lb,rfl⟩ |⟨V,rfl⟩⟩:=H
 .have:=h.nx.AQ (Q':=Q) O;rw[if_pos V] at this;generalize ot w.es Q b=F at this⊢;generalize ou Q b=S at this⊢;exact⟨h.cs,h.kd,h.ds,h.d5,aV,this,h.ec⟩
 .have:=h.nx.AQ (Q':=Q) O;rw[if_neg V] at this;generalize ot w.es Q b=F at this⊢;generalize ou Q b=S at this⊢;exact⟨h.cs,h.kd,h.ds,h.d5,h.q,this,h.ec⟩
theorem nw.anT {Q:List bM} (h:nw Q) (nm:List UInt8):nw (o3 Q nm):=⟨Mq h.tolk nm,h.AK.drop nm⟩
theorem nw.WL {Q:List bM} (h:nw Q) (b:bM):nw (gr Q b):=⟨h.tolk.add b,h.AK.add b⟩
theorem anU {l l':List bg} (h:l'.map o8=(hJ l).map qz) {e:bg} (V:e∈l'): ∃bG,bG∈l/\o8 e=qz bG:=by
 have:o8 e∈l'.map o8:=aq6 V;rw[h] at this;obtain⟨bG,aw,E⟩:=ar2.1 this;exact⟨bG,G' aw,E.symm⟩
theorem lo.ll {w:cj} (h:lo w) (t:HP w.ds):lo (HQ w t):=by
 obtain⟨db,lb,l',J,ag⟩:=t;refine⟨h.cs,h.kd,J,fun e V=>?_,h.q,h.nx,h.ec⟩;obtain⟨bG,aw,E⟩:=anU ag V;obtain⟨cH,dF⟩:=h.d5 bG aw;obtain⟨fg,g0,_⟩:=h.ds.ok bG aw;unfold o8 qz at E;simp only[at3] at E;obtain⟨cx,_,_,cA,dy,fa⟩:=E;refine⟨cH.of cA dy cx fun aB aR=>?_,by rw[cA];exact dF⟩;rw[fa,UZ fg g0 cH.fS] at aR;exact cH.fS aB aR
theorem fO.no {w:cj} (h:lo w) (aa:w.bQ= .no):fO w:=⟨h,by rw[aa];trivial,fun ag=>by rw[aa] at ag;cases ag⟩
theorem anV {l:List bg} {nm:List UInt8} {e:bg} (h:e∈kS l nm):e∈l:=(Ao l nm).subset h
theorem lo.f0 {w w':cj} (h:lo w) {g:List (Nat×List UInt8)} {e:Int} (aF:vl w g e w'):lo w':=by
 have aA:lo {w with bH:=pV w.bH g}:=⟨h.cs,h.kd,h.ds,h.d5,h.q,h.nx,h.ec⟩;rcases aF with⟨_,_,rfl⟩ |⟨_,e0,G,⟨_,rfl⟩ |⟨_,kZ,bD,g2,d',x,a,b,ax,ab,J,rfl⟩⟩
 .exact aA
 .exact aA.AQ (h.q.WL _) G
 .have al:=HL G;have hw:=aA.AQ (h.q.WL _) G;rw[al] at hw⊢;refine⟨hw.cs,hw.kd,J,fun e V=>?_,hw.q,hw.nx,hw.ec⟩;obtain⟨hx,_⟩:=jS ab;obtain⟨AJ,DH⟩:=h.d5 x hx;obtain⟨fg,g0,pB,_⟩:=h.ds.ok x hx;unfold HJ l9 at V;obtain⟨bG,aw,rfl⟩:=ar2.1 V
  have E:u2 bG/\bG.s=((c4 w.L w.bc*2 ^w.z:Nat):Int):=by
   rcases aq8.1 aw with aw |aw
   .obtain⟨aj,E,rfl⟩:=ar2.1 (anV aw);obtain⟨uq,vK⟩:=h.d5 aj E;obtain⟨kj,qZ,z3,_⟩:=h.ds.ok aj E
    split
    .exact⟨uq.of rfl rfl rfl (uq.fS.WK z3),vK⟩
    .exact⟨uq,vK⟩
   .obtain rfl:=aq0.1 aw;refine⟨AJ.of rfl rfl (jS ab).2.symm ((AJ.fS.WK pB).dc fg g0 _),DH⟩
  split
  .exact⟨E.1.of rfl rfl rfl E.1.fS,E.2⟩
  .exact E
theorem WM {z U:Nat} {L:List aO} {nm:List UInt8} {size:Int} {back:List UInt8} {p:Nat×Nat}:((h7 z U L nm size back p).e=0->dk L nm=none/\gp nm=true/\(h7 z U L nm size back p).L=ng L nm back p.1 p.2 (hF z size.toNat U))/\((h7 z U L nm size back p).e≠0->(h7 z U L nm size back p).L=L):=by
 unfold h7
 split
 .exact⟨fun h=>absurd h (show¬(1:Int)=0 by decide),fun _=>rfl⟩
 .rename_i aw
  split
  .exact⟨fun h=>absurd h (show¬(143:Int)=0 by decide),fun _=>rfl⟩
  .rename_i E
   split
   .exact⟨fun h=>absurd h (show¬(140:Int)=0 by decide),fun _=>rfl⟩
   .split
    .exact⟨fun h=>absurd h (show¬(142:Int)=0 by decide),fun _=>rfl⟩
    .refine⟨fun _=>⟨?_,?_,rfl⟩,fun h=>absurd rfl h⟩
     .cases J:dk L nm with
      |none=>rfl
      |some d=>exact absurd (.inl (by rw[J];rfl)) E
     .cases hn:gp nm with
      |true=>rfl
      |false=>exact absurd (by rw[hn];rfl) aw
theorem anW:eZ ([]:List (Z ak×Z ak)):=by first |exact trivial |exact List.Pairwise.nil |exact at0
theorem WN {w:cj} {s:dB} (h:rM w s=false):gp s.nm=true:=by
 unfold rM at h
 cases hn:gp s.nm with
 |true=>rfl
 |false=>rw[hn] at h;cases h
theorem fk.WO {z U:Nat} {L:List aO} {nm:List UInt8} (h:cE z U L) (ab:(dk L nm).isSome=true) (f:Nat->Bool):fk z U L nm (h8 f z (c4 L nm*2 ^z)) []:=
 ⟨h,ab,LJ f z _ _ (ap0 _),LI f z _,fun p ag=>(by cases ag),at0,fun k _ h=>(by cases h)⟩
theorem fO.step {w w':cj} (aE:fO w) {s:dB} {e:Int} (aF:hv w s e w'):fO w':=by
 cases aF with
 |Mf h=>exact aE
 |write h=>exact aE.NO _ _ _ (CL aE.cs _ _ _)
 |zero h=>exact aE.NO _ _ _ (Lg aE.cs _ _ _)
 |WE h aA=>exact aE
 |WF h aA=>exact aE.NO _ _ _ (z7 aE.cs _ _ _)
 |busy h aa=>exact aE
 |over h aa aF=>
  obtain⟨p,eD,V,⟨aw,rfl⟩ |⟨aw,rfl⟩⟩:=aF
  .obtain⟨b4,_,ci⟩:=WM.1 (V.symm.trans aw);rw[ci] at eD⊢;have J:=Gb (L:=w.L) (nm:=s.nm) (back:=w.bc) (ad:=p.1) (am:=p.2) (im:=hF w.z ((eF w:Nat):Int).toNat w.U) s.nm;rw[b4,if_pos rfl] at J;refine fO.no (vm aE.tolo eD (by rw[J];rfl) ?_ w.b w.bQ) aa;unfold c4;rw[J];exact as7
  .rw[WM.2 (fun h=>aw (V.trans h))];exact aE
 |eK h l' aF=>
  rcases aF with⟨O,J,⟨_,hn,_,_,a,b,rfl⟩ |⟨_,rfl⟩⟩ |⟨_,rfl⟩
  .refine⟨⟨aE.cs,aE.kd,J,fun e V=>?_,aE.q,aE.nx,aE.ec⟩,aE.bQ,aE.rx⟩;rcases aq8.1 V with V |V
   .exact aE.d5 e V
   .obtain rfl:=aq0.1 V;exact⟨⟨O,j9.nil _ _,hn⟩,rfl⟩
  .exact aE
  .exact aE
 |merge h aa aF=>
  obtain⟨V,⟨aw,b,rfl⟩ |⟨_,rfl⟩⟩:=aF
  .exact⟨vm aE.tolo aE.cs aE.kd rfl _ _,⟨rfl,rfl,kR.agN aE.cs (by rw[<-V];exact aw)⟩,fun ag=>by cases ag⟩
  .exact aE
 |pull h aa aF=>
  obtain⟨V,⟨aw,b,rfl⟩ |⟨_,rfl⟩⟩:=aF
  .exact⟨vm aE.tolo aE.cs aE.kd rfl _ _,⟨rfl,rfl⟩,fun ag=>by cases ag⟩
  .exact aE
 |push h aa aF=>
  rcases aF with⟨_,_,rfl⟩ |⟨hn,⟨_,⟨_,_,rfl⟩ |⟨_,_,b,rfl⟩⟩ |⟨_,_,_,rfl⟩ |⟨_,x,hx,⟨_,_,rfl⟩ |⟨_,⟨_,_,rfl⟩ |⟨_,_,b,kZ,rfl⟩⟩⟩⟩
  .exact aE
  .exact aE
  .exact⟨⟨aE.cs,aE.kd,aE.ds,aE.d5,aE.q,aE.nx,fun p ag=>by cases ag⟩,⟨rfl,rfl,rfl,rfl,fk.WO aE.cs aE.kd _⟩,fun _=>WN hn⟩
  .exact aE
  .exact aE
  .exact aE
  .exact⟨⟨aE.cs,aE.kd,aE.ds,aE.d5,aE.q,aE.nx,fun p ag=>by cases ag;exact⟨rfl,rfl,anW⟩⟩,⟨rfl,rfl,rfl,rfl,fk.WO aE.cs aE.kd _⟩,fun _=>WN hn⟩
 |Ab h aa=>exact aE
 | @NK h top base l aa=>
  have kQ:=aE.bQ;rw[aa] at kQ;obtain⟨rfl,_,bb⟩:=kQ;obtain⟨t,aq⟩:=anS aE.cs w.bc base l false;have ar:=bb.step base false;have d2:=fun j=>vm aE.tolo ar.cs ar.il (aq.aS w.bc).1 w.b j
  split
  .exact fO.no (d2 _) rfl
  .rename_i ai;exact⟨d2 _,⟨rfl,at4.2 ai,ar⟩,fun ag=>by cases ag⟩
 | @NL h top base aa=>
  have kQ:=aE.bQ;rw[aa] at kQ;obtain⟨rfl,_⟩:=kQ;obtain⟨H,aR⟩:=anR aE.cs w.bc base false;have d2:=fun j=>vm aE.tolo H (by rw[(aR w.bc).2];exact aE.kd) (aR w.bc).1 w.b j
  split
  .exact fO.no (d2 _) rfl
  .rename_i ai;exact⟨d2 _,⟨rfl,at4.2 ai⟩,fun ag=>by cases ag⟩
 | @NM h nm n rm l g aa e w' aF=>
  have kQ:=aE.bQ;rw[aa] at kQ;obtain⟨rfl,_,_,hn,bn⟩:=kQ;rcases aF with⟨rfl,t,aF,rfl⟩ |⟨aq,rfl,rfl⟩
  .have aw:lo {w with bQ:=.pu w.bc n rm [] g true true}:=vm aE.tolo aE.cs aE.kd rfl w.b _;have E:=aw.f0 aF;exact fO.no ⟨E.cs,E.kd,E.ds,E.d5,E.q,E.nx,E.ec⟩ rfl
  .have ag:=bn.LL rm (Gf aq).2.1
   split
   .exact fO.no (vm aE.tolo aE.cs aE.kd rfl w.b _) rfl
   .exact⟨vm aE.tolo aE.cs aE.kd rfl w.b _,⟨rfl,rfl,rfl,hn,ag⟩,fun _=>aE.rx (by rw[aa];rfl)⟩
 |WG h aa=>exact aE
 |WH h aa=>exact fO.no (vm aE.tolo aE.cs aE.kd rfl _ _) rfl
 |ll h t=>exact fO.no (aE.tolo.ll t) rfl
 |drop h aF=>
  rcases aF with⟨_,_,rfl⟩ |⟨_,H⟩
  .exact aE
  .have al:=HL H;have hw:=aE.tolo.AQ (aE.q.anT _) H;rw[al] at hw⊢;exact⟨hw,aE.bQ,aE.rx⟩
end
section
abbrev fo:List UInt8:=[100,105,115,107]
abbrev WP:Made:=⟨(([]:List UInt8),([]:List UInt8),(0:Int),(0:Int),([]:List j7)),[],none⟩
abbrev vn (z U:Nat) (size:Int) (p:Nat×Nat):List aO:=(h7 z U [] fo size [] p).L
abbrev anX (z U:Nat) (L:List aO):ay:=
 [(1401,.cells [.d (.int .i64 z),.d (.str fo),.ptr 1001 0,.ptr 4001 0,.ptr 1201 0,.ptr 3001 0,.d (.int .i64 0),.bI .nilIface,.bI (.pointer none),.bI (.pointer none),.d (.str []),.d (.str []),.d (.int .i64 0),.d (.int .i64 0),.d (.ck oc []),.d (.str []),.bI (.pointer none)]),
  oq z U L,pU [] [],(4001,.aG (rJ [])),(3001,.aG (rK []))]
theorem WQ (z U:Nat) (size:Int) (E:kq z 0 U=true) (G:kq z size U=true):
  cv Tryz.prog 5 [ae (z:Int),ae size,ae (U:Int)] [] [1001,1201,1401,3001,4001] (X:={p:Nat×Nat//cE z U (vn z U size p)}) (fun _=>.ce [.one (.ptr 1401 0),dw 0]) (fun p=>anX z U (vn z U size p.1)):=by
 have aA:=G;simp only[kq,vj,ar5] at aA;have eD:cE z U []:=cE.nil au5 au5
 have V:(h7 z U [] fo size [] (0,0)).e=0:=by
  unfold h7;rw[if_neg (by rw[G];decide),if_neg au6,if_neg au6,if_neg au6]
 have hn:=RR z U au5 au5;have ha:=Nx eD fo size [] au6;rw[V] at ha;have hf:=ak5 4096 au6;refine hD [2,4,5] Tryz.func5 rfl rfl rfl rfl ?_;refine au hn ?_;refine bz [4,5] (af.close 1001 (bP z U []) (o:=DG z U []) ac rfl fun I F x p h=>h) ?_;refine da ?_;refine au ha ?_;refine da ?_;refine bt.eY (df.i4 1001 rfl) fun p=>?_
 refine bz [5] (aH) ?_;refine au (Fn.aX [(1001,1201),(1002,1202)] hf) ?_;refine bz [] (af.trans (af.q8 1203 rfl) (af.close 1201 (nr 1201 1202 1203 4096 [] []) (o:=yA [] []) ac rfl fun I F x p h=>h)) ?_;refine au (Fn.aX [(1001,4001),(1002,4002),(1003,4003),(1004,4004)] TC) ?_;refine au (Fn.aX [(1001,3001),(1002,3002)] L9) ?_;refine⟨rfl,?_⟩
 exact⟨p,_,_,_,af.trans (af.close 4001 (j1 (en (k5 [(1001,4001),(1002,4002),(1003,4003),(1004,4004)] [])) (ej [])) (o:=rJ []) ac rfl fun I F x p h=>iA.aX [(4001,1001),(4002,1002),(4003,1003),(4004,1004)] h)
  (af.trans (af.close 3001 (ln 3001 3002 []) (o:=rK []) ac rfl fun I F x p h=>iA.aX [(3001,1001),(3002,1002)] h) (af.trans (af.aX 36 1401 rfl) (af.sw 1401 (l':=[.d (.int .i64 z),.d (.str fo),.ptr 1001 0,.ptr 4001 0,.ptr 1201 0,.ptr 3001 0,.d (.int .i64 0),.bI .nilIface,.bI (.pointer none),.bI (.pointer none),.d (.str []),.d (.str []),.d (.int .i64 0),.d (.int .i64 0),.d (.ck oc []),.d (.str []),.bI (.pointer none)]) rfl ac))),rfl,ac,ac,rfl⟩
end
section
def lT (k:lQ):Nat:=(mi k).length+(pd k).length
theorem NP {α:Type} (f:α->Nat): ∀(l:List α) (k:Nat),((l.take k).map f).sum<=(l.map f).sum
 | [],k=>by simp
 |a::l,0=>by simp
 |a::l,k+1=>by
  simp only[List.take_succ_cons,aq4,List.sum_cons];have:=NP f l k;omega
theorem NQ {α:Type} (f:α->Nat) {l:List α} {k:Nat} (h:k < l.length):((l.take (k+1)).map f).sum=((l.take k).map f).sum+f l[k]:=by
 rw[as1 h,as3,List.sum_append];simp
end
section
theorem WR: ∀b:List UInt8,fF (.b7 .u8) b=1+b.length
 | []=>rfl
 |x::b=>by
  have h:=WR b;show 1+(1+(List.map (fF .u8) b).sum)=_;have h:1+(List.map (fF .u8) b).sum=1+b.length:=h;rw[h,as4];omega
theorem WS: ∀b:List Int,fF (.b7 ak) b=1+b.length
 | []=>rfl
 |x::b=>by
  have h:=WS b;show 1+(1+(List.map (fF ak) b).sum)=_;have h:1+(List.map (fF ak) b).sum=1+b.length:=h;rw[h,as4];omega
theorem anY (k:lQ):fF lP k=2+lT k:=by
 have h:=WS (mi k);show(1+(pd k).length)+fF (.b7 ak) (mi k)=_;rw[h];unfold lT;omega
theorem WT: ∀l:List lQ,fF (.b7 lP) l=1+2*l.length+(l.map lT).sum
 | []=>rfl
 |k::l=>by
  have h:=WT l;show 1+(fF lP k+(List.map (fF lP) l).sum)=_;have h:1+(List.map (fF lP) l).sum=1+2*l.length+(l.map lT).sum:=h;rw[anY,as4,aq4,List.sum_cons];omega
theorem NR {α:Type} {f:α->Nat} {k:α}: ∀{l:List α},k∈l->f k<=(l.map f).sum
 | [],h=>by cases h
 |a::l,h=>by
  rw[aq4,List.sum_cons];rcases ap3.1 h with rfl |h
  .omega
  .have:=NR (f:=f) h;omega
def lq (n:Int):List UInt8:=UInt8.ofNat n.toNat::List.replicate 15 (0:UInt8)
theorem WU (n:Int) (aw:0<=n) (E:n < 256):Fn Tryz.prog 22 [kH (.d (.int .u8 n))] [] [] (bS .u8 (lq n)) []:=by
 refine aW [] Tryz.func22 rfl rfl rfl rfl ?_;refine⟨⟨rfl,au6,au6⟩,rfl,⟨au6,au6⟩,⟨⟨aw,E⟩,au6⟩,?_⟩;exact⟨_,_,_,af.dV 4 rfl,rfl,rfl,trivial,rfl⟩
abbrev ic:bx:=.bR ak (.bR ak (.bR ak (.bR (.b7 .u8) (.bR .str (.bR .str (.b7 lP))))))
abbrev ka:=Z ic
abbrev cm (x:ka):dB:=⟨x.1,x.2.1,x.2.2.1,x.2.2.2.1,x.2.2.2.2.1,x.2.2.2.2.2.1,x.2.2.2.2.2.2⟩
abbrev NS (s:dB) (v:bC):List bC:=[.d (.int .i64 s.kd),.d (.int .i64 s.a),.d (.int .i64 s.l),.d (.ck .u8 s.b),.d (.str s.nm),.d (.str s.fm),v]
abbrev WV:List bC:=[.d (.int .i64 0),.d (.int .i64 0),.d (.int .i64 0),.dD,.d (.str []),.d (.str []),.dD]
abbrev NT (s:dB) (k:Nat):a1:=[(2,.c (.one (.ptr 2 0))),(3,.c (.one (.ptr 3 0))),(20,bS lP s.ks),(21,ae (s.ks.length:Nat)),(22,ae (k:Nat))]
abbrev WW (s:dB) (k:Nat) (r:Nat):ay:=[(2,.cells WV),(3,.cells (NS s (.own r))),(r,.row 80 lP (s.ks.take k))]
theorem anZ (s:dB) (ab:s.ks.length<=1073741824):Fn Tryz.prog 9 [hX s] [] [] (hX s) []:=by
 refine aW [7] Tryz.func9 rfl rfl rfl rfl ?_;refine⟨rfl,rfl,rfl,dX [7] (X:=Nat) (fun k=>NT s k) (fun k=>WW s k 2003) (fun k=>k<=s.ks.length) (fun k=>s.ks.length - k) 0 (ap7 _) ?_ ?_⟩
 .exact af.trans (af.vG 3 6 2003 80 lP rfl rfl rfl) (af.sub ac ac)
 intro k cn;refine⟨fun H=>?_,fun H=>?_⟩
 .have H:decide ((k:Int) < (s.ks.length:Nat))=true:=H;have fd:k < s.ks.length:=by simpa using H
  refine⟨au5,s.ks[k],jv (n:=k) fd,rfl,?_⟩;have O:(s.ks.take k).length+1<=4294967296:=by rw[ap8];omega
  refine⟨O,rfl,au5,k+1,au5,au5,af.trans (af.sub (K':=NT s (k+1)) (B':=WW s (k+1) 30) ac ⟨rfl,rfl,?_,trivial⟩) (af.aX 30 2003 rfl)⟩;rw[as1 fd];rfl
 .have H:decide ((k:Int) < (s.ks.length:Nat))=false:=H;have fd:k=s.ks.length:=by simp at H;omega
  subst fd;refine bz [] (af.trans (af.sub (K':=NT s s.ks.length) (B':=[(2,.cells WV),(3,.cells (NS s (.own 2003))),(2003,.row 80 lP s.ks)]) ac ⟨rfl,rfl,congrArg (fun l=>some (bd.row 80 lP l)) aq9,trivial⟩) (af.dV 2003 rfl)) ?_;exact aT aH rfl ac trivial rfl
abbrev HS (x y aB:Int):List bC:=[.d (.int .i64 x),.d (.int .i64 y),.d (.int .i64 aB)]
abbrev NU (x y aB:Int):aQ:=.c (.agg (HS x y aB))
def vo (s:dB):Nat:=s.b.length+s.nm.length+s.fm.length
def lU (s:dB):Nat:=vo s+(s.ks.map lT).sum
def ov (l:List ka) (k:Nat):Nat:=((l.take k).map fun x=>lU (cm x)).sum
theorem WX (l:List ka) {k:Nat} (h:k < l.length):ov l (k+1)=ov l k+lU (cm l[k]):=NQ (fun x=>lU (cm x)) h
def rP (y:Int) (l:List ka):Bool:=(decide (l.length<=60)&&decide ((l.map fun x=>lU (cm x)).sum<=4000))&&(decide (y<=8)||decide (256 < y))
abbrev an0 (y:Int) (l:List ka) (k n:Nat):a1:=[(1,bS ic l),(2,ao 2),(5,ae (n:Nat)),(10,bS ic l),(11,ae (l.length:Nat)),(12,ae (k:Nat))]
abbrev an1 (y:Int) (l:List ka) (k n:Nat) (s:dB) (j:Nat):a1:=[(1,bS ic l),(2,ao 2),(5,ae (n:Nat)),(10,bS ic l),(11,ae (l.length:Nat)),(12,ae (k:Nat)),(7,ao 7),(30,bS lP s.ks),(31,ae (s.ks.length:Nat)),(32,ae (j:Nat))]
set_option maxHeartbeats 1000000 in
theorem an2 (x y aB:Int) (l:List ka) (aq:l.length<=1073741824) (cr:(l.map fun x=>lU (cm x)).sum<=1073741824) (hg: ∀o,o∈l->(cm o).ks.length<=1073741824):Fn Tryz.prog 6 [NU x y aB,bS ic l] [] [] (fI (rP y l)) []:=by
 refine aW [] Tryz.func6 rfl rfl rfl rfl ?_;refine⟨rfl,dX [] (X:=Nat) (fun k=>an0 y l k (ov l k)) (fun _=>[(2,.cells (HS x y aB))]) (fun k=>k<=l.length) (fun k=>l.length - k) 0 (ap7 _) ?_ ?_⟩
 .exact af.sub ac ac
 intro k ab;refine⟨fun h=>?_,fun h=>?_⟩
 .have cn:k < l.length:=by
   have h:decide ((k:Int) < (l.length:Int))=true:=h;simpa using h
  have HT:=NP (fun x=>lU (cm x)) l (k+1);have HT:ov l (k+1)<=(l.map fun x=>lU (cm x)).sum:=HT;rw[WX l cn] at HT;refine⟨au5,l[k],jv (n:=k) cn,?_⟩;have an3:=hg _ (ar3 cn);have jZ:=WX l cn;generalize l[k]=o at HT an3 jZ;have apw:lU (cm o)=vo (cm o)+((cm o).ks.map lT).sum:=rfl;have apx:vo (cm o)=(cm o).b.length+(cm o).nm.length+(cm o).fm.length:=rfl;refine⟨rfl,?_⟩;have cx: -9223372036854775808<=((cm o).b.length:Int)+(cm o).nm.length/\((cm o).b.length:Int)+(cm o).nm.length<=9223372036854775807:=by omega
  have cA: -9223372036854775808<=((cm o).b.length:Int)+(cm o).nm.length+(cm o).fm.length/\((cm o).b.length:Int)+(cm o).nm.length+(cm o).fm.length<=9223372036854775807:=by omega
  have dy: -9223372036854775808<=(ov l k:Int)+(((cm o).b.length:Int)+(cm o).nm.length+(cm o).fm.length)/\(ov l k:Int)+(((cm o).b.length:Int)+(cm o).nm.length+(cm o).fm.length)<=9223372036854775807:=by omega
  refine⟨cx,cA,dy,dX [] (X:=Nat) (fun j=>an1 y l k (ov l k+vo (cm o)+(((cm o).ks.take j).map lT).sum) (cm o) j) (fun _=>[(2,.cells (HS x y aB)),(7,.cells (HC (cm o)))]) (fun j=>j<=(cm o).ks.length) (fun j=>(cm o).ks.length - j) 0 (ap7 _) ?_ ?_⟩
  .have e:(ov l k:Int)+(((cm o).b.length:Int)+(cm o).nm.length+(cm o).fm.length)=((ov l k+vo (cm o)+(((cm o).ks.take 0).map lT).sum:Nat):Int):=by
    rw[List.take_zero,au0,List.sum_nil];omega
   exact af.sub ⟨rfl,rfl,e,rfl,rfl,rfl,rfl,rfl,rfl,rfl,trivial⟩ ac
  intro j aa;refine⟨fun G=>?_,fun G=>?_⟩
  .have eE:j < (cm o).ks.length:=by
    have G:decide ((j:Int) < ((cm o).ks.length:Int))=true:=G;simpa using G
   have f':=NP lT (cm o).ks (j+1);rw[NQ lT eE] at f';have apy:j < List.length o.2.2.2.2.2.2:=eE;refine⟨au5,(cm o).ks[j],jv (n:=j) eE,?_⟩;have ap:lT (cm o).ks[j]=(mi (cm o).ks[j]).length+(pd (cm o).ks[j]).length:=rfl;refine⟨rfl,?_⟩;have r1: -9223372036854775808<=((mi (cm o).ks[j]).length:Int)+(pd (cm o).ks[j]).length/\((mi (cm o).ks[j]).length:Int)+(pd (cm o).ks[j]).length<=9223372036854775807:=by omega
   have r2: -9223372036854775808<=((ov l k+vo (cm o)+(((cm o).ks.take j).map lT).sum:Nat):Int)+(((mi (cm o).ks[j]).length:Int)+(pd (cm o).ks[j]).length)/\((ov l k+vo (cm o)+(((cm o).ks.take j).map lT).sum:Nat):Int)+(((mi (cm o).ks[j]).length:Int)+(pd (cm o).ks[j]).length)<=9223372036854775807:=by omega
   refine⟨r1,r2,au5,j+1,au5,au5,af.sub ⟨rfl,rfl,?_,rfl,rfl,rfl,rfl,rfl,rfl,rfl,trivial⟩ ac⟩;show((ov l k+vo (cm o)+(((cm o).ks.take j).map lT).sum:Nat):Int)+(((mi (cm o).ks[j]).length:Int)+(pd (cm o).ks[j]).length)=_;rw[NQ lT eE];omega
  .have eE:j=(cm o).ks.length:=by
    have G:decide ((j:Int) < ((cm o).ks.length:Int))=false:=G;have al:=mu G;have an4:j<=(cm o).ks.length:=aa;exact Nat.le_antisymm an4 au5
   subst eE;rw[aq9];have hn:ov l k+vo (cm o)+((cm o).ks.map lT).sum=ov l (k+1):=by omega
   rw[hn];refine⟨au5,k+1,au5,au5,af.sub ac ac⟩
 .have cn:k=l.length:=by
   have h:decide ((k:Int) < (l.length:Int))=false:=h;simp at h;omega
  subst cn;have cc:ov l l.length=(l.map fun x=>lU (cm x)).sum:=by unfold ov;rw[aq9]
  rw[cc];have bj:rP y l=((decide (l.length<=60)&&decide ((l.map fun x=>lU (cm x)).sum<=4000))&&(decide (y<=8)||decide (256 < y))):=rfl;generalize(l.map fun x=>lU (cm x)).sum=n at*;refine⟨fun cB=>?_,fun cB=>?_⟩
  .have cB:decide (l.length<=60)=true:=aq2 (by have:=gd cB;omega);refine⟨fun cL=>?_,fun cL=>?_⟩
   .have cL:decide (n<=4000)=true:=aq2 (by have:=gd cL;omega);refine⟨fun gP=>?_,fun gP=>?_⟩
    .have gP:decide (y<=8)=true:=gP;refine⟨_,_,_,aH,rfl,(show true=rP y l from ?_),trivial,rfl⟩;rw[bj,cB,cL,gP];rfl
    .have gP:decide (y<=8)=false:=gP;refine⟨_,_,_,aH,rfl,(show decide (256 < y)=rP y l from ?_),trivial,rfl⟩;rw[bj,cB,cL,gP];rfl
   .have cL:decide (n<=4000)=false:=ar8 (by have:=mu cL;omega);refine⟨_,_,_,aH,rfl,(show false=rP y l from ?_),trivial,rfl⟩;rw[bj,cB,cL];rfl
  .have cB:decide (l.length<=60)=false:=ar8 (by have:=mu cB;omega);refine⟨_,_,_,aH,rfl,(show false=rP y l from ?_),trivial,rfl⟩;rw[bj,cB];rfl
theorem an5 {y:Int} {l:List ka} (h:rP y l=true) {x:ka} (hx:x∈l):(cm x).b.length<=4000/\(cm x).nm.length<=4000/\ ∀k∈(cm x).ks,(mi k).length<=4000:=by
 unfold rP at h;simp only[vj,ar5] at h;have E:lU (cm x)<=(l.map fun x=>lU (cm x)).sum:=NR (f:=fun x=>lU (cm x)) hx;have G:lU (cm x)=(cm x).b.length+(cm x).nm.length+(cm x).fm.length+((cm x).ks.map lT).sum:=rfl;refine⟨au5,au5,fun k ab=>?_⟩;have al:=NR (f:=lT) ab;have aZ:lT k=(mi k).length+(pd k).length:=rfl;omega
end
section
theorem hv.FI {w w':cj} {s:dB} {e:Int} (ab:s.kd=0) (h:hv w s e w'):e=(hG w.z w.L w.bc s.a s.b).e/\w'=iP w s.a ((s.b.length:Int)/16) (hG w.z w.L w.bc s.a s.b):=by
 cases h with
 |write h=>exact⟨rfl,rfl⟩
 |_=>omega
theorem hv.an6 {w w':cj} {s:dB} {e:Int} (ab:s.kd=7) (h:hv w s e w'):(ny w.bQ=false/\e=143/\w'=w)\/(w.bQ= .no/\NG w s e w'):=by
 cases h with
 |busy h aa=>exact .inl ⟨aa,rfl,rfl⟩
 |push h aa aF=>exact .inr ⟨aa,aF⟩
 |_=>omega
theorem hv.NV {w w':cj} {s:dB} {e:Int} (ab:s.kd=8) (h:hv w s e w'):(w.bQ= .no/\e=1/\w'=w)\/(∃top base l,w.bQ= .dc top base l false/\e=(fU w.z w.L top base l false).e/\w'={w with L:=(fU w.z w.L top base l false).L,bQ:=if(fU w.z w.L top base l false).over=true then .no else .dc top base (fU w.z w.L top base l false).l (fU w.z w.L top base l false).over})\/
  (∃top base,w.bQ= .pl top base false/\e=(iF w.z w.L top base false).e/\w'={w with L:=(iF w.z w.L top base false).L,bQ:=if(iF w.z w.L top base false).over=true then .no else .pl top base (iF w.z w.L top base false).over})\/
  ∃nm n rm l g,w.bQ= .pu nm n rm l g false false/\HN w nm n rm l g e w':=by
 cases h with
 |Ab h aa=>exact .inl ⟨aa,rfl,rfl⟩
 |NK h aa=>exact .inr (.inl ⟨_,_,_,aa,rfl,rfl⟩)
 |NL h aa=>exact .inr (.inr (.inl ⟨_,_,aa,rfl,rfl⟩))
 |NM h aa aF=>exact .inr (.inr (.inr ⟨_,_,_,_,_,aa,aF⟩))
 |_=>omega
def lV (p:Nat×Nat):List aO:=(hG 0 (vn 0 9 2 p) fo 0 (lq 97)).L
def wP (p:Nat×Nat):List aO:=(hG 0 (lV p) fo 0 (lq 98)).L
theorem WY (p:Nat×Nat):(hG 0 (vn 0 9 2 p) fo 0 (lq 97)).e=0:=by kernel_rfl
theorem WZ (p:Nat×Nat):(hG 0 (lV p) fo 0 (lq 98)).e=0:=by kernel_rfl
theorem an7 (p:Nat×Nat):c4 (lV p) fo=2:=by kernel_rfl
theorem an8:h8 (fun _=>true) 0 (2*2 ^0)=[0,1]:=by kernel_rfl
theorem an9 (p:Nat×Nat):lj 0 (lV p) fo 9 0 1 [0,1] [0,1] []=⟨0,[1],[(0,lq 97)],false⟩:=by kernel_rfl
theorem an' (p:Nat×Nat):jA 0 (lV p) fo 9 0 1 [0,1] [] false=⟨0,[1],[(0,lq 97)],false⟩:=by
 show lj 0 (lV p) fo 9 0 1 (o1 [0,1]) [0,1] []=_;rw[aho,an9]
theorem aoa (p:Nat×Nat):ei 0 (wP p) fo 9 [1] [(0,lq 97)] 1=⟨0,[],[(0,lq 97),(1,List.replicate 16 0)],false⟩:=by kernel_rfl
theorem aob (p:Nat×Nat):z2 0 (wP p) fo 0 1=(lq 98,0):=by kernel_rfl
def W0:List j7:=[((0:Int),lq 97),((1:Int),List.replicate 16 (0:UInt8))]
theorem aoc:n4 [(0,lq 97),(1,List.replicate 16 0)]=W0:=by
 unfold n4;rw[show gR (j6 [(0,lq 97),(1,List.replicate 16 0)])=[0,1] from rfl,Tb (m:=[0,1]) (List.Perm.refl _) au6];rfl
def rQ:bM:=([120],[],(0:Int),(2:Int),W0)
theorem W1:gx [] rQ=0:=by kernel_rfl
theorem aod:pf [rQ]=0:=by kernel_rfl
theorem aoe:uX [rQ] [120]=0:=by kernel_rfl
theorem aof:(GN [rQ] [120]).length=32/\fB (GN [rQ] [120]) 0=some 97:=⟨au8,au8⟩
abbrev f2 (z U:Nat) (size:Int) (p:Nat×Nat) (db lb:Nat):cj:=⟨z,U,vn z U size p,fo,db,[],[],[],lb,[],0,.no,WP⟩
theorem aog {z U:Nat} {size:Int} (G:kq z size U=true) (p:Nat×Nat):dk (vn z U size p) fo=some ⟨fo,[],p.1,p.2,hF z size.toNat U,none⟩:=by
 have e:vn z U size p=ng [] fo [] p.1 p.2 (hF z size.toNat U):=by
  show(h7 z U [] fo size [] p).L=_;unfold h7;rw[if_neg (by rw[G];decide),if_neg au6,if_neg au6,if_neg au6]
 rw[e,Gb];rfl
theorem mm.nil:mm [] [] []:=⟨List.Pairwise.nil,fun p h=>(by cases h),⟨fun p h=>(by cases h),at0,at0,fun p h=>(by cases h),fun p h=>(by cases h)⟩,fun p h=>(by cases h),.inl ⟨rfl,rfl⟩⟩
theorem nw.nil:nw []:=⟨⟨au6,fun b h=>(by cases h),fun k b h=>(by cases h)⟩,qF.nil⟩
theorem W2 {z U:Nat} {size:Int} (G:kq z size U=true) {p:Nat×Nat} (eD:cE z U (vn z U size p)) (db lb:Nat):fO (f2 z U size p db lb):=
 fO.no ⟨eD,by show(dk (vn z U size p) fo).isSome=true;rw[aog G];rfl,dR.nil,fun e V=>(by cases V),nw.nil,mm.nil,fun p ag=>(by cases ag)⟩ rfl
abbrev W3:dB:=⟨0,0,0,lq 97,[],[],[]⟩
abbrev NW:dB:=⟨7,0,9,[],[120],[],[]⟩
abbrev sR:dB:=⟨0,0,0,lq 98,[],[],[]⟩
abbrev W4:dB:=⟨8,0,0,[],[],[],[]⟩
theorem tN.of {s:dB} (E:s.b.length<=1000000) (G:s.nm.length<=1000000) (al:s.l<=9223372036854775807) (aZ:s.ks=[]):tN s:=⟨E,G,al,by rw[aZ];decide,by rw[aZ];exact fun k h=>(by cases h)⟩
abbrev tP:Made:=vk [120] [] 0 2 [] none
def aoh:Nat->cj->Prop
 |0,w=>w.bQ= .pu fo 2 9 [1] [(0,lq 97)] false false/\w.bH=tP/\w.Q=[]
 |1,w=>w.bQ= .pu fo 2 9 [] [(0,lq 97),(1,List.replicate 16 0)] false false/\w.bH=tP/\w.Q=[]
 |_,w=>w.bQ= .no/\w.Q=[rQ]
structure yF (p:Nat×Nat) (k:Nat) (w:cj):Prop where
 ok:fO w
 bi:w.z=0
 L:w.L=wP p
 apz:w.bc=fo
 apA:aoh k w
theorem aoi {p:Nat×Nat} {db lb:Nat} {e:Int} {w':cj} (h:hv (f2 0 9 2 p db lb) W3 e w'):e=0/\w'={f2 0 9 2 p db lb with L:=lV p}:=by
 obtain⟨rfl,rfl⟩:=h.FI rfl;refine⟨WY p,?_⟩;unfold iP;rw[if_pos (WY p)];rfl
theorem aoj {p:Nat×Nat} {db lb:Nat} {e:Int} {w':cj} (h:hv {f2 0 9 2 p db lb with L:=lV p} NW e w'):e=0/\ ∃b,w'={f2 0 9 2 p db lb with L:=lV p,b:=b,bQ:=.pu fo 2 9 [0,1] [] false false,bH:=tP}:=by
 have hn: ∀w:cj,w.Q=[]->rM w NW=false:=fun w h=>by
  unfold rM;rw[h];rfl
 rcases h.an6 rfl with⟨h,_⟩ |⟨_,h⟩
 .cases h
 .rcases h with⟨h,_⟩ |⟨_,⟨_,⟨h,_⟩ |⟨_,rfl,b,rfl⟩⟩ |⟨h,_⟩ |⟨h,_⟩⟩
  .exact absurd (h.symm.trans (hn _ rfl)) au6
  .exact absurd h au6
  .refine⟨rfl,b,?_⟩;have aR:eF {f2 0 9 2 p db lb with L:=lV p}=2:=an7 p;rw[aR,an8];rfl
  .exact absurd rfl h
  .exact absurd rfl h
theorem aok {p:Nat×Nat} {db lb b:Nat} {e:Int} {w':cj} (aE:fO {f2 0 9 2 p db lb with L:=lV p,b:=b,bQ:=.pu fo 2 9 [0,1] [] false false,bH:=tP}) (h:hv {f2 0 9 2 p db lb with L:=lV p,b:=b,bQ:=.pu fo 2 9 [0,1] [] false false,bH:=tP} sR e w'):e=0/\yF p 0 w':=by
 have d2:=aE.step h;obtain⟨rfl,rfl⟩:=h.FI rfl;have aq:(((sR.b.length:Nat):Int)/16)=1:=by decide
 have aa:qL 0 (lV p) 0 1 (.pu fo 2 9 [0,1] [] false false)= .pu fo 2 9 [1] [(0,lq 97)] false false:=by
  unfold qL;simp only[an'];rfl
 have e:iP {f2 0 9 2 p db lb with L:=lV p,b:=b,bQ:=.pu fo 2 9 [0,1] [] false false,bH:=tP} sR.a (((sR.b.length:Nat):Int)/16) (hG 0 (lV p) fo sR.a sR.b)=⟨0,9,wP p,fo,db,[],[],[],lb,[],b,.pu fo 2 9 [1] [(0,lq 97)] false false,tP⟩:=by
  unfold iP;rw[if_pos (WZ p),aq];simp only[aa];rfl
 have ap:=e▸d2;refine⟨WZ p,?_⟩;show yF p 0 (iP {f2 0 9 2 p db lb with L:=lV p,b:=b,bQ:=.pu fo 2 9 [0,1] [] false false,bH:=tP} sR.a (((sR.b.length:Nat):Int)/16) (hG 0 (lV p) fo sR.a sR.b));rw[e];exact⟨ap,rfl,rfl,rfl,rfl,rfl,rfl⟩
theorem aol {w:cj} {g:List (Nat×List UInt8)} {e:Int} {t:HK} (h:vl w g e (AN w g t)) (eG:gx w.Q (gJ w.bH g)=0) (aY:pf (gr w.Q (gJ w.bH g))=0):t.2.2.2.2=gr w.Q (gJ w.bH g)/\e=0:=by
 have key: ∀e0,wN {w with bH:=pV w.bH g} (gr w.Q (gJ w.bH g)) e e0->e0.Q=gr w.Q (gJ w.bH g)/\e=0:=fun e0 G=>by
  obtain⟨V,b,_,⟨_,lb,rfl⟩ |⟨h,_⟩⟩:=G
  .exact⟨Eq.refl _,V.trans aY⟩
  .exact absurd aY h
 rcases h with⟨h,_⟩ |⟨_,e0,G,⟨_,al⟩ |⟨_,kZ,bD,g2,d',x,a,b,_,_,_,al⟩⟩
 .exact absurd eG h
 .have:=key e0 G;exact⟨(congrArg cj.Q al).trans this.1,this.2⟩
 .have:=key e0 G;exact⟨(congrArg cj.Q al).trans this.1,this.2⟩
theorem aom {p:Nat×Nat} {k:Nat} {w w':cj} {e:Int} (bb:yF p k w) (h:hv w W4 e w'):yF p (k+1) w':=by
 have d2:=bb.ok.step h;obtain⟨aE,E,G,al,aZ⟩:=bb
 match k,aZ with
 |0,aZ=>
  obtain⟨kT,qu,wz⟩:=aZ;rcases h.NV rfl with⟨j,_⟩ |⟨_,_,_,j,_⟩ |⟨_,_,j,_⟩ |⟨nm,n,rm,l,g,j,aF⟩
  .rw[kT] at j;cases j
  .rw[kT] at j;cases j
  .rw[kT] at j;cases j
  .rw[kT] at j
   cases j
   rcases aF with⟨aq,_⟩ |⟨_,_,rfl⟩
   .cases aq
   .have aA:eQ [1]=1:=rfl;rw[E,G,aA,aoa] at d2⊢;exact⟨d2,rfl,rfl,al,rfl,qu,wz⟩
 |1,aZ=>
  obtain⟨kT,qu,wz⟩:=aZ;rcases h.NV rfl with⟨j,_⟩ |⟨_,_,_,j,_⟩ |⟨_,_,j,_⟩ |⟨nm,n,rm,l,g,j,aF⟩
  .rw[kT] at j;cases j
  .rw[kT] at j;cases j
  .rw[kT] at j;cases j
  .rw[kT] at j
   cases j
   rcases aF with⟨_,t,aF,rfl⟩ |⟨aq,_⟩
   .have O:gJ w.bH [(0,lq 97),(1,List.replicate 16 0)]=rQ:=by
     rw[qu];show([120],[],(0:Int),(2:Int),n4 [(0,lq 97),(1,List.replicate 16 0)])=rQ;rw[aoc];rfl
    have aq:gr [] rQ=[rQ]:=by
     unfold gr;rw[W1];rfl
    have:=aol aF (by show gx w.Q (gJ w.bH _)=0;rw[O,wz];exact W1) (by show pf (gr w.Q (gJ w.bH _))=0;rw[O,wz,aq];exact aod);refine⟨d2,E,G,al,rfl,this.1.trans ?_⟩;show gr w.Q (gJ w.bH _)=_;rw[O,wz,aq]
   .exact absurd rfl aq
 |k+2,aZ=>
  obtain⟨kT,qu⟩:=aZ;rcases h.NV rfl with⟨_,_,rfl⟩ |⟨_,_,_,j,_⟩ |⟨_,_,j,_⟩ |⟨nm,n,rm,l,g,j,aF⟩
  .exact⟨aE,E,G,al,kT,qu⟩
  .rw[kT] at j;cases j
  .rw[kT] at j;cases j
  .rw[kT] at j;cases j
end
section
abbrev aon (s:dB):List aQ:=[ao 1401,.c (.agg (NS s .dD))]
theorem W5 (w:cj) (aE:fO w) (s:dB) (ax:tN s) (aw:s.ks=[]):cv Tryz.prog 8 (aon s) (cN w) [] (X:=mV (hv w s)) (fun p=>ae p.1.1) (fun p=>cN p.1.2):=
 cv.arg (HR w aE s ax) ⟨rfl,⟨rfl,rfl,rfl,rfl,rfl,rfl,by rw[aw];rfl,trivial⟩,trivial⟩
abbrev aoo (s:dB):List aQ:=[ao 1401,.c (.agg [.d (.int .i64 s.kd),.d (.int .i64 s.a),.d (.int .i64 s.l),.dD,.d (.str s.nm),.d (.str s.fm),.dD])]
theorem W6 (w:cj) (aE:fO w) (s:dB) (ax:tN s) (aw:s.ks=[]) (E:s.b=[]):cv Tryz.prog 8 (aoo s) (cN w) [] (X:=mV (hv w s)) (fun p=>ae p.1.1) (fun p=>cN p.1.2):=
 cv.arg (HR w aE s ax) ⟨rfl,⟨rfl,rfl,rfl,by rw[E];rfl,rfl,rfl,by rw[aw];rfl,trivial⟩,trivial⟩
abbrev W7 (p:Nat×Nat) (db lb:Nat):cj:=⟨0,9,lV p,fo,db,[],[],[],lb,[],0,.no,WP⟩
abbrev W8 (p:Nat×Nat) (db lb b:Nat):cj:=⟨0,9,lV p,fo,db,[],[],[],lb,[],b,.pu fo 2 9 [0,1] [] false false,tP⟩
set_option maxHeartbeats 1000000 in
theorem aop:Fn Tryz.prog 7 [] [] [] (fI true) []:=by
 have hn:=WQ 0 9 2 au6 au6;refine aW [1,2,4,5,6,7,8,10,12] Tryz.func7 rfl rfl rfl rfl ?_;refine bt.h3 eN au8 ?_;refine⟨_,_,_,fun g=>_,fun g=>_,hn,trivial,rfl,fun _=>rfl,fun x=>?_⟩;obtain⟨p,eD⟩:=x;refine bt.eY (df.mark 4001 4009 rfl au6) fun db=>?_
 refine bt.le (af.trans (af.vh 1401 3 4001 4009 db rfl rfl rfl) (af.trans (af.vi 4001 4009 db rfl rfl) (af.trans (af.q8 1101 rfl) (af.put 1101 4001 au6 rfl rfl)))) ?_;refine bt.eY (df.mark 3001 3009 rfl au6) fun lb=>?_
 refine bt.le (af.trans (af.vh 1401 5 3001 3009 lb rfl rfl rfl) (af.trans (af.vi 3001 3009 lb rfl rfl) (af.trans (af.q8 1301 rfl) (af.put 1301 3001 au6 rfl rfl)))) ?_;refine bt.le (af.trans (af.vf 1401 8 rfl rfl) (af.trans (af.vf 1401 9 rfl rfl) (af.trans (af.vf 1401 16 rfl rfl) (af.trans (af.q8 1601 rfl) (af.V9 1501 1001 rfl au6))))) ?_;have aw:=W2 au6 eD db lb;have E:=W5 _ aw W3 (tN.of au6 au6 au6 rfl) rfl;refine bz [4,5,6,7,8,10,12] (cG [(1,ao 1401),(2,ae 0)] (cN (f2 0 9 2 p db lb))) ?_;refine da ?_;refine bt.h3 eN au8 ?_;refine iE ((WU 97 au6 au6).x) fun _=>?_
 refine⟨_,_,_,fun g=>_,fun g=>_,E,ac,rfl,fun _=>rfl,fun x=>?_⟩;obtain⟨⟨e,dz⟩,aF⟩:=x;have DP:=aw.step aF;obtain⟨V,hw⟩:=aoi aF;have V:e=0:=V;have hw:dz=_:=hw;subst V hw;have DP:fO (W7 p db lb):=DP;have G:=W6 _ DP NW (tN.of au6 au6 au6 rfl) rfl rfl;refine bt.le (cG [(1,ao 1401),(3,ae 0)] (cN (W7 p db lb))) ?_;refine bt.h3 eN au8 ?_;refine⟨_,_,_,fun g=>_,fun g=>_,G,ac,rfl,fun _=>rfl,fun x=>?_⟩;obtain⟨⟨e,e0⟩,r5⟩:=x;have xK:=DP.step r5;obtain⟨V,b,hw⟩:=aoj r5;have V:e=0:=V;have hw:e0=_:=hw;subst V hw;have xK:fO (W8 p db lb b):=xK;have al:=W5 _ xK sR (tN.of au6 au6 au6 rfl) rfl;refine bz [7,8,10,12] (cG [(1,ao 1401),(3,ae 0),(4,ae 0)] (cN (W8 p db lb b))) ?_;refine au (Ns (z:=0) (U:=9) (L:=lV p) (bc:=fo) (db:=db) (lb:=lb) (es:=[]) (M:=[]) (kd:=3) (fz:=qJ b (.pu fo 2 9 [0,1] [] false false)) (dc:=none) (pu:=some b) (m:=tP)) ?_;refine bt.h3 eN au8 ?_;refine iE ((WU 98 au6 au6).x) fun _=>?_
 refine⟨_,_,_,fun g=>_,fun g=>_,al,ac,rfl,fun _=>rfl,fun x=>?_⟩;obtain⟨⟨e,ij⟩,W9⟩:=x;obtain⟨V,bb⟩:=aok xK W9;have V:e=0:=V;have bb:yF p 0 ij:=bb;subst V;refine bz [10,12] (cG [(1,ao 1401),(3,ae 0),(4,ae 0),(5,ae 3),(6,ae 0)] (cN ij)) ?_;clear W9 al xK G DP E aw r5 aF;refine dX [10,12] (X:=Nat×cj) (fun x=>[(1,ao 1401),(3,ae 0),(4,ae 0),(5,ae 3),(6,ae 0),(36,ae (x.1:Nat))]) (fun x=>cN x.2) (fun x=>x.1<=3/\yF p x.1 x.2) (fun x=>3 - x.1) (0,ij) ⟨au5,bb⟩ ?_ ?_
 .exact af.sub ac ac
 rintro⟨k,w⟩ ⟨ab,bb⟩;have ab:k<=3:=ab;have bb:yF p k w:=bb;refine⟨fun h=>?_,fun h=>?_⟩
 .have h:decide ((k:Int) < 3)=true:=h;have fd:k < 3:=by have:=gd h;omega
  have iS:=W6 w bb.ok W4 (tN.of au6 au6 au6 rfl) rfl rfl;refine bt.h3 eN au8 ?_;refine⟨_,_,_,fun g=>_,fun g=>_,iS,ac,rfl,fun _=>rfl,fun x=>?_⟩;obtain⟨⟨e,w'⟩,aF⟩:=x;refine⟨au5,(k+1,w'),⟨by show k+1<=3;omega,aom bb aF⟩,by show 3 - (k+1) < 3 - k;omega,af.sub ac ac⟩
 .have h:decide ((k:Int) < 3)=false:=h;have fd:k=3:=by have:=mu h;omega
  subst fd;obtain⟨aE,aj,ap,bm,c0,fQ⟩:=bb;have aV:=aE.q.tolk;have gj:=aE.cs;obtain⟨z,U,L,bc,db,ds,es,M,lb,Q,b,bQ,bH⟩:=w;simp only at aj ap bm c0 fQ aV gj;subst aj ap bm c0 fQ;have fp:=Fn.m8 (b:=lb) [1002] 1301 (ajm aV [120]);rw[aoe] at fp;have b9:=amD (bc:=fo) (db:=db) (lb:=lb) (es:=es) (M:=M) (kd:=0) (fz:=.nilIface) (dc:=none) (pu:=none) (m:=bH) gj 0 1;rw[aob] at b9;obtain⟨r1,r2⟩:=aof;generalize GN [rQ] [120]=R at*;refine bz [] (cG [(1,ao 1401),(3,ae 0),(4,ae 0),(5,ae 3),(6,ae 0)] (cN ⟨0,U,wP p,fo,db,ds,es,M,lb,[rQ],b,.no,bH⟩)) ?_;refine au (amC (z:=0) (U:=U) (L:=wP p) (bc:=fo) (db:=db) (lb:=lb) (es:=es) (M:=M) (kd:=0) (fz:=.nilIface) (dc:=none) (pu:=none) (m:=bH)) ?_;refine au (Wh (z:=0) (U:=U) (L:=wP p) (bc:=fo) (db:=db) (lb:=lb) (es:=es) (M:=M) (kd:=0) (fz:=.nilIface) (dc:=none) (pu:=none) (m:=bH)) ?_;refine⟨fun _ _=>?_,fun h=>(by cases h)⟩;refine au fp ?_;refine au b9 ?_;refine eO ?_;refine eO ?_;refine eO ?_;refine eO ?_;refine au (Ns (z:=0) (U:=U) (L:=wP p) (bc:=fo) (db:=db) (lb:=lb) (es:=es) (M:=M) (kd:=0) (fz:=.nilIface) (dc:=none) (pu:=none) (m:=bH)) ?_;refine eO ?_;refine eO ?_;have Tg:decide ((R.length:Int)=32)=true:=by rw[r1];rfl
  refine⟨fun _=>?_,fun h=>Bool.noConfusion (Tg.symm.trans h)⟩;refine⟨au6,(97:UInt8),r2,eO ?_⟩;refine eO ?_;refine⟨au6,(98:UInt8),rfl,eO ?_⟩;exact aT aH rfl (show decide (fo=fo)=true by decide) trivial rfl
end
end Go.Proofs.YthnboghbhgapcaaGreat
