/-
A part of the proof of this claim: lemmas, with no condition beyond what each says.
-/
import Derived.Test.YtkfbeijmgggkmaaGreatZc20
set_option linter.unusedVariables false
set_option linter.unusedSimpArgs false
set_option maxRecDepth 10000
set_option maxHeartbeats 4000000
namespace Go.Proofs.YtkfbeijmgggkmaaGreat
open Go.RowKit Go.Proofs
section
section
variable {P:Program} {ids:aA1} {K:aX} {B:ay} {o:Oper}
abbrev sh (f b:Nat):Value:=.func (.func f) #[.pointer (some ⟨b,0,none⟩)] #[]
def xh (b:Nat):Nat->aA1->List MapEntry->Prop
 |_,[],es=>es=[]
 |i,f::fs,es=> ∃e r,es=e::r/\e.key= .int .i64 (i:Int)/\e.val=sh f b/\xh b (i+1) fs r
theorem xh.w0 {b f:Nat}: ∀{fs:aA1} {i:Nat} {es:List MapEntry} {e:MapEntry},xh b i fs es->e.key= .int .i64 ((i+fs.length:Nat):Int)->e.val=sh f b->xh b i (fs++[f]) (es++[e])
 | [],i,es,e,h,E,G=>by rw[show es=[] from h];exact⟨e,[],rfl,E,G,rfl⟩
 |x::fs,i,_,e,⟨b6,r,h,b0,ca,a3⟩,E,G=>by
  rw[h];exact⟨b6,r++[e],rfl,b0,ca,xh.w0 a3 (by rw[E,au1,show i+(fs.length+1)=i+1+fs.length by omega]) G⟩
theorem IK {b:Nat} {k:Int}: ∀{fs:aA1} {i:Nat} {es:List MapEntry} (j:Nat),xh b i fs es->
  ((k < (i:Int)\/((i+fs.length:Nat):Int)<=k)->Instr.findNow (.int .i64) (.int .i64 k) es j=some none)/\(∀(m:Nat) (aw:m < fs.length),k=((i+m:Nat):Int)->Instr.findNow (.int .i64) (.int .i64 k) es j=some (some (j+m,sh fs[m] b)))
 | [],i,es,j,h=>by
  rw[show es=[] from h];exact⟨fun _=>rfl,fun m aw=>absurd aw (av5 _)⟩
 |f::fs,i,_,j,⟨e,r,h,b0,ca,a3⟩=>by
  subst h;obtain⟨aB,aR,rn⟩:=MapKept.sameNow_of_keys (so (aH:=ai) (d:=.int .i64) rfl k) (so (aH:=ai) (d:=.int .i64) rfl ((i:Nat):Int));have aR:Instr.sameNow (.int .i64) (.int .i64 k) e.key=some aB:=by rw[b0];exact aR
  obtain⟨r1,r2⟩:=IK (k:=k) (j+1) a3
  by_cases Z:k=(i:Int)
  .have aoF:aB=true:=rn.2 (by rw[Z]);subst aoF;refine⟨fun bj=>?_,fun m aw bj=>?_⟩
   .rw[au1] at bj;omega
   .obtain rfl:m=0:=aw8
    simp[Instr.findNow,aR,ca]
  .have aoG:aB=false:=by
    cases aB with
    |false=>rfl
    |true=>
     have:=rn.1 rfl;injection this with _ G
     exact absurd G Z
   subst aoG;refine⟨fun bj=>?_,fun m aw bj=>?_⟩
   .simp only[Instr.findNow,aR];exact r1 (by rw[au1] at bj;omega)
   .cases m with
    |zero=>exact absurd bj Z
    |succ m=>
     have:=r2 m (by simpa using aw) (by rw[bj];omega);simp only[Instr.findNow,aR];simp only[List.getElem_cons_succ];rw[show j+(m+1)=j+1+m by omega];exact this
def za (b:Nat) (fs:aA1):bg where
 bn:=fun _ F w p=>(∀x,F x↔x=p.bh)/\ ∃bU bV,w.heap[p.bh]? =some (.map (List.toArray bU) bV)/\xh b 0 fs bU/\mg bU bV
 ck:=fun _ F w _ w' p ⟨E,bU,bV,G,al⟩ _ bd _=>⟨E,bU,bV,(bd _ ((E _).2 rfl)).trans G,al⟩
def OT (b:Nat) (fs:aA1) (ch:ba):Prop:=(fs=[]/\ch= .map ai .fn [])\/ch= .aF (za b fs)
theorem OT.holds {b:Nat} {fs:aA1} {ch:ba} (h:OT b fs ch) {ρ:Nat->bo} {I F:Nat->Prop} {w:World} {p:bo} (bj:Holds ρ I F w p ch):(za b fs).bn I F w p:=by
 rcases h with⟨rfl,rfl⟩ |rfl
 .obtain⟨E,bU,bV,G,al,aW⟩:=bj;exact⟨E,bU,bV,G,al,aW⟩
 .exact bj
theorem ko {T kt et:TypeId} {x i v:Operand} {c f b:Nat} (ag:o.op= .insert T x i v) (ci:P.underlying T=some (.map kt et)) (kg:P.underlying kt=some (.int .i64)) {fs:aA1} {ch:ba} (hx:a7 K x= .c (.one (.mp c))) (Z:a7 K i= .c (.one (.d (.int .i64 (fs.length:Nat)))))
  (aA:a7 K v=yz f b) (J:aj B c=some ch) (hw:OT b fs ch) (N:Nat):bB P N ids o K B .undef ⟨[c],[],[(c,some (.aF (za b (fs++[f]))))]⟩:=by
 have cM:x∈o.op.operands:=aw7
 have dK:i∈o.op.operands:=aw7
 have lr:v∈o.op.operands:=aw7
 refine bB.TU J fun K' B' g1 g2 C ρ F a w ar au f1=>?_
 obtain⟨bd,bU,bV,O,aw,dy⟩:=hw.holds (ar.holds c _ f1);have af:=au.mp ((g1 x cM).trans hx);have ao:a.eval i= .int .i64 ((fs.length:Nat):Int):=au.int ((g1 i dK).trans Z);have bm:a.eval v=sh f b:=au.ev ((g1 v lr).trans aA);have qP:=fun e=>MapKept.run_checkKey (P:=P) (w:=w) kg (so (aH:=ai) (d:=.int .i64) rfl ((fs.length:Nat):Int)) e 9999
 have d':=fun o=>MapKept.run_setObj_map (P:=P) o O
 have hf:=MapKept.run_findKey (P:=P) (w:=w) kg ((IK 0 aw).1 (.inr (by rw[Nat.zero_add];exact Int.le_refl _)));have bx:=me O;simp only[gQ] at qP
 have aC:(Instr.mapUpdate T (.map (some (ρ c).bh)) (.int .i64 ((fs.length:Nat):Int)) (sh f b)).run P w= .ok () {w with heap:=w.heap.setIfInBounds (ρ c).bh (.map (List.toArray (bU++[⟨.int .i64 ((fs.length:Nat):Int),sh f b,bV⟩])) (bV+1))}:=by
  simp[Instr.mapUpdate,run_underlying ci,MapKept.run_getObj_map O,qP,hf,d',Result.andThen]
 refine⟨{w with heap:=w.heap.setIfInBounds (ρ c).bh (.map (List.toArray (bU++[⟨.int .i64 ((fs.length:Nat):Int),sh f b,bV⟩])) (bV+1))},?_,uI ((bd _).2 rfl),fun I aZ=>⟨bd,bU++[⟨.int .i64 ((fs.length:Nat):Int),sh f b,bV⟩],bV+1,by simp[bx],xh.w0 aw (by rw[Nat.zero_add]) rfl,Pp dy _ _⟩⟩;simp only[execOp,ag,Sem.run_bind,af,ao,bm,aC,Result.andThen_ok,Sem.run_pure]
theorem aoH {aU:dl} (bl:eh P aU) {T kt et:TypeId} {x i:Operand} {c b:Nat} (ag:o.op= .lookup T x i true) (ci:P.underlying T=some (.map kt et)) (kg:P.underlying kt=some (.int .i64)) {ti:b8} (gK:aU.find et=some ti) {fs:aA1} (hx:a7 K x= .c (.one (.mp c))) {key:Int} (Z:a7 K i= .c (.one (.d (.int .i64 key))))
  (J:aj B c=some (.aF (za b fs))) {m:Nat} {f:Nat} (aw:fs[m]? =some f) (OU:key=(m:Int)) (N:Nat):bB P N ids o K B (.cb [.one (.bM (sh f b)),.one (.d (.lit true))]) ⟨[c],[],[]⟩:=by
 have cM:x∈o.op.operands:=aw7
 have dK:i∈o.op.operands:=aw7
 obtain⟨C1,d,bz⟩:=bl.at_ gK;obtain⟨aB,aR,mR⟩:=bz.zero;refine bB.val fun K' B' g1 g2 C ρ F a w ar au=>?_
 obtain⟨bd,bU,bV,O,nv,dy⟩:(za b fs).bn _ _ w _:=ar.holds c _ ((g2 c aw2).trans J);have af:=au.mp ((g1 x cM).trans hx);have ao:a.eval i= .int .i64 key:=au.int ((g1 i dK).trans Z);have qP:=fun e=>MapKept.run_checkKey (P:=P) (w:=w) kg (so (aH:=ai) (d:=.int .i64) rfl key) e 9999
 obtain⟨ap,U⟩:=ar1.1 aw;have hf:=MapKept.run_findKey (P:=P) (w:=w) kg ((IK (k:=key) 0 nv).2 m ap (by rw[Nat.zero_add];exact OU));rw[U] at hf;refine⟨.tuple #[sh f b,.bool true],?_,⟨[sh f b,.bool true],rfl,_,_,rfl,rfl,_,_,rfl,rfl,rfl⟩⟩
 have aC:(Instr.lookup T (.map (some (ρ c).bh)) (.int .i64 key) true).run P w= .ok (.tuple #[sh f b,.bool true]) w:=by
  simp only[gQ] at qP hf;simp[Instr.lookup,run_underlying ci,MapKept.run_getObj_map O,qP,hf,Result.andThen]
 simp only[execOp,ag,Sem.run_bind,af,ao,aC,Result.andThen_ok,Sem.run_pure]
theorem aoI {aU:dl} (bl:eh P aU) {T kt et:TypeId} {x i:Operand} {c b:Nat} (ag:o.op= .lookup T x i true) (ci:P.underlying T=some (.map kt et)) (kg:P.underlying kt=some (.int .i64)) {ti:b8} (gK:aU.find et=some ti) {fs:aA1} (hx:a7 K x= .c (.one (.mp c))) {key:Int} (Z:a7 K i= .c (.one (.d (.int .i64 key))))
  (J:aj B c=some (.aF (za b fs))) (OU:key < 0\/((fs.length:Nat):Int)<=key) (N:Nat):bB P N ids o K B (.cb [.one .any,.one (.d (.lit false))]) ⟨[c],[],[]⟩:=by
 have cM:x∈o.op.operands:=aw7
 have dK:i∈o.op.operands:=aw7
 obtain⟨C1,d,bz⟩:=bl.at_ gK;obtain⟨aB,aR,mR⟩:=bz.zero;refine bB.val fun K' B' g1 g2 C ρ F a w ar au=>?_
 obtain⟨bd,bU,bV,O,nv,dy⟩:(za b fs).bn _ _ w _:=ar.holds c _ ((g2 c aw2).trans J);have af:=au.mp ((g1 x cM).trans hx);have ao:a.eval i= .int .i64 key:=au.int ((g1 i dK).trans Z);have CK:(zeroValue et).run P w= .ok aB w:=by simp[zeroValue,typeInfo,bz.jW,aR]
 have qP:=fun e=>MapKept.run_checkKey (P:=P) (w:=w) kg (so (aH:=ai) (d:=.int .i64) rfl key) e 9999
 have hf:=MapKept.run_findKey (P:=P) (w:=w) kg ((IK (k:=key) 0 nv).1 (by rw[Nat.zero_add];exact OU));refine⟨.tuple #[aB,.bool false],?_,⟨[aB,.bool false],rfl,_,_,rfl,trivial,_,_,rfl,rfl,rfl⟩⟩
 have aC:(Instr.lookup T (.map (some (ρ c).bh)) (.int .i64 key) true).run P w= .ok (.tuple #[aB,.bool false]) w:=by
  simp only[gQ] at qP hf;simp[Instr.lookup,run_underlying ci,MapKept.run_getObj_map O,qP,hf,CK,Result.andThen]
 simp only[execOp,ag,Sem.run_bind,af,ao,aC,Result.andThen_ok,Sem.run_pure]
end
theorem cA.mk {P:Program} {f:FuncId} {c m b:Nat} {args:List aO} {aI:ay} {bb:aA1} {X:Type} {res:X->aO} {aN:X->ay} (h:cA P f (.c (.one (.ptr c 0))::args) aI bb res aN) (E:((aj aI m).isNone&& !bb.contains c&& !bb.contains m)=true) (G: ∀g,(aj (aN g) m).isNone=true):
  cA P f (.c (.one (.d (.aL (some b))))::args) (aI++[(m,.cg c (fg b))]) bb res (fun g=>aN g++[(m,.cg c (fg b))]):=by
 obtain⟨f3,h⟩:=h;simp only[vj,Bool.not_eq_true',av6] at E G;obtain⟨⟨b0,ca⟩,a3⟩:=E;have ca:=wm ca;have hF: ∀(B:ay) {e:Nat} {ch:ba},aj B e=some ch->aj (B++[(m,.cg c (fg b))]) e=some ch:=fun B {e ch} U=>by rw[iQ,U]
 have one: ∀(B:ay),aj B m=none->aj (B++[(m,.cg c (fg b))]) m=some (.cg c (fg b)):=fun B hn=>by rw[iQ,hn];simp[aj]
 have tS: ∀(B:ay) {e:Nat} {ch:ba},aj (B++[(m,.cg c (fg b))]) e=some ch->(aj B e=some ch)\/(aj B e=none/\e=m/\ch= .cg c (fg b)):=fun B {e ch} U=>by
  rw[iQ] at U
  cases bj:aj B e with
  |some y=>rw[bj] at U;exact .inl U
  |none=>
   rw[bj] at U;simp only[cd] at U
   split at U
   .rename_i ao;injection U with U;exact .inr ⟨rfl,ao.symm,U.symm⟩
   .cases U
 refine⟨f3,fun ρ F I w bW a2 c0 bd eG bZ dx=>?_⟩;have aw:(ρ c).bh=b/\ ∀x,¬F m x:=c0 m _ (one aI b0);have mX: ∀y,(∃e ch,aj aI e=some ch/\F e y)-> ∃e ch,aj (aI++[(m,ba.cg c (fg b))]) e=some ch/\F e y:=fun y ⟨e,ch,U,aD⟩=>⟨e,ch,hF _ U,aD⟩
 match bW,bZ with
 |v0::bW,bZ=>
 have xX:v0= .pointer (some ⟨b,0,none⟩):=dx 0 _ v0 rfl rfl;refine(h ρ F I w (v0::bW) a2 (fun e ch U=>c0 e ch (hF _ U)) (fun e ch U=>bd e ch (hF _ U)) (fun e b6 ch ch' x U g0=>eG e b6 ch ch' x (hF _ U) (hF _ g0)) (by simpa using bZ) ?_).mono ?_
 .intro i v x aA hx
  match i with
  |0=>
   simp only[ar9,aq8] at aA hx;subst aA hx;show v0=_;rw[aw.1];exact xX
  |i+1=>exact dx (i+1) v x ay1 hx
 .rintro e w' ⟨g,x,ρ',F',rfl,cE,dr,I',jl,gL,lQ,aq,ip,sF⟩;have a6: ∀{e ch},aj (aN g) e=some ch->e≠m:=fun {e ch} U ao=>by rw[ao,G g] at U;cases U
  refine⟨g,x,ρ',fun e=>if e=m then(fun _=>False) else F' e,rfl,cE.mono fun y _ aD=>mX y aD,dr,I',jl,fun y aD=>⟨(gL y aD).1,?_⟩,?_,?_,?_,sF⟩
  .rcases(gL y aD).2 with h |h |h
   .exact .inl h
   .exact .inr (.inl (mX y h))
   .exact .inr (.inr h)
  .intro e ch U;rcases tS _ U with U |⟨_,rfl,rfl⟩
   .simp only[if_neg (a6 U)];exact lQ e ch U
   .simp only[if_true];exact⟨by rw[dr c ca];exact aw.1,fun _ h=>h⟩
  .intro e ch U y aD;rcases tS _ U with U |⟨_,rfl,rfl⟩
   .simp only[if_neg (a6 U)] at aD;obtain⟨cJ,cG,hP⟩:=aq e ch U y aD;exact⟨cJ,cG,hP.imp (mX y) id⟩
   .simp only[if_true] at aD
  .intro e b6 ch ch' y U g0 hn aD ed;rcases tS _ U with ce |⟨_,rfl,rfl⟩
   .rcases tS _ g0 with cR |⟨_,rfl,rfl⟩
    .simp only[if_neg (a6 ce)] at aD;simp only[if_neg (a6 cR)] at ed;exact ip e b6 ch ch' y ce cR hn aD ed
    .simp only[if_true] at ed
   .simp only[if_true] at aD
theorem aoJ {P:Program} {T:Nat} {name:String} {f:Nat} (h:((P.info? T).bind fun i=>(i.methods.find? (·.name == name)).map fun m=>(m.path.isEmpty,m.func))=some (true,some (f,true))): ∃de m,P.info? T=some de/\de.methods.find? (·.name == name)=some m/\m.path= #[]/\m.func=some (f,true):=by
 cases E:P.info? T with
 |none=>rw[E] at h;cases h
 |some de=>
  rw[E] at h
  cases G:de.methods.find? (·.name == name) with
  |none=>simp only[Option.bind_some,G,Option.map_none] at h;cases h
  |some m=>
   simp only[Option.bind_some,G,au5,aq8,au6] at h;exact⟨de,m,rfl,G,Array.isEmpty_iff.1 h.1,h.2⟩
theorem ka {P:Program} {ids:aA1} {K:aX} {B:ay} {o:Oper} {f:FuncId} {c:Call} {x:Operand} {b:Nat} {aI:ay} {res:aO} {aN:ay} {T e:Nat} {name:String} (ag:o.op= .call c) (E:c.callee= .invoke x name) (G:c.args.toList=[]) (hx:a7 K x=CP T b)
  (aw:((P.info? T).bind fun i=>(i.methods.find? (·.name == name)).map fun m=>(m.path.isEmpty,m.func))=some (true,some (f,true))) (a8:P.underlying T=some (.pointer e)) (hf:Fn P f [.c (.one (.d (.aL (some b))))] aI [] res aN) (h2:kT B aI) (bz:mQ aI [] aN=true) (N:Nat):
  bB P N ids o K B res ⟨cm aI,[],iL aI aN⟩:=by
 obtain⟨de,m,ce,cR,er,eQ⟩:=aoJ aw;exact adq (fuel:=P.types.size+99) ag E G hx aw4 ce cR er eQ a8 hf h2 bz N
end
section
theorem aoK (w:bT) (s:dA) (V:w.bD= .no):Fn Tryz.prog 42 [ah 1401,ig s] (cO w) [] (ac 1) (cO w):=by
 have ci:ra w.b w.bD= .nilIface:=by rw[V];rfl
 refine aT [] Tryz.func42 ?_;refine⟨rfl,_,_,fun N=>RI rfl Tryz.underlying73 (by exact congrArg (fun v=>aO.c (.one (.bM v))) ci) N,rfl,?_⟩;exact bc
theorem aoL (w:bT) (s:dA) (V:oL w.bD=false):Fn Tryz.prog 42 [ah 1401,ig s] (cO w) [] (ac 0) (cO {w with bD:=.no}):=by
 obtain⟨z,R,L,aQ,db,ds,es,M,lb,Q,b,bD,bI⟩:=w
 cases bD with
 |no=>cases V
 |c7 top base l over=>
  refine aT [5] Tryz.func42 ?_;refine⟨rfl,_,_,fun N=>pW rfl Tryz.underlying73 rfl N,rfl,?_⟩;refine⟨_,_,fun N=>ka rfl rfl rfl rfl aw3 Tryz.underlying74 (anT (z:=z) (R:=R) (L:=L) (top:=top) (base:=base) (l:=l) (over:=over) (b:=b)) ax3 rfl N,rfl,?_⟩;exact ak (uj (z:=z) (R:=R) (L:=L) (aQ:=aQ) (db:=db) (lb:=lb) (m:=bI) (es:=es) (M:=M)) <| br [] (ab.q' 1501 1001 rfl) bc
 |pl top base over=>
  refine aT [5] Tryz.func42 ?_;refine⟨rfl,_,_,fun N=>pW rfl Tryz.underlying73 rfl N,rfl,?_⟩;refine⟨_,_,fun N=>ka rfl rfl rfl rfl aw3 Tryz.underlying136 (anW (z:=z) (R:=R) (L:=L) (top:=top) (base:=base) (over:=over) (b:=b)) ax3 rfl N,rfl,?_⟩;exact ak (uj (z:=z) (R:=R) (L:=L) (aQ:=aQ) (db:=db) (lb:=lb) (m:=bI) (es:=es) (M:=M)) <| br [] (ab.q' 1501 1001 rfl) bc
 |pu nm n rm l g over done=>
  refine aT [5] Tryz.func42 ?_;refine⟨rfl,_,_,fun N=>pW rfl Tryz.underlying73 rfl N,rfl,?_⟩;refine⟨_,_,fun N=>ka rfl rfl rfl rfl aw3 Tryz.underlying75 (anY (z:=z) (R:=R) (L:=L) (nm:=nm) (n:=n) (rm:=rm) (l:=l) (g:=g) (over:=over) (done:=done) (b:=b)) ax3 rfl N,rfl,?_⟩;exact ak (uj (z:=z) (R:=R) (L:=L) (aQ:=aQ) (db:=db) (lb:=lb) (m:=bI) (es:=es) (M:=M)) <| br [] (ab.q' 1501 1001 rfl) bc
theorem aoM (w:bT) {top base:aA0} {l:aA1} {over:Bool} (V:w.bD= .c7 top base l over) (a2:lC w.z w.R w.L top l) (s:dA):Fn Tryz.prog 41 [ah 1401,ig s] (cO w) [] (ac (gh w.z w.L top base l over).e) (cO {w with L:=(gh w.z w.L top base l over).L,bD:=if(gh w.z w.L top base l over).over=true then .no else .c7 top base (gh w.z w.L top base l over).l (gh w.z w.L top base l over).over}):=by
 obtain⟨z,R,L,aQ,db,ds,es,M,lb,Q,b,bD,bI⟩:=w;simp only at V;subst V;have ax:=anS (b:=b) (base:=base) (over:=over) a2;simp only at ax⊢;generalize gh z L top base l over=r at ax⊢;have go: ∀fw,Fn Tryz.prog 80 [ah 1401] (lc z R r.L es M aQ db lb 1 fw (some b) none bI) [] gV (lc z R r.L es M aQ db lb 0 .nilIface none none bI):=fun fw=>uj
 cases r with
 |mk sS e L' gT By=>
 simp only at ax⊢
 cases By with
 |true=>
  by_cases U:e=0
  .refine aT [8] Tryz.func41 ?_;refine⟨rfl,_,_,fun N=>pW rfl Tryz.underlying73 rfl N,rfl,?_⟩;refine⟨_,_,fun N=>ka rfl rfl rfl rfl aw3 Tryz.underlying74 ax ax3 rfl N,rfl,?_⟩;refine⟨fun _=>⟨fun _ h=>ax0,fun _=>⟨_,_,fun N=>ka rfl rfl rfl rfl aw3 Tryz.underlying74 (IA (z:=z) (R:=R) (L:=L') (top:=top) (base:=base) (l:=gT) (over:=true) (b:=b)) ax3 rfl N,rfl,?_⟩⟩,fun h=>absurd h az6⟩;exact⟨fun _=>ak (go _) <| br [] (ab.q' 1501 1001 rfl) bc,fun h=>ax0⟩
  .refine aT [8] Tryz.func41 ?_;refine⟨rfl,_,_,fun N=>pW rfl Tryz.underlying73 rfl N,rfl,?_⟩;refine⟨_,_,fun N=>ka rfl rfl rfl rfl aw3 Tryz.underlying74 ax ax3 rfl N,rfl,?_⟩;refine⟨fun h=>absurd (gd h) U,fun _=>⟨_,_,fun N=>ka rfl rfl rfl rfl aw3 Tryz.underlying74 (IA (z:=z) (R:=R) (L:=L') (top:=top) (base:=base) (l:=gT) (over:=true) (b:=b)) ax3 rfl N,rfl,?_⟩⟩;exact⟨fun _=>ak (go _) <| br [] (ab.q' 1501 1001 rfl) bc,fun h=>ax0⟩
 |false=>
  by_cases U:e=0
  .refine aT [] Tryz.func41 ?_;refine⟨rfl,_,_,fun N=>pW rfl Tryz.underlying73 rfl N,rfl,?_⟩;refine⟨_,_,fun N=>ka rfl rfl rfl rfl aw3 Tryz.underlying74 ax ax3 rfl N,rfl,?_⟩;refine⟨fun _=>⟨fun _ h=>ax0,fun _=>⟨_,_,fun N=>ka rfl rfl rfl rfl aw3 Tryz.underlying74 (IA (z:=z) (R:=R) (L:=L') (top:=top) (base:=base) (l:=gT) (over:=false) (b:=b)) ax3 rfl N,rfl,?_⟩⟩,fun h=>absurd h az6⟩;exact⟨fun h=>ax0,fun _=>bc⟩
  .refine aT [] Tryz.func41 ?_;refine⟨rfl,_,_,fun N=>pW rfl Tryz.underlying73 rfl N,rfl,?_⟩;refine⟨_,_,fun N=>ka rfl rfl rfl rfl aw3 Tryz.underlying74 ax ax3 rfl N,rfl,?_⟩;refine⟨fun h=>absurd (gd h) U,fun _=>⟨_,_,fun N=>ka rfl rfl rfl rfl aw3 Tryz.underlying74 (IA (z:=z) (R:=R) (L:=L') (top:=top) (base:=base) (l:=gT) (over:=false) (b:=b)) ax3 rfl N,rfl,?_⟩⟩;exact⟨fun h=>ax0,fun _=>bc⟩
theorem aoN (w:bT) {top base:aA0} {over:Bool} (V:w.bD= .pl top base over) (a2:cr w.z w.R w.L) {d:aM} (H:dk w.L top=some d) (s:dA):Fn Tryz.prog 41 [ah 1401,ig s] (cO w) [] (ac (hU w.z w.L top base over).e) (cO {w with L:=(hU w.z w.L top base over).L,bD:=if(hU w.z w.L top base over).over=true then .no else .pl top base (hU w.z w.L top base over).over}):=by
 obtain⟨z,R,L,aQ,db,ds,es,M,lb,Q,b,bD,bI⟩:=w;simp only at V;subst V;have ax:=anV (b:=b) (base:=base) (over:=over) a2 H;simp only at ax⊢;generalize hU z L top base over=r at ax⊢;have go: ∀fw,Fn Tryz.prog 80 [ah 1401] (lc z R r.L es M aQ db lb 2 fw none none bI) [] gV (lc z R r.L es M aQ db lb 0 .nilIface none none bI):=fun fw=>uj
 cases r with
 |mk sS e L' By=>
 simp only at ax⊢
 cases By with
 |true=>
  by_cases U:e=0
  .refine aT [8] Tryz.func41 ?_;refine⟨rfl,_,_,fun N=>pW rfl Tryz.underlying73 rfl N,rfl,?_⟩;refine⟨_,_,fun N=>ka rfl rfl rfl rfl aw3 Tryz.underlying136 ax ax3 rfl N,rfl,?_⟩;refine⟨fun _=>⟨fun _ h=>ax0,fun _=>⟨_,_,fun N=>ka rfl rfl rfl rfl aw3 Tryz.underlying136 (IB (z:=z) (R:=R) (L:=L') (top:=top) (base:=base) (over:=true) (b:=b)) ax3 rfl N,rfl,?_⟩⟩,fun h=>absurd h az6⟩;exact⟨fun _=>ak (go _) <| br [] (ab.q' 1501 1001 rfl) bc,fun h=>ax0⟩
  .refine aT [8] Tryz.func41 ?_;refine⟨rfl,_,_,fun N=>pW rfl Tryz.underlying73 rfl N,rfl,?_⟩;refine⟨_,_,fun N=>ka rfl rfl rfl rfl aw3 Tryz.underlying136 ax ax3 rfl N,rfl,?_⟩;refine⟨fun h=>absurd (gd h) U,fun _=>⟨_,_,fun N=>ka rfl rfl rfl rfl aw3 Tryz.underlying136 (IB (z:=z) (R:=R) (L:=L') (top:=top) (base:=base) (over:=true) (b:=b)) ax3 rfl N,rfl,?_⟩⟩;exact⟨fun _=>ak (go _) <| br [] (ab.q' 1501 1001 rfl) bc,fun h=>ax0⟩
 |false=>
  by_cases U:e=0
  .refine aT [] Tryz.func41 ?_;refine⟨rfl,_,_,fun N=>pW rfl Tryz.underlying73 rfl N,rfl,?_⟩;refine⟨_,_,fun N=>ka rfl rfl rfl rfl aw3 Tryz.underlying136 ax ax3 rfl N,rfl,?_⟩;refine⟨fun _=>⟨fun _ h=>ax0,fun _=>⟨_,_,fun N=>ka rfl rfl rfl rfl aw3 Tryz.underlying136 (IB (z:=z) (R:=R) (L:=L') (top:=top) (base:=base) (over:=false) (b:=b)) ax3 rfl N,rfl,?_⟩⟩,fun h=>absurd h az6⟩;exact⟨fun h=>ax0,fun _=>bc⟩
  .refine aT [] Tryz.func41 ?_;refine⟨rfl,_,_,fun N=>pW rfl Tryz.underlying73 rfl N,rfl,?_⟩;refine⟨_,_,fun N=>ka rfl rfl rfl rfl aw3 Tryz.underlying136 ax ax3 rfl N,rfl,?_⟩;refine⟨fun h=>absurd (gd h) U,fun _=>⟨_,_,fun N=>ka rfl rfl rfl rfl aw3 Tryz.underlying136 (IB (z:=z) (R:=R) (L:=L') (top:=top) (base:=base) (over:=false) (b:=b)) ax3 rfl N,rfl,?_⟩⟩;exact⟨fun h=>ax0,fun _=>bc⟩
def IL (w:bT) (nm:aA0) (n rm:Int) (l:aA1) (g:List (Nat×aA0)) (e:Int) (w':bT):Prop:=
 (l=[]/\ ∃t:IJ,vL {w with bD:=.pu nm n rm [] g true true} g e (Bx {w with bD:=.pu nm n rm [] g true true} g t)/\w'={Bx w g t with bD:=.no})\/
 (l≠[]/\e=(ek w.z w.L nm rm l g (dE l)).e/\w'={w with bD:=if(ek w.z w.L nm rm l g (dE l)).over=true then .no else .pu nm n rm (ek w.z w.L nm rm l g (dE l)).l (ek w.z w.L nm rm l g (dE l)).g false false})
theorem aoO (w:bT) (aq:lH w) {nm:aA0} {n rm:Int} {l:aA1} {g:List (Nat×aA0)} (V:w.bD= .pu nm n rm l g false false) (ae:fu w.z w.R w.L nm l g) (nt:g4 (d4 w.bI.gW)=true) (s:dA):
  cA Tryz.prog 41 [ah 1401,ig s] (cO w) [] (X:=nj (IL w nm n rm l g)) (fun p=>ac p.1.1) (fun p=>cO p.1.2):=by
 have ax:=anX (b:=w.b) (n:=n) (rm:=rm) (over:=false) (done:=false) ae
 by_cases ap:l=[]
 .have U:jd w.z w.L nm rm l g false false=⟨true,0,[],g,true,true⟩:=by unfold jd;rw[if_neg aw1,if_pos ap]
  rw[U] at ax;simp only at ax;have D4:=aoE {w with bD:=.pu nm n rm [] g true true} ⟨aq.cs,aq.kd,aq.ds,aq.eg,aq.q,aq.nS,aq.ew⟩ rfl ae.nil nt;obtain⟨z,R,L,aQ,db,ds,es,M,lb,Q,b,bD,bI⟩:=w;simp only at V;subst V;refine hQ [5,6,8] Tryz.func41 ?_;refine⟨rfl,_,_,fun N=>pW rfl Tryz.underlying73 rfl N,rfl,?_⟩;refine⟨_,_,fun N=>ka rfl rfl rfl rfl aw3 Tryz.underlying75 ax ax3 rfl N,rfl,?_⟩;refine d7 ⟨fun _ _=>ak (Xm (z:=z) (R:=R) (L:=L) (nm:=nm) (n:=n) (rm:=rm) (l:=[]) (g:=g) (over:=true) (done:=true) (b:=b)) ⟨fun _=>bk.gz ee aw3 ⟨_,_,_,fun g=>_,fun g=>_,D4,az,rfl,fun _=>rfl,fun x=>?_⟩,fun h=>ax0⟩,fun h=>ax0⟩;obtain⟨⟨af,t⟩,hx⟩:=x;refine br [8] (bq) ⟨_,_,fun N=>ka rfl rfl rfl rfl aw3 Tryz.underlying75 (OJ (z:=z) (R:=R) (L:=L) (nm:=nm) (n:=n) (rm:=rm) (l:=[]) (g:=g) (over:=true) (done:=true) (b:=b)) ax3 rfl N,rfl,?_⟩;exact⟨fun _=>ak (uj (z:=z) (R:=R) (L:=L) (aQ:=aQ) (db:=db) (lb:=t.2.2.2.1) (m:=qi bI g) (es:=t.2.1) (M:=t.2.2.1)) <| br [] (ab.q' 1501 1001 rfl) ⟨⟨(af,⟨z,R,L,aQ,db,t.1,t.2.1,t.2.2.1,t.2.2.2.1,t.2.2.2.2,b,.no,qi bI g⟩),.inl ⟨ap,t,hx,Eq.refl _⟩⟩,_,_,_,bq,rfl,rfl,az,rfl⟩,fun h=>ax0⟩
 .have U:jd w.z w.L nm rm l g false false=⟨false,(ek w.z w.L nm rm l g (dE l)).e,(ek w.z w.L nm rm l g (dE l)).l,(ek w.z w.L nm rm l g (dE l)).g,(ek w.z w.L nm rm l g (dE l)).over,false⟩:=by unfold jd;rw[if_neg aw1,if_neg ap]
  rw[U] at ax
  have Eu:(ek w.z w.L nm rm l g (dE l)).over=decide ((ek w.z w.L nm rm l g (dE l)).e≠0):=by
   unfold ek
   split <;>rfl
  have gM: ∀W:bT,W={w with bD:=if(ek w.z w.L nm rm l g (dE l)).over=true then .no else .pu nm n rm (ek w.z w.L nm rm l g (dE l)).l (ek w.z w.L nm rm l g (dE l)).g false false}->IL w nm n rm l g (ek w.z w.L nm rm l g (dE l)).e W:=fun W h=>.inr ⟨ap,Eq.refl _,h⟩
  obtain⟨z,R,L,aQ,db,ds,es,M,lb,Q,b,bD,bI⟩:=w;simp only at V ax Eu gM;subst V;generalize ek z L nm rm l g (dE l)=r at ax Eu gM;obtain⟨e,gT,g2,By⟩:=r;simp only at ax Eu gM
  by_cases IM:e=0
  .obtain rfl:By=false:=by rw[Eu];simp[IM]
   refine hQ [] Tryz.func41 ?_;refine⟨rfl,_,_,fun N=>pW rfl Tryz.underlying73 rfl N,rfl,?_⟩;refine⟨_,_,fun N=>ka rfl rfl rfl rfl aw3 Tryz.underlying75 ax ax3 rfl N,rfl,?_⟩;refine⟨fun _=>⟨fun _ _=>ak (Xm (z:=z) (R:=R) (L:=L) (nm:=nm) (n:=n) (rm:=rm) (l:=gT) (g:=g2) (over:=false) (done:=false) (b:=b)) ⟨fun h=>ax0,fun _=>⟨_,_,fun N=>ka rfl rfl rfl rfl aw3 Tryz.underlying75 (OJ (z:=z) (R:=R) (L:=L) (nm:=nm) (n:=n) (rm:=rm) (l:=gT) (g:=g2) (over:=false) (done:=false) (b:=b)) ax3 rfl N,rfl,?_⟩⟩,fun h=>ax0⟩,fun h=>absurd IM (mu h)⟩;exact⟨fun h=>ax0,fun _=>⟨⟨(e,⟨z,R,L,aQ,db,ds,es,M,lb,Q,b,.pu nm n rm gT g2 false false,bI⟩),gM _ (Eq.refl _)⟩,_,_,_,bq,rfl,rfl,az,rfl⟩⟩
  .obtain rfl:By=true:=by rw[Eu];simp[IM]
   refine hQ [8] Tryz.func41 ?_;refine⟨rfl,_,_,fun N=>pW rfl Tryz.underlying73 rfl N,rfl,?_⟩;refine⟨_,_,fun N=>ka rfl rfl rfl rfl aw3 Tryz.underlying75 ax ax3 rfl N,rfl,?_⟩;refine⟨fun h=>absurd (gd h) IM,fun _=>⟨_,_,fun N=>ka rfl rfl rfl rfl aw3 Tryz.underlying75 (OJ (z:=z) (R:=R) (L:=L) (nm:=nm) (n:=n) (rm:=rm) (l:=gT) (g:=g2) (over:=true) (done:=false) (b:=b)) ax3 rfl N,rfl,?_⟩⟩;exact⟨fun _=>ak (uj (z:=z) (R:=R) (L:=L) (aQ:=aQ) (db:=db) (lb:=lb) (m:=bI) (es:=es) (M:=M)) <| br [] (ab.q' 1501 1001 rfl) ⟨⟨(e,⟨z,R,L,aQ,db,ds,es,M,lb,Q,b,.no,bI⟩),gM _ (Eq.refl _)⟩,_,_,_,bq,rfl,rfl,az,rfl⟩,fun h=>ax0⟩
end
section
theorem aoP (w:bT) (s:dA) (V:w.bD= .no):Fn Tryz.prog 41 [ah 1401,ig s] (cO w) [] (ac 1) (cO w):=by
 have ci:ra w.b w.bD= .nilIface:=by rw[V];rfl
 refine aT [] Tryz.func41 ?_;refine⟨rfl,_,_,fun N=>RI rfl Tryz.underlying73 (by exact congrArg (fun v=>aO.c (.one (.bM v))) ci) N,rfl,?_⟩;exact bc
theorem aoQ {es:fT} {M:dV} {Q:List bR} (hf:mJ es M Q) (aP:nR Q):
  Fn Tryz.prog 83 [ah 1201] [qh es M] [3001,3002] (.cb [.one (.ptr 3001 0),dp 0]) (qh es M::lG 3001 3002 Q)\/(Q=[]/\Fn Tryz.prog 83 [ah 1201] [qh es M] [] (.cb [mZ,dp 181]) [qh es M]):=by
 rcases hf.cf with⟨E,G⟩ |⟨a,m,E,G,al,aW⟩
 .exact .inr ⟨G,Fn.close (c:=1201) (bp:=nN 1201 1202 1203 4096 es M) (dz:=nN 1201 1202 1203 4096 es M) (aI:=[]) (aN:=[]) [1202,1203] (Fn.aV [(1001,1201),(1002,1202),(1003,1203)] (anz 4096 es (L:=M) E)) (fun _ _ _ _ h=>h) (fun _ _ _ _ h=>h) rfl rfl⟩
 .refine .inl ?_;have V:=anj al aW (by have:=OP aP.tolE;have:dv 512=255:=rfl;omega);have ap:=Fn.aV [(1001,1201),(1002,1202),(1003,1203),(2001,3001),(2002,3002)] (anv 4096 es (L:=M) E G al.ok (by rw[al.n];decide) V (OP aP.tolE) aP.Bt (fun b O=>D1 aP.tolE O) aP.len);rw[Oo] at ap;exact Fn.close (c:=1201) (bp:=nN 1201 1202 1203 4096 es M) (dz:=nN 1201 1202 1203 4096 es M) (aI:=[]) (aN:=lG 3001 3002 Q) [1202,1203] ap (fun _ _ _ _ h=>h) (fun _ _ _ _ h=>h) rfl rfl
theorem aoR {es:fT} {M:dV} {Q:List bR} (hf:mJ es M Q) (ks:List j') (Z:ks.length<=1073741824) (hs: ∀k∈ks,(mF k).length<=1073741824):
  Fn Tryz.prog 81 [ah 1201,bv ie ks] [qh es M] [] gV [qh es M]:=by
 have h:=Fn.aV [(1001,1201),(1002,1202),(1003,1203)] (amK 4096 es M 0 ks hf.bw aw1 Z hs);rw[hf.k7 ks] at h;exact Fn.close (c:=1201) (bp:=nN 1201 1202 1203 4096 es M) (dz:=nN 1201 1202 1203 4096 es M) (aI:=[]) (aN:=[]) [1202,1203] h (fun _ _ _ _ h=>h) (fun _ _ _ _ h=>h) rfl rfl
abbrev Ev (ds:List bf):=Nat×Nat×{l:List bf//dO l/\l.map px=(hW ds).map qZ}
abbrev oP (w:bT) (t:Ev w.ds):bT:={w with db:=t.1,lb:=t.2.1,ds:=t.2.2.1,bD:=.no}
theorem aoS (w:bT) (aq:dP w) (s:dA) (Z:s.ks.length<=1073741824) (hs: ∀k∈s.ks,(mF k).length<=1073741824):
  cA Tryz.prog 43 [ah 1401,ig s] (cO w) [] (X:=Ev w.ds) (fun _=>ac 0) (fun t=>cO (oP w t)):=by
 have OV:=aoR aq.nS s.ks Z hs;have pr:Fn Tryz.prog 25 [c8 w.db,.c (.one (.d (.lit false)))] [OD w] [] (bv .u8 (mE false w.ds)) [OD w]:=Fn.arg (Fn.lW (b:=w.db) [1002,1003,1004] 1101 (NM aq.ds false)) az;have ud:=cA.aV [(1001,4001),(1002,4002),(1003,4003),(1004,4004)] (al2 aq.ds fun e U=>(aq.eg e U).1);have Bz:=aoQ aq.nS aq.q;obtain⟨z,R,L,aQ,db,ds,es,M,lb,Q,eL,bD,bI⟩:=w;simp only at OV pr ud Bz;rcases Bz with Bz |⟨wg,Bz⟩
 .refine hQ [3,4,8] Tryz.func43 ?_;refine⟨rfl,ak (uj (z:=z) (R:=R) (L:=L) (aQ:=aQ) (db:=db) (lb:=lb) (m:=bI) (es:=es) (M:=M)) <| ak OV ⟨eM aw3,bk.gz ee aw3 <| hp pr.x fun _=>⟨_,_,_,fun g=>_,fun g=>_,ud,trivial,rfl,fun _=>rfl,fun x=>?_⟩⟩⟩;obtain⟨l',qm,qq⟩:=x;refine bk.eH (c5.mark 4001 4009 rfl aw1) fun b=>?_
  exact bk.le (ab.pC 1401 3 4001 4009 b rfl rfl rfl) <| bk.le (ab.close 4001 (kf (eF (lj [(1001,4001),(1002,4002),(1003,4003),(1004,4004)] [])) (eC l')) (o:=ni l') az rfl fun I F x p h=>iO.aV [(4001,1001),(4002,1002),(4003,1003),(4004,1004)] h) <| bk.le (ab.trans (ab.pD 4001 4009 b rfl rfl) (ab.put 1101 4001 aw1 rfl rfl)) <| br [8] (ab.Eg 1101 rfl) <| ak Bz <| cX <| bk.eH (c5.mark 3001 3009 rfl aw1) fun b2=>bk.le (ab.pC 1401 5 3001 3009 b2 rfl rfl rfl) <| bk.le (ab.close 3001 (lG 3001 3002 Q) (o:=se Q) az rfl fun I F x p h=>iO.aV [(3001,1001),(3002,1002)] h) <| bk.le (ab.trans (ab.pD 3001 3009 b2 rfl rfl) (ab.put 1301 3001 aw1 rfl rfl)) <| br [] (ab.trans (ab.Eg 1301 rfl) (ab.q' 1501 1001 rfl)) ⟨(b,b2,⟨l',qm,qq⟩),_,_,_,bq,rfl,rfl,az,rfl⟩
 .subst wg;refine hQ [3,4,8] Tryz.func43 ?_;refine⟨rfl,ak (uj (z:=z) (R:=R) (L:=L) (aQ:=aQ) (db:=db) (lb:=lb) (m:=bI) (es:=es) (M:=M)) <| ak OV ⟨eM aw3,bk.gz ee aw3 <| hp pr.x fun _=>⟨_,_,_,fun g=>_,fun g=>_,ud,trivial,rfl,fun _=>rfl,fun x=>?_⟩⟩⟩;obtain⟨l',qm,qq⟩:=x;refine bk.eH (c5.mark 4001 4009 rfl aw1) fun b=>?_
  exact bk.le (ab.pC 1401 3 4001 4009 b rfl rfl rfl) <| bk.le (ab.close 4001 (kf (eF (lj [(1001,4001),(1002,4002),(1003,4003),(1004,4004)] [])) (eC l')) (o:=ni l') az rfl fun I F x p h=>iO.aV [(4001,1001),(4002,1002),(4003,1003),(4004,1004)] h) <| bk.le (ab.trans (ab.pD 4001 4009 b rfl rfl) (ab.put 1101 4001 aw1 rfl rfl)) <| br [8] (ab.Eg 1101 rfl) <| ak Bz <| d7 <| ak (Fn.aV [(1001,3001),(1002,3002)] Nd) <| bk.eH (c5.mark 3001 3009 rfl aw1) fun b2=>bk.le (ab.pC 1401 5 3001 3009 b2 rfl rfl rfl) <| bk.le (ab.close 3001 (lG 3001 3002 []) (o:=se []) az rfl fun I F x p h=>iO.aV [(3001,1001),(3002,1002)] h) <| bk.le (ab.trans (ab.pD 3001 3009 b2 rfl rfl) (ab.put 1301 3001 aw1 rfl rfl)) <| br [] (ab.trans (ab.Eg 1301 rfl) (ab.q' 1501 1001 rfl)) ⟨(b,b2,⟨l',qm,qq⟩),_,_,_,bq,rfl,rfl,az,rfl⟩
end
section
abbrev jx:aA1:=[33,34,35,36,37,38,39,40,41,42,43,44]
theorem aoT (w:bT) (s:dA) (Z:s.kd < 0\/12<=s.kd):Fn Tryz.prog 12 [ah 1401,ig s] (cO w) [] (ac 1) (cO w):=by
 refine aT [1] Tryz.func12 ?_;refine⟨rfl,bk.eH (c5.mark 1401 1409 rfl aw1) fun b=>br [] (bq) ⟨rfl,_,_,fun N=>jM (m:=1409) (b:=b) rfl rfl rfl N,rfl,?_⟩⟩;refine⟨_,_,fun N=>ko (fs:=jx.take 0) rfl Tryz.underlying87 Tryz.underlying3 rfl rfl rfl rfl (.inl ⟨rfl,rfl⟩) N,rfl,?_⟩;refine⟨_,_,fun N=>jM (m:=1409) (b:=b) rfl rfl rfl N,rfl,?_⟩;refine⟨_,_,fun N=>ko (fs:=jx.take 1) rfl Tryz.underlying87 Tryz.underlying3 rfl rfl rfl rfl (.inr rfl) N,rfl,?_⟩;refine⟨_,_,fun N=>jM (m:=1409) (b:=b) rfl rfl rfl N,rfl,?_⟩;refine⟨_,_,fun N=>ko (fs:=jx.take 2) rfl Tryz.underlying87 Tryz.underlying3 rfl rfl rfl rfl (.inr rfl) N,rfl,?_⟩;refine⟨_,_,fun N=>jM (m:=1409) (b:=b) rfl rfl rfl N,rfl,?_⟩;refine⟨_,_,fun N=>ko (fs:=jx.take 3) rfl Tryz.underlying87 Tryz.underlying3 rfl rfl rfl rfl (.inr rfl) N,rfl,?_⟩;refine⟨_,_,fun N=>jM (m:=1409) (b:=b) rfl rfl rfl N,rfl,?_⟩;refine⟨_,_,fun N=>ko (fs:=jx.take 4) rfl Tryz.underlying87 Tryz.underlying3 rfl rfl rfl rfl (.inr rfl) N,rfl,?_⟩;refine⟨_,_,fun N=>jM (m:=1409) (b:=b) rfl rfl rfl N,rfl,?_⟩;refine⟨_,_,fun N=>ko (fs:=jx.take 5) rfl Tryz.underlying87 Tryz.underlying3 rfl rfl rfl rfl (.inr rfl) N,rfl,?_⟩;refine⟨_,_,fun N=>jM (m:=1409) (b:=b) rfl rfl rfl N,rfl,?_⟩;refine⟨_,_,fun N=>ko (fs:=jx.take 6) rfl Tryz.underlying87 Tryz.underlying3 rfl rfl rfl rfl (.inr rfl) N,rfl,?_⟩;refine⟨_,_,fun N=>jM (m:=1409) (b:=b) rfl rfl rfl N,rfl,?_⟩;refine⟨_,_,fun N=>ko (fs:=jx.take 7) rfl Tryz.underlying87 Tryz.underlying3 rfl rfl rfl rfl (.inr rfl) N,rfl,?_⟩;refine⟨_,_,fun N=>jM (m:=1409) (b:=b) rfl rfl rfl N,rfl,?_⟩;refine⟨_,_,fun N=>ko (fs:=jx.take 8) rfl Tryz.underlying87 Tryz.underlying3 rfl rfl rfl rfl (.inr rfl) N,rfl,?_⟩;refine⟨_,_,fun N=>jM (m:=1409) (b:=b) rfl rfl rfl N,rfl,?_⟩;refine⟨_,_,fun N=>ko (fs:=jx.take 9) rfl Tryz.underlying87 Tryz.underlying3 rfl rfl rfl rfl (.inr rfl) N,rfl,?_⟩;refine⟨_,_,fun N=>jM (m:=1409) (b:=b) rfl rfl rfl N,rfl,?_⟩;refine⟨_,_,fun N=>ko (fs:=jx.take 10) rfl Tryz.underlying87 Tryz.underlying3 rfl rfl rfl rfl (.inr rfl) N,rfl,?_⟩;refine⟨_,_,fun N=>jM (m:=1409) (b:=b) rfl rfl rfl N,rfl,?_⟩;refine⟨_,_,fun N=>ko (fs:=jx.take 11) rfl Tryz.underlying87 Tryz.underlying3 rfl rfl rfl rfl (.inr rfl) N,rfl,?_⟩;refine⟨_,_,fun N=>aoI ee (fs:=jx) rfl Tryz.underlying87 Tryz.underlying3 rfl rfl rfl rfl Z N,rfl,?_⟩;exact bc
theorem si (w:bT) (s:dA) {bn:Int->bT->Prop} {k f:Nat} (Z:s.kd=(k:Int)) (hf:jx[k]? =some f) (J:cA Tryz.prog f [ah 1401,ig s] (cO w) [] (X:=nj bn) (fun p=>ac p.1.1) (fun p=>cO p.1.2)):
  cA Tryz.prog 12 [ah 1401,ig s] (cO w) [] (X:=nj bn) (fun p=>ac p.1.1) (fun p=>cO p.1.2):=by
 refine hQ [1,5] Tryz.func12 ?_;refine⟨rfl,bk.eH (c5.mark 1401 1409 rfl aw1) fun b=>br [5] (bq) ⟨rfl,_,_,fun N=>jM (m:=1409) (b:=b) rfl rfl rfl N,rfl,?_⟩⟩;refine⟨_,_,fun N=>ko (fs:=jx.take 0) rfl Tryz.underlying87 Tryz.underlying3 rfl rfl rfl rfl (.inl ⟨rfl,rfl⟩) N,rfl,?_⟩;refine⟨_,_,fun N=>jM (m:=1409) (b:=b) rfl rfl rfl N,rfl,?_⟩;refine⟨_,_,fun N=>ko (fs:=jx.take 1) rfl Tryz.underlying87 Tryz.underlying3 rfl rfl rfl rfl (.inr rfl) N,rfl,?_⟩;refine⟨_,_,fun N=>jM (m:=1409) (b:=b) rfl rfl rfl N,rfl,?_⟩;refine⟨_,_,fun N=>ko (fs:=jx.take 2) rfl Tryz.underlying87 Tryz.underlying3 rfl rfl rfl rfl (.inr rfl) N,rfl,?_⟩;refine⟨_,_,fun N=>jM (m:=1409) (b:=b) rfl rfl rfl N,rfl,?_⟩;refine⟨_,_,fun N=>ko (fs:=jx.take 3) rfl Tryz.underlying87 Tryz.underlying3 rfl rfl rfl rfl (.inr rfl) N,rfl,?_⟩;refine⟨_,_,fun N=>jM (m:=1409) (b:=b) rfl rfl rfl N,rfl,?_⟩;refine⟨_,_,fun N=>ko (fs:=jx.take 4) rfl Tryz.underlying87 Tryz.underlying3 rfl rfl rfl rfl (.inr rfl) N,rfl,?_⟩;refine⟨_,_,fun N=>jM (m:=1409) (b:=b) rfl rfl rfl N,rfl,?_⟩;refine⟨_,_,fun N=>ko (fs:=jx.take 5) rfl Tryz.underlying87 Tryz.underlying3 rfl rfl rfl rfl (.inr rfl) N,rfl,?_⟩;refine⟨_,_,fun N=>jM (m:=1409) (b:=b) rfl rfl rfl N,rfl,?_⟩;refine⟨_,_,fun N=>ko (fs:=jx.take 6) rfl Tryz.underlying87 Tryz.underlying3 rfl rfl rfl rfl (.inr rfl) N,rfl,?_⟩;refine⟨_,_,fun N=>jM (m:=1409) (b:=b) rfl rfl rfl N,rfl,?_⟩;refine⟨_,_,fun N=>ko (fs:=jx.take 7) rfl Tryz.underlying87 Tryz.underlying3 rfl rfl rfl rfl (.inr rfl) N,rfl,?_⟩;refine⟨_,_,fun N=>jM (m:=1409) (b:=b) rfl rfl rfl N,rfl,?_⟩;refine⟨_,_,fun N=>ko (fs:=jx.take 8) rfl Tryz.underlying87 Tryz.underlying3 rfl rfl rfl rfl (.inr rfl) N,rfl,?_⟩;refine⟨_,_,fun N=>jM (m:=1409) (b:=b) rfl rfl rfl N,rfl,?_⟩;refine⟨_,_,fun N=>ko (fs:=jx.take 9) rfl Tryz.underlying87 Tryz.underlying3 rfl rfl rfl rfl (.inr rfl) N,rfl,?_⟩;refine⟨_,_,fun N=>jM (m:=1409) (b:=b) rfl rfl rfl N,rfl,?_⟩;refine⟨_,_,fun N=>ko (fs:=jx.take 10) rfl Tryz.underlying87 Tryz.underlying3 rfl rfl rfl rfl (.inr rfl) N,rfl,?_⟩;refine⟨_,_,fun N=>jM (m:=1409) (b:=b) rfl rfl rfl N,rfl,?_⟩;refine⟨_,_,fun N=>ko (fs:=jx.take 11) rfl Tryz.underlying87 Tryz.underlying3 rfl rfl rfl rfl (.inr rfl) N,rfl,?_⟩;refine⟨_,_,fun N=>aoH ee (fs:=jx) rfl Tryz.underlying87 Tryz.underlying3 rfl rfl rfl rfl hf Z N,rfl,?_⟩;refine bk.gz ee aw3 ?_;exact⟨_,_,_,fun g=>_,fun g=>_,cA.mk (m:=1409) (b:=b) J rfl (fun _=>rfl),az,rfl,fun _=>rfl,fun x=>⟨x,_,_,_,bq,rfl,rfl,az,rfl⟩⟩
end
section
theorem cA.Iy {P:Program} {f:FuncId} {args:List aO} {aI:ay} {bb:aA1} {X:Type} {res:X->aO} {aN oe:X->ay} (h:cA P f args aI bb res aN) (G: ∀g c,aj (oe g) c=aj (aN g) c):cA P f args aI bb res oe:=by
 unfold cA at h⊢;simpa only[G] using h
structure pE (s:dA):Prop where
 b:s.b.length<=1000000
 nm:s.nm.length<=1000000
 l:s.l<=9223372036854775807
 ks:s.ks.length<=1073741824
 XH: ∀k∈s.ks,(mF k).length<=1073741824
inductive fy (w:bT) (s:dA):Int->bT->Prop where
 |Nl (h:s.kd < 0\/12<=s.kd):fy w s 1 w
 |write (h:s.kd=0):fy w s (eU w.z w.L w.aQ s.a s.b).e (iK w s.a ((s.b.length:Int)/16) (eU w.z w.L w.aQ s.a s.b))
 |zero (h:s.kd=1):fy w s (mx w.z w.L w.aQ s.a s.l).e (iK w s.a s.l (mx w.z w.L w.aQ s.a s.l))
 |XI (h:s.kd=2) (aw:xg w.bD=true):fy w s 143 w
 |OW (h:s.kd=2) (aw:xg w.bD=false):fy w s (my w.L w.aQ s.a s.l).e (iK w s.a s.l (my w.L w.aQ s.a s.l))
 |busy (h:s.kd=3\/(5<=s.kd/\s.kd<=7)) (V:oL w.bD=false):fy w s 143 w
 |over (h:s.kd=3) (V:w.bD= .no) {e:Int} {w':bT} (aC:Xu w s e w'):fy w s e w'
 |eW (h:s.kd=4) (l':List bf) (aC:(ow ((eJ w*2 ^w.z:Nat):Int) s.a=true/\Ep w.ds s.nm true true ((eJ w*2 ^w.z:Nat):Int) s.a [] l')\/(ow ((eJ w*2 ^w.z:Nat):Int) s.a=false/\l'=w.ds)):fy w s (IF w s) {w with ds:=l'}
 |merge (h:s.kd=5) (V:w.bD= .no) {e:Int} {w':bT} (aC:Xv w e w'):fy w s e w'
 |pull (h:s.kd=6) (V:w.bD= .no) {e:Int} {w':bT} (aC:Xw w s e w'):fy w s e w'
 |push (h:s.kd=7) (V:w.bD= .no) {e:Int} {w':bT} (aC:OS w s e w'):fy w s e w'
 |AZ (h:s.kd=8) (V:w.bD= .no):fy w s 1 w
 |IN (h:s.kd=8) {top base:aA0} {l:aA1} (V:w.bD= .c7 top base l false):fy w s (gh w.z w.L top base l false).e {w with L:=(gh w.z w.L top base l false).L,bD:=if(gh w.z w.L top base l false).over=true then .no else .c7 top base (gh w.z w.L top base l false).l (gh w.z w.L top base l false).over}
 |iOz (h:s.kd=8) {top base:aA0} (V:w.bD= .pl top base false):fy w s (hU w.z w.L top base false).e {w with L:=(hU w.z w.L top base false).L,bD:=if(hU w.z w.L top base false).over=true then .no else .pl top base (hU w.z w.L top base false).over}
 |IP (h:s.kd=8) {nm:aA0} {n rm:Int} {l:aA1} {g:List (Nat×aA0)} (V:w.bD= .pu nm n rm l g false false) {e:Int} {w':bT} (aC:IL w nm n rm l g e w'):fy w s e w'
 |OX (h:s.kd=9) (V:w.bD= .no):fy w s 1 w
 |OY (h:s.kd=9) (V:oL w.bD=false):fy w s 0 {w with bD:=.no}
 |k7 (h:s.kd=10) (t:Ev w.ds):fy w s 0 (oP w t)
 |drop (h:s.kd=11) {e:Int} {w':bT} (aC:XA w s e w'):fy w s e w'
theorem cA.lI {P:Program} {f:FuncId} {args:List aO} {aI:ay} {bb:aA1} {bn Ew:Int->bT->Prop} (h:cA P f args aI bb (X:=nj bn) (fun p=>ac p.1.1) (fun p=>cO p.1.2)) (gM: ∀e w',bn e w'->Ew e w'):cA P f args aI bb (X:=nj Ew) (fun p=>ac p.1.1) (fun p=>cO p.1.2):=
 h.to (fun p=>⟨p.1,gM _ _ p.2⟩) (fun _=>rfl) (fun _=>rfl)
theorem Fn.lI {P:Program} {f:FuncId} {args:List aO} {aI:ay} {bb:aA1} {Ew:Int->bT->Prop} {e:Int} {w':bT} (h:Fn P f args aI bb (ac e) (cO w')) (gM:Ew e w'):cA P f args aI bb (X:=nj Ew) (fun p=>ac p.1.1) (fun p=>cO p.1.2):=
 h.x.to (fun _=>⟨(e,w'),gM⟩) (fun _=>rfl) (fun _=>rfl)
theorem ul {j:km} (h:oL j=true):j= .no:=by
 cases j with
 |no=>rfl
 |_=>cases h
theorem zb (w:bT) (aq:dP w) (s:dA) (ax:pE s):cA Tryz.prog 12 [ah 1401,ig s] (cO w) [] (X:=nj (fy w s)) (fun p=>ac p.1.1) (fun p=>cO p.1.2):=by
 by_cases O:s.kd < 0\/12<=s.kd
 .exact(aoT w s O).lI (.Nl O)
 have J:s.kd=0\/s.kd=1\/s.kd=2\/s.kd=3\/s.kd=4\/s.kd=5\/s.kd=6\/s.kd=7\/s.kd=8\/s.kd=9\/s.kd=10\/s.kd=11:=aw8
 rcases J with h |h |h |h |h |h |h |h |h |h |h |h
 .exact si w s (k:=0) h rfl ((an8 w aq s ax.b).lI (.write h))
 .exact si w s (k:=1) h rfl ((an9 w aq s ax.l).lI (.zero h))
 .refine si w s (k:=2) h rfl ?_
  cases aw:xg w.bD with
  |true=>exact(Xs w aq s ax.l ⟨143,w.L⟩ (by rw[aw];rfl) w (by rw[aw];rfl)).lI (.XI h aw)
  |false=>exact(Xs w aq s ax.l (my w.L w.aQ s.a s.l) (by rw[aw];rfl) _ (by rw[aw];rfl)).lI (.OW h aw)
 .refine si w s (k:=3) h rfl ?_
  cases V:oL w.bD with
  |false=>exact(aoa w s V).lI (.busy (.inl h) V)
  |true=>exact(aob w aq s (ul V) ax.nm).lI fun e w' aC=>.over h (ul V) aC
 .refine si w s (k:=4) h rfl ?_
  exact((aoi w aq s ax.nm).anK.Iy (oe:=fun g=>cO {w with ds:=g.1}) fun g c=>by
   simp only[cd]
   by_cases E:1001=c
   .subst E;rfl
   .rw[if_neg E,if_neg E]).to (fun g=>⟨(_,_),.eW h g.1 g.2⟩) (fun _=>rfl) (fun _=>rfl)
 .refine si w s (k:=5) h rfl ?_
  cases V:oL w.bD with
  |false=>exact(aoc w s V).lI (.busy (.inr aw0) V)
  |true=>exact(aof w aq s (ul V)).lI fun e w' aC=>.merge h (ul V) aC
 .refine si w s (k:=6) h rfl ?_
  cases V:oL w.bD with
  |false=>exact(aod w s V).lI (.busy (.inr aw0) V)
  |true=>exact(aog w aq s (ul V)).lI fun e w' aC=>.pull h (ul V) aC
 .refine si w s (k:=7) h rfl ?_
  cases V:oL w.bD with
  |false=>exact(aoe w s V).lI (.busy (.inr aw0) V)
  |true=>exact(aot w aq s (ul V) ax.nm).lI fun e w' aC=>.push h (ul V) aC
 .refine si w s (k:=8) h rfl ?_;have hS:=aq.bD
  cases V:w.bD with
  |no=>exact(aoP w s V).lI (.AZ h V)
  |c7 top base l over=>
   rw[V] at hS;obtain⟨rfl,rfl,a2⟩:=hS;exact(aoM w V a2 s).lI (.IN h V)
  |pl top base over=>
   rw[V] at hS;obtain⟨rfl,rfl⟩:=hS;obtain⟨d,H⟩:=at5.1 aq.kd;exact(aoN w V aq.cs H s).lI (.iOz h V)
  |pu nm n rm l g over done=>
   rw[V] at hS;obtain⟨rfl,rfl,rfl,_,ae⟩:=hS;exact(aoO w aq.tolH V ae (aq.r4 (by rw[V];rfl)) s).lI fun e w' aC=>.IP h V aC
 .refine si w s (k:=9) h rfl ?_
  cases V:oL w.bD with
  |false=>exact(aoL w s V).lI (.OY h V)
  |true=>exact(aoK w s (ul V)).lI (.OX h (ul V))
 .exact si w s (k:=10) h rfl ((aoS w aq s ax.ks ax.XH).to (fun t=>⟨(0,oP w t),.k7 h t⟩) (fun _=>rfl) (fun _=>rfl))
 .exact si w s (k:=11) h rfl ((aol w aq s).lI fun e w' aC=>.drop h aC)
end
section
theorem XJ (es:List (aa ai×aa ai)) (f k:Int): ∀n:Nat,iU (s1 es f n) k=if f<=k/\k < f+(n:Int) then true else iU es k
 |0=>by
  rw[if_neg aw0];rfl
 |n+1=>by
  have bu:=XJ es f k n;have h:=Ah (aH:=ai) (aJ:=ai) rF (f+(n:Int)) (1:Int) (s1 es f n);show DC ((bY (aH:=ai) (aJ:=ai) (dw (aH:=ai) (aJ:=ai) (s1 es f n) (f+(n:Int)) (1:Int)) k).getD (cL ai))=_
  by_cases e:k=f+(n:Int)
  .rw[e,h.1,if_pos aw0];rfl
  .rw[h.2 k e];refine bu.trans ?_
   by_cases G:f<=k/\k < f+n
   .rw[if_pos G,if_pos aw0]
   .rw[if_neg G,if_neg aw0]
theorem XK {es:List (aa ai×aa ai)} (U:fb es) (f k:Int): ∀n:Nat,iU (vo es f n) k=if f<=k/\k < f+(n:Int) then false else iU es k
 |0=>by
  rw[if_neg aw0];rfl
 |n+1=>by
  have bu:=XK U f k n;have h:=CH (aH:=ai) (aJ:=ai) rF (f+(n:Int)) (vo es f n) (Hz U f n);show DC ((bY (aH:=ai) (aJ:=ai) (gR (aH:=ai) (aJ:=ai) (vo es f n) (f+(n:Int))) k).getD (cL ai))=_
  by_cases e:k=f+(n:Int)
  .rw[e,h.1,if_pos aw0];rfl
  .rw[h.2 k e];refine bu.trans ?_
   by_cases G:f<=k/\k < f+n
   .rw[if_pos G,if_pos aw0]
   .rw[if_neg G,if_neg aw0]
theorem kl.set {s g:Int} {es:List (aa ai×aa ai)} (h:kl s g es) (ax:0<=s/\s<=4096) (aY:1<=g/\g<=64) (fr bN:Int):kl s g (nH s g es fr bN):=fun aB aR=>by
 by_cases aA:yw s fr bN
 .have e:nH s g es fr bN=s1 es (fr/g) ((if bN=0 then 0 else(fr+bN+g - 1)/g) - fr/g).toNat:=if_pos aA;obtain⟨kS,v2,v3,v4⟩:=aA;have d6:0<=fr/g:=av9 v2 aw0
  have fZ:(if bN=0 then 0 else(fr+bN+g - 1)/g)<=mB s g:=by
   split
   .exact(yE ax aY).1
   .exact Int.ediv_le_ediv aw0 aw0
  have av:=(yE ax aY).1;rw[e,XJ] at aR;generalize(if bN=0 then 0 else(fr+bN+g - 1)/g)=q at aR fZ
  split at aR
  .omega
  .exact h aB aR
 .have e:nH s g es fr bN=es:=if_neg aA;rw[e] at aR;exact h aB aR
theorem kl.XL {s g:Int} {es:List (aa ai×aa ai)} (h:kl s g es) (U:fb es):kl s g (DN s g es):=fun aB aR=>by
 unfold DN at aR;rw[XK U] at aR
 split at aR
 .cases aR
 .exact h aB aR
theorem kl.nJ {s g:Int} {es:List (aa ai×aa ai)} (h:kl s g es) (ax:0<=s/\s<=4096) (aY:1<=g/\g<=64) (l:List dU):kl s g (l.foldl (wT s g) es):=by
 induction l generalizing es with
 |nil=>exact h
 |cons x l bu=>
  refine bu ?_;unfold wT
  split
  .exact h.set ax aY _ _
  .exact h
theorem kl.c7 {s g:Int} {es:List (aa ai×aa ai)} (h:kl s g es) (ax:0<=s/\s<=4096) (aY:1<=g/\g<=64) (row:List dU):kl s g (wU s g es row):=kl.nJ h ax aY _
theorem kl.nil (s g:Int):kl s g []:=fun aB aR=>by cases aR
theorem vy.of {e b6:bf} (h:vy e) (E:b6.s=e.s) (G:b6.g=e.g) (al:b6.nm=e.nm) (aW:kl e.s e.g b6.es):vy b6:=⟨by rw[E,G];exact h.ok,by rw[E,G];exact aW,by rw[al];exact h.nm⟩
theorem vy.wr {e:bf} (h:vy e) (ax:0<=e.s/\e.s<=4096) (aY:1<=e.g/\e.g<=64) (a a1:Int):vy (la a a1 e):=h.of rfl rfl rfl (by
 show kl e.s e.g (if e.on=true then nH e.s e.g e.es a a1 else e.es)
 split
 .exact h.f4.set ax aY a a1
 .exact h.f4)
theorem OZ {z:Nat} {L:List aM} {nm:aA0} {rm a a1:Int}: ∀(ks l:aA1) (g:List (Nat×aA0)),(lD z L nm rm a a1 ks l g).e=0->(lD z L nm rm a a1 ks l g).over=false
 | [],l,g=>fun _=>rfl
 |k::ks,l,g=>by
  unfold lD
  split
  .exact OZ ks l g
  .split
   .exact OZ ks _ _
   .rename_i h;exact fun G=>absurd G h
theorem aoU {z:Nat} {L:List aM} {nm:aA0} {rm a a1:Int} {l:aA1} {g:List (Nat×aA0)} (h:(jO z L nm rm a a1 l g false).e=0):(jO z L nm rm a a1 l g false).over=false:=by
 unfold jO at h⊢;rw[if_neg aw1] at h⊢
 split at h
 .rename_i J;rw[if_pos J]
 .rename_i J;rw[if_neg J];exact OZ _ _ _ h
theorem aoV {z R:Nat} {L:List aM} {aQ:aA0} {j:km} (h:xf z R L aQ j) (a a1:Int):xf z R L aQ (re z L a a1 j):=by
 cases j with
 |pu nm n rm l g over done=>
  obtain⟨rfl,rfl,rfl,E,G⟩:=h;unfold re;simp only
  split
  .rename_i U;exact⟨rfl,aoU U,rfl,E,G.aix rm a a1 false⟩
  .trivial
 |_=>exact h
theorem xf.wQ {z R:Nat} {L L':List aM} {aQ t:aA0} {j:km} (h:xf z R L aQ j) (ap:pn L t L'):xf z R L' aQ j:=by
 cases j with
 |no=>trivial
 |c7 top base l over=>exact⟨h.1,h.2.1,h.2.2.wQ ap⟩
 |pl top base over=>exact h
 |pu nm n rm l g over done=>exact⟨h.1,h.2.1,h.2.2.1,by rw[(ap.aS aQ).1];exact h.2.2.2.1,h.2.2.2.2.wQ ap⟩
theorem aoW {z R:Nat} {L:List aM} {aQ:aA0} {j:km} (h:xf z R L aQ j) (a a1:Int):xf z R L aQ (Em z L a a1 j):=by
 cases j with
 |c7 top base l over=>exact⟨h.1,h.2.1,h.2.2.wr over a a1⟩
 |_=>exact h
theorem dP.zc {w:bT} (aq:dP w) (a a1:Int) (r:pm) (ap:pn w.L w.aQ r.L):dP (iK w a a1 r):=by
 have aR:=ap.aS w.aQ;have V:=(aoV aq.bD a a1).wQ ap;have Z:=aq.kd;have ae: ∀j,Eo (Em w.z r.L a a1 j)=Eo j:=fun j=>by cases j <;>rfl
 have aP: ∀j,Eo (re w.z w.L a a1 j)=true->Eo j=true:=fun j h=>by
  cases j with
  |pu=>rfl
  |_=>exact h
 unfold iK
 split
 .refine⟨⟨ap.cs aq.cs,by rw[<-aR.2] at Z;exact Z,(W' a a1).map aq.ds,fun e U=>?_,aq.q,aq.nS,fun p ae=>?_⟩,aoW V a a1,fun h=>aq.r4 (aP _ ((ae _).symm.trans h))⟩
  .obtain⟨bJ,av,rfl⟩:=as5.1 U;obtain⟨fA,hc,_⟩:=aq.ds.ok bJ av;obtain⟨cM,dK⟩:=aq.eg bJ av;exact⟨cM.wr fA hc a a1,by show bJ.s=((cl r.L w.aQ*2 ^w.z:Nat):Int);rw[aR.1];exact dK⟩
  .have ae:En a a1 (re w.z w.L a a1 w.bD) w.bI.ew=some p:=ae;show p.2.1=((cl r.L w.aQ*2 ^w.z:Nat):Int)/\_;rw[aR.1];unfold En at ae
   split at ae
   .exact aq.ew p ae
   .obtain⟨q,aP,rfl⟩:=at6.1 ae;obtain⟨kY,bF,uD⟩:=aq.ew q aP;exact⟨kY,bF,M5 uD _ _⟩
 .refine⟨⟨ap.cs aq.cs,by rw[<-aR.2] at Z;exact Z,aq.ds,fun e U=>?_,aq.q,aq.nS,fun p ae=>?_⟩,V,fun h=>aq.r4 (aP _ h)⟩
  .show _/\e.s=((cl r.L w.aQ*2 ^w.z:Nat):Int);rw[aR.1];exact aq.eg e U
  .show p.2.1=((cl r.L w.aQ*2 ^w.z:Nat):Int)/\_;rw[aR.1];exact aq.ew p ae
end
section
theorem vM {w:bT} (h:lH w) {L':List aM} {t:aA0} (J:cr w.z w.R L') (Z:(dk L' t).isSome=true) (aR:cl L' t=cl w.L w.aQ) (b:Nat) (j:km):lH {w with L:=L',aQ:=t,b:=b,bD:=j}:=
 ⟨J,Z,h.ds,fun e U=>⟨(h.eg e U).1,by rw[aR];exact(h.eg e U).2⟩,h.q,h.nS,fun p ae=>by
  obtain⟨kY,bF⟩:=h.ew p ae;exact⟨by rw[aR];exact kY,bF⟩⟩
theorem XM {z R:Nat} {L:List aM} (h:cr z R L) (top base:aA0) (over:Bool):cr z R (hU z L top base over).L/\ ∀n,cl (hU z L top base over).L n=cl L n/\(dk (hU z L top base over).L n).isSome=(dk L n).isSome:=by
 unfold hU
 split
 .exact⟨h,fun _=>⟨rfl,rfl⟩⟩
 .cases rZ L top base with
  |some k=>exact⟨(AT h _ _ _).cs h,fun n=>(AT h _ _ _).aS n⟩
  |none=>
   refine⟨ag3 h top base,fun n=>?_⟩;show cl (jc L top base).L n=_/\_;unfold jc
   split
   .exact⟨rfl,rfl⟩
   .split
    .exact⟨rfl,rfl⟩
    .split
     .unfold cl;rw[sU]
      cases dk L n with
      |none=>exact⟨rfl,rfl⟩
      |some d=>
       show(gA top base d).im.t.length=d.im.t.length/\_;unfold gA
       split <;>exact⟨rfl,rfl⟩
     .exact⟨rfl,rfl⟩
theorem XN {z R:Nat} {L:List aM} (h:cr z R L) (top base:aA0) (l:aA1) (over:Bool): ∃t,pn L t (gh z L top base l over).L:=by
 unfold gh
 split
 .exact⟨top,.inl rfl⟩
 .split
  .exact⟨top,AU h _ _ _⟩
  .exact⟨base,T5 h _ _ _⟩
theorem mJ.xi {es:fT} {M:dV} {Q Q':List bR} (h:mJ es M Q) {b:Nat} (O:b∉M.map (·.1)):mJ (oN es Q' b) ((b,oO Q' b)::M) (if oM Q'=0 then Q' else Q):=h.an6 O
theorem lH.xi {w w':bT} (h:lH w) {Q:List bR} (aP:nR Q) {e:Int} (J:vK w Q e w'):lH w':=by
 obtain⟨_,b,O,⟨U,lb,rfl⟩ |⟨U,rfl⟩⟩:=J
 .have:=h.nS.xi (Q':=Q) O;rw[if_pos U] at this;generalize oN w.es Q b=F at this⊢;generalize oO Q b=S at this⊢;exact⟨h.cs,h.kd,h.ds,h.eg,aP,this,h.ew⟩
 .have:=h.nS.xi (Q':=Q) O;rw[if_neg U] at this;generalize oN w.es Q b=F at this⊢;generalize oO Q b=S at this⊢;exact⟨h.cs,h.kd,h.ds,h.eg,h.q,this,h.ew⟩
theorem nR.aoX {Q:List bR} (h:nR Q) (nm:aA0):nR (qb Q nm):=⟨Nx h.tolE nm,h.Bt.drop nm⟩
theorem nR.XO {Q:List bR} (h:nR Q) (b:bR):nR (fX Q b):=⟨h.tolE.add b,h.Bt.add b⟩
theorem XP {l l':List bf} (h:l'.map px=(hW l).map qZ) {e:bf} (U:e∈l'): ∃bJ,bJ∈l/\px e=qZ bJ:=by
 have:px e∈l'.map px:=as0 U;rw[h] at this;obtain⟨bJ,av,E⟩:=as5.1 this;exact⟨bJ,H8 av,E.symm⟩
theorem lH.k7 {w:bT} (h:lH w) (t:Ev w.ds):lH (oP w t):=by
 obtain⟨db,lb,l',H,ae⟩:=t;refine⟨h.cs,h.kd,H,fun e U=>?_,h.q,h.nS,h.ew⟩;obtain⟨bJ,av,E⟩:=XP ae U;obtain⟨cM,dK⟩:=h.eg bJ av;obtain⟨fA,hc,_⟩:=h.ds.ok bJ av;unfold px qZ at E;simp only[au6] at E;obtain⟨cC,_,_,cF,dD,fm⟩:=E;refine⟨cM.of cF dD cC fun aB aR=>?_,by rw[cF];exact dK⟩;rw[fm,V4 fA hc cM.f4] at aR;exact cM.f4 aB aR
theorem dP.no {w:bT} (h:lH w) (V:w.bD= .no):dP w:=⟨h,by rw[V];trivial,fun ae=>by rw[V] at ae;cases ae⟩
theorem aoY {l:List bf} {nm:aA0} {e:bf} (h:e∈k3 l nm):e∈l:=(Bb l nm).subset h
theorem lH.gi {w w':bT} (h:lH w) {g:List (Nat×aA0)} {e:Int} (aC:vL w g e w'):lH w':=by
 have aw:lH {w with bI:=qi w.bI g}:=⟨h.cs,h.kd,h.ds,h.eg,h.q,h.nS,h.ew⟩;rcases aC with⟨_,_,rfl⟩ |⟨_,e7,G,⟨_,rfl⟩ |⟨_,kP,bF,g2,eo,x,a,b,ax,Z,H,rfl⟩⟩
 .exact aw
 .exact aw.xi (h.q.XO _) G
 .have al:=Et G;have hw:=aw.xi (h.q.XO _) G;rw[al] at hw⊢;refine⟨hw.cs,hw.kd,H,fun e U=>?_,hw.q,hw.nS,hw.ew⟩;obtain⟨hx,_⟩:=jR Z;obtain⟨Bs,El⟩:=h.eg x hx;obtain⟨fA,hc,p2,_⟩:=h.ds.ok x hx;unfold II mw at U;obtain⟨bJ,av,rfl⟩:=as5.1 U
  have E:vy bJ/\bJ.s=((cl w.L w.aQ*2 ^w.z:Nat):Int):=by
   rcases as4.1 av with av |av
   .obtain⟨af,E,rfl⟩:=as5.1 (aoY av);obtain⟨uT,wi⟩:=h.eg af E;obtain⟨ky,rv,z3,_⟩:=h.ds.ok af E
    split
    .exact⟨uT.of rfl rfl rfl (uT.f4.XL z3),wi⟩
    .exact⟨uT,wi⟩
   .obtain rfl:=ar5.1 av;refine⟨Bs.of rfl rfl (jR Z).2.symm ((Bs.f4.XL p2).c7 fA hc _),El⟩
  split
  .exact⟨E.1.of rfl rfl rfl E.1.f4,E.2⟩
  .exact E
theorem IQ {z R:Nat} {L:List aM} {nm:aA0} {size:Int} {back:aA0} {p:Nat×Nat}:((ib z R L nm size back p).e=0->dk L nm=none/\g4 nm=true/\(ib z R L nm size back p).L=nF L nm back p.1 p.2 (hI z size.toNat R))/\((ib z R L nm size back p).e≠0->(ib z R L nm size back p).L=L):=by
 unfold ib
 split
 .exact⟨fun h=>absurd h (show¬(1:Int)=0 by decide),fun _=>rfl⟩
 .rename_i av
  split
  .exact⟨fun h=>absurd h (show¬(143:Int)=0 by decide),fun _=>rfl⟩
  .rename_i E
   split
   .exact⟨fun h=>absurd h (show¬(140:Int)=0 by decide),fun _=>rfl⟩
   .split
    .exact⟨fun h=>absurd h (show¬(142:Int)=0 by decide),fun _=>rfl⟩
    .refine⟨fun _=>⟨?_,?_,rfl⟩,fun h=>absurd rfl h⟩
     .cases H:dk L nm with
      |none=>rfl
      |some d=>exact absurd (.inl (by rw[H];rfl)) E
     .cases hn:g4 nm with
      |true=>rfl
      |false=>exact absurd (by rw[hn];rfl) av
theorem aoZ:fb ([]:List (aa ai×aa ai)):=by first |exact trivial |exact List.Pairwise.nil |exact au7
theorem XQ {w:bT} {s:dA} (h:sg w s=false):g4 s.nm=true:=by
 unfold sg at h
 cases hn:g4 s.nm with
 |true=>rfl
 |false=>rw[hn] at h;cases h
theorem fu.XR {z R:Nat} {L:List aM} {nm:aA0} (h:cr z R L) (Z:(dk L nm).isSome=true) (f:Nat->Bool):fu z R L nm (he f z (cl L nm*2 ^z)) []:=
 ⟨h,Z,Ho f z _ _ (aq4 _),Hn f z _,fun p ae=>(by cases ae),au7,fun k _ h=>ax0⟩
theorem dP.step {w w':bT} (aq:dP w) {s:dA} {e:Int} (aC:fy w s e w'):dP w':=by
 cases aC with
 |Nl h=>exact aq
 |write h=>exact aq.zc _ _ _ (AT aq.cs _ _ _)
 |zero h=>exact aq.zc _ _ _ (G7 aq.cs _ _ _)
 |XI h aw=>exact aq
 |OW h aw=>exact aq.zc _ _ _ (AU aq.cs _ _ _)
 |busy h V=>exact aq
 |over h V aC=>
  obtain⟨p,ef,U,⟨av,rfl⟩ |⟨av,rfl⟩⟩:=aC
  .obtain⟨b0,_,ca⟩:=IQ.1 (U.symm.trans av);rw[ca] at ef⊢;have H:=Ds (L:=w.L) (nm:=s.nm) (back:=w.aQ) (ad:=p.1) (am:=p.2) (im:=hI w.z ((eJ w:Nat):Int).toNat w.R) s.nm;rw[b0,if_pos rfl] at H;refine dP.no (vM aq.tolH ef (by rw[H];rfl) ?_ w.b w.bD) V;unfold cl;rw[H];exact at1
  .rw[IQ.2 (fun h=>av (U.trans h))];exact aq
 |eW h l' aC=>
  rcases aC with⟨O,H,⟨_,hn,_,_,a,b,rfl⟩ |⟨_,rfl⟩⟩ |⟨_,rfl⟩
  .refine⟨⟨aq.cs,aq.kd,H,fun e U=>?_,aq.q,aq.nS,aq.ew⟩,aq.bD,aq.r4⟩;rcases as4.1 U with U |U
   .exact aq.eg e U
   .obtain rfl:=ar5.1 U;exact⟨⟨O,kl.nil _ _,hn⟩,rfl⟩
  .exact aq
  .exact aq
 |merge h V aC=>
  obtain⟨U,⟨av,b,rfl⟩ |⟨_,rfl⟩⟩:=aC
  .exact⟨vM aq.tolH aq.cs aq.kd rfl _ _,⟨rfl,rfl,lC.ahW aq.cs (by rw[<-U];exact av)⟩,fun ae=>by cases ae⟩
  .exact aq
 |pull h V aC=>
  obtain⟨U,⟨av,b,rfl⟩ |⟨_,rfl⟩⟩:=aC
  .exact⟨vM aq.tolH aq.cs aq.kd rfl _ _,⟨rfl,rfl⟩,fun ae=>by cases ae⟩
  .exact aq
 |push h V aC=>
  rcases aC with⟨_,_,rfl⟩ |⟨hn,⟨_,⟨_,_,rfl⟩ |⟨_,_,b,rfl⟩⟩ |⟨_,_,_,rfl⟩ |⟨_,x,hx,⟨_,_,rfl⟩ |⟨_,⟨_,_,rfl⟩ |⟨_,_,b,kP,rfl⟩⟩⟩⟩
  .exact aq
  .exact aq
  .exact⟨⟨aq.cs,aq.kd,aq.ds,aq.eg,aq.q,aq.nS,fun p ae=>by cases ae⟩,⟨rfl,rfl,rfl,rfl,fu.XR aq.cs aq.kd _⟩,fun _=>XQ hn⟩
  .exact aq
  .exact aq
  .exact aq
  .exact⟨⟨aq.cs,aq.kd,aq.ds,aq.eg,aq.q,aq.nS,fun p ae=>by cases ae;exact⟨rfl,rfl,aoZ⟩⟩,⟨rfl,rfl,rfl,rfl,fu.XR aq.cs aq.kd _⟩,fun _=>XQ hn⟩
 |AZ h V=>exact aq
 | @IN h top base l V=>
  have hS:=aq.bD;rw[V] at hS;obtain⟨rfl,_,a2⟩:=hS;obtain⟨t,ap⟩:=XN aq.cs w.aQ base l false;have ar:=a2.step base false;have cW:=fun j=>vM aq.tolH ar.cs ar.iB (ap.aS w.aQ).1 w.b j
  split
  .exact dP.no (cW _) rfl
  .rename_i ag;exact⟨cW _,⟨rfl,au8.2 ag,ar⟩,fun ae=>by cases ae⟩
 | @iOz h top base V=>
  have hS:=aq.bD;rw[V] at hS;obtain⟨rfl,_⟩:=hS;obtain⟨J,aR⟩:=XM aq.cs w.aQ base false;have cW:=fun j=>vM aq.tolH J (by rw[(aR w.aQ).2];exact aq.kd) (aR w.aQ).1 w.b j
  split
  .exact dP.no (cW _) rfl
  .rename_i ag;exact⟨cW _,⟨rfl,au8.2 ag⟩,fun ae=>by cases ae⟩
 | @IP h nm n rm l g V e w' aC=>
  have hS:=aq.bD;rw[V] at hS;obtain⟨rfl,_,_,hn,bl⟩:=hS;rcases aC with⟨rfl,t,aC,rfl⟩ |⟨ap,rfl,rfl⟩
  .have av:lH {w with bD:=.pu w.aQ n rm [] g true true}:=vM aq.tolH aq.cs aq.kd rfl w.b _;have E:=av.gi aC;exact dP.no ⟨E.cs,E.kd,E.ds,E.eg,E.q,E.nS,E.ew⟩ rfl
  .have ae:=bl.MR rm (yt ap).2.1
   split
   .exact dP.no (vM aq.tolH aq.cs aq.kd rfl w.b _) rfl
   .exact⟨vM aq.tolH aq.cs aq.kd rfl w.b _,⟨rfl,rfl,rfl,hn,ae⟩,fun _=>aq.r4 (by rw[V];rfl)⟩
 |OX h V=>exact aq
 |OY h V=>exact dP.no (vM aq.tolH aq.cs aq.kd rfl _ _) rfl
 |k7 h t=>exact dP.no (aq.tolH.k7 t) rfl
 |drop h aC=>
  rcases aC with⟨_,_,rfl⟩ |⟨_,J⟩
  .exact aq
  .have al:=Et J;have hw:=aq.tolH.xi (aq.q.aoX _) J;rw[al] at hw⊢;exact⟨hw,aq.bD,aq.r4⟩
end
section
abbrev e1:aA0:=[100,105,115,107]
abbrev XS:Made:=⟨(([]:aA0),([]:aA0),(0:Int),(0:Int),([]:List je)),[],none⟩
abbrev qj (z R:Nat) (size:Int) (p:Nat×Nat):List aM:=(ib z R [] e1 size [] p).L
abbrev ao0 (z R:Nat) (L:List aM):ay:=
 [(1401,.cells [.d (.int .i64 z),.d (.str e1),.ptr 1001 0,.ptr 4001 0,.ptr 1201 0,.ptr 3001 0,.d (.int .i64 0),.bM .nilIface,.bM (.pointer none),.bM (.pointer none),.d (.str []),.d (.str []),.d (.int .i64 0),.d (.int .i64 0),.d (.cf oB []),.d (.str []),.bM (.pointer none)]),
  oK z R L,qh [] [],(4001,.aF (ni [])),(3001,.aF (se []))]
theorem Ex (z R:Nat) (size:Int) (E:h7 z 0 R=true) (G:h7 z size R=true):
  cA Tryz.prog 9 [ac (z:Int),ac size,ac (R:Int)] [] [1001,1201,1401,3001,4001] (X:={p:Nat×Nat//cr z R (qj z R size p)}) (fun _=>.cb [.one (.ptr 1401 0),dp 0]) (fun p=>ao0 z R (qj z R size p.1)):=by
 have aw:=G;simp only[h7,vj,as1] at aw;have ef:cr z R []:=cr.nil aw0 aw0
 have U:(ib z R [] e1 size [] (0,0)).e=0:=by
  unfold ib;rw[if_neg (by rw[G];decide),if_neg aw1,if_neg aw1,if_neg aw1]
 have hn:=SU z R aw0 aw0;have ha:=OM ef e1 size [] aw1;rw[U] at ha;have hf:=ame 4096 aw1;refine hQ [2,4,5] Tryz.func9 ?_;refine ak hn <| br [4,5] (ab.close 1001 (bS z R []) (o:=Ek z R []) az rfl fun I F x p h=>h) <| cX <| ak ha <| cX <| bk.eH (c5.jh 1001 rfl) fun p=>br [5] (bq) <| ak (Fn.aV [(1001,1201),(1002,1202)] hf) <| br [] (ab.trans (ab.ll 1203 rfl) (ab.close 1201 (nN 1201 1202 1203 4096 [] []) (o:=y6 [] []) az rfl fun I F x p h=>h)) <| ak (Fn.aV [(1001,4001),(1002,4002),(1003,4003),(1004,4004)] UH) <| ak (Fn.aV [(1001,3001),(1002,3002)] Nd) ⟨rfl,?_⟩
 exact⟨p,_,_,_,ab.trans (ab.close 4001 (kf (eF (lj [(1001,4001),(1002,4002),(1003,4003),(1004,4004)] [])) (eC [])) (o:=ni []) az rfl fun I F x p h=>iO.aV [(4001,1001),(4002,1002),(4003,1003),(4004,1004)] h)
  (ab.trans (ab.close 3001 (lG 3001 3002 []) (o:=se []) az rfl fun I F x p h=>iO.aV [(3001,1001),(3002,1002)] h) (ab.trans (ab.aV 36 1401 rfl) (ab.s0 1401 (l':=[.d (.int .i64 z),.d (.str e1),.ptr 1001 0,.ptr 4001 0,.ptr 1201 0,.ptr 3001 0,.d (.int .i64 0),.bM .nilIface,.bM (.pointer none),.bM (.pointer none),.d (.str []),.d (.str []),.d (.int .i64 0),.d (.int .i64 0),.d (.cf oB []),.d (.str []),.bM (.pointer none)]) rfl az))),rfl,az,az,rfl⟩
end
section
def lJ (k:j'):Nat:=(mF k).length+(pB k).length
theorem O0 {α:Type} (f:α->Nat): ∀(l:List α) (k:Nat),((l.take k).map f).sum<=(l.map f).sum
 | [],k=>by simp
 |a::l,0=>by simp
 |a::l,k+1=>by
  simp only[List.take_succ_cons,ar8,List.sum_cons];have:=O0 f l k;omega
theorem O1 {α:Type} (f:α->Nat) {l:List α} {k:Nat} (h:k < l.length):((l.take (k+1)).map f).sum=((l.take k).map f).sum+f l[k]:=by
 rw[at7 h,at9,List.sum_append];simp
end
section
theorem XT: ∀b:aA0,eY (.b4 .u8) b=1+b.length
 | []=>rfl
 |x::b=>by
  have h:=XT b;show 1+(1+(List.map (eY .u8) b).sum)=_;have h:1+(List.map (eY .u8) b).sum=1+b.length:=h;rw[h,au1];omega
theorem XU: ∀b:List Int,eY (.b4 ai) b=1+b.length
 | []=>rfl
 |x::b=>by
  have h:=XU b;show 1+(1+(List.map (eY ai) b).sum)=_;have h:1+(List.map (eY ai) b).sum=1+b.length:=h;rw[h,au1];omega
theorem ao1 (k:j'):eY ie k=2+lJ k:=by
 have h:=XU (mF k);show(1+(pB k).length)+eY (.b4 ai) (mF k)=_;rw[h];unfold lJ;omega
theorem O2: ∀l:List j',eY (.b4 ie) l=1+2*l.length+(l.map lJ).sum
 | []=>rfl
 |k::l=>by
  have h:=O2 l;show 1+(eY ie k+(List.map (eY ie) l).sum)=_;have h:1+(List.map (eY ie) l).sum=1+2*l.length+(l.map lJ).sum:=h;rw[ao1,au1,ar8,List.sum_cons];omega
theorem O3 {α:Type} {f:α->Nat} {k:α}: ∀{l:List α},k∈l->f k<=(l.map f).sum
 | [],h=>by cases h
 |a::l,h=>by
  rw[ar8,List.sum_cons];rcases aq7.1 h with rfl |h
  .omega
  .have:=O3 (f:=f) h;omega
def lK (n:Int):aA0:=UInt8.ofNat n.toNat::List.replicate 15 (0:UInt8)
theorem XV (n:Int) (av:0<=n) (E:n < 256):Fn Tryz.prog 31 [kS (.d (.int .u8 n))] [] [] (bv .u8 (lK n)) []:=by
 refine aT [] Tryz.func31 ?_;exact⟨⟨rfl,aw1,aw1⟩,rfl,⟨aw1,aw1⟩,⟨⟨av,E⟩,aw1⟩,_,_,_,ab.d3 4 rfl,rfl,rfl,trivial,rfl⟩
abbrev en:bA:=.bK ai (.bK ai (.bK ai (.bK (.b4 .u8) (.bK .str (.bK .str (.b4 ie))))))
abbrev ih:=aa en
abbrev ct (x:ih):dA:=⟨x.1,x.2.1,x.2.2.1,x.2.2.2.1,x.2.2.2.2.1,x.2.2.2.2.2.1,x.2.2.2.2.2.2⟩
abbrev O4 (s:dA) (v:bC):List bC:=[.d (.int .i64 s.kd),.d (.int .i64 s.a),.d (.int .i64 s.l),.d (.cf .u8 s.b),.d (.str s.nm),.d (.str s.fx),v]
abbrev XW:List bC:=[.d (.int .i64 0),.d (.int .i64 0),.d (.int .i64 0),.dH,.d (.str []),.d (.str []),.dH]
abbrev O5 (s:dA) (k:Nat):aX:=[(2,.c (.one (.ptr 2 0))),(3,.c (.one (.ptr 3 0))),(20,bv ie s.ks),(21,ac (s.ks.length:Nat)),(22,ac (k:Nat))]
abbrev XX (s:dA) (k:Nat) (r:Nat):ay:=[(2,.cells XW),(3,.cells (O4 s (.own r))),(r,.row 89 ie (s.ks.take k))]
theorem XY (s:dA) (Z:s.ks.length<=1073741824):Fn Tryz.prog 13 [ig s] [] [] (ig s) []:=by
 refine aT [7] Tryz.func13 ?_;refine⟨rfl,rfl,rfl,dG [7] (X:=Nat) (fun k=>O5 s k) (fun k=>XX s k 2003) (fun k=>k<=s.ks.length) (fun k=>s.ks.length - k) 0 (aq9 _) ?_ ?_⟩
 .exact ab.trans (ab.wc 3 6 2003 89 ie rfl rfl rfl) (ab.sub az az)
 intro k b';refine⟨fun J=>?_,fun J=>?_⟩
 .have J:decide ((k:Int) < (s.ks.length:Nat))=true:=J;have fc:k < s.ks.length:=by simpa using J
  refine⟨aw0,s.ks[k],iR (n:=k) fc,rfl,?_⟩;have O:(s.ks.take k).length+1<=4294967296:=ax7
  refine⟨O,rfl,aw0,k+1,aw0,aw0,ab.trans (ab.sub (K':=O5 s (k+1)) (B':=XX s (k+1) 30) az ⟨rfl,rfl,?_,trivial⟩) (ab.aV 30 2003 rfl)⟩;rw[at7 fc];rfl
 .have J:decide ((k:Int) < (s.ks.length:Nat))=false:=J;have fc:k=s.ks.length:=by simp at J;omega
  subst fc;exact br [] (ab.trans (ab.sub (K':=O5 s s.ks.length) (B':=[(2,.cells XW),(3,.cells (O4 s (.own 2003))),(2003,.row 89 ie s.ks)]) az ⟨rfl,rfl,congrArg (fun l=>some (ba.row 89 ie l)) as2,trivial⟩) (ab.d3 2003 rfl)) bc
abbrev zd (x y aB:Int):List bC:=[.d (.int .i64 x),.d (.int .i64 y),.d (.int .i64 aB)]
abbrev BA (x y aB:Int):aO:=.c (.agg (zd x y aB))
def vN (s:dA):Nat:=s.b.length+s.nm.length+s.fx.length
def ld (s:dA):Nat:=vN s+(s.ks.map lJ).sum
def oQ (l:List ih) (k:Nat):Nat:=((l.take k).map fun x=>ld (ct x)).sum
theorem XZ (l:List ih) {k:Nat} (h:k < l.length):oQ l (k+1)=oQ l k+ld (ct l[k]):=O1 (fun x=>ld (ct x)) h
def pF (y:Int) (l:List ih):Bool:=(decide (l.length<=60)&&decide ((l.map fun x=>ld (ct x)).sum<=4000))&&(decide (y<=8)||decide (256 < y))
abbrev ao2 (y:Int) (l:List ih) (k n:Nat):aX:=[(1,bv en l),(2,ah 2),(5,ac (n:Nat)),(10,bv en l),(11,ac (l.length:Nat)),(12,ac (k:Nat))]
abbrev ao3 (y:Int) (l:List ih) (k n:Nat) (s:dA) (j:Nat):aX:=[(1,bv en l),(2,ah 2),(5,ac (n:Nat)),(10,bv en l),(11,ac (l.length:Nat)),(12,ac (k:Nat)),(7,ah 7),(30,bv ie s.ks),(31,ac (s.ks.length:Nat)),(32,ac (j:Nat))]
theorem ao4 (x y aB:Int) (l:List ih) (ap:l.length<=1073741824) (cn:(l.map fun x=>ld (ct x)).sum<=1073741824) (hs: ∀o,o∈l->(ct o).ks.length<=1073741824):Fn Tryz.prog 10 [BA x y aB,bv en l] [] [] (fk (pF y l)) []:=by
 refine aT [] Tryz.func10 ?_;refine⟨rfl,dG [] (X:=Nat) (fun k=>ao2 y l k (oQ l k)) (fun _=>[(2,.cells (zd x y aB))]) (fun k=>k<=l.length) (fun k=>l.length - k) 0 (aq9 _) ?_ ?_⟩
 .exact ab.sub az az
 intro k Z;refine⟨fun h=>?_,fun h=>?_⟩
 .have b':k < l.length:=by
   have h:decide ((k:Int) < (l.length:Int))=true:=h;simpa using h
  have IR:=O0 (fun x=>ld (ct x)) l (k+1);have IR:oQ l (k+1)<=(l.map fun x=>ld (ct x)).sum:=IR;rw[XZ l b'] at IR;refine⟨aw0,l[k],iR (n:=k) b',?_⟩;have ao5:=hs _ (as3 b');have ke:=XZ l b';generalize l[k]=o at IR ao5 ke;have aqX:ld (ct o)=vN (ct o)+((ct o).ks.map lJ).sum:=rfl;have aqY:vN (ct o)=(ct o).b.length+(ct o).nm.length+(ct o).fx.length:=rfl;refine⟨rfl,?_⟩;have cC: -9223372036854775808<=((ct o).b.length:Int)+(ct o).nm.length/\((ct o).b.length:Int)+(ct o).nm.length<=9223372036854775807:=aw8
  have cF: -9223372036854775808<=((ct o).b.length:Int)+(ct o).nm.length+(ct o).fx.length/\((ct o).b.length:Int)+(ct o).nm.length+(ct o).fx.length<=9223372036854775807:=aw8
  have dD: -9223372036854775808<=(oQ l k:Int)+(((ct o).b.length:Int)+(ct o).nm.length+(ct o).fx.length)/\(oQ l k:Int)+(((ct o).b.length:Int)+(ct o).nm.length+(ct o).fx.length)<=9223372036854775807:=aw8
  refine⟨cC,cF,dD,dG [] (X:=Nat) (fun j=>ao3 y l k (oQ l k+vN (ct o)+(((ct o).ks.take j).map lJ).sum) (ct o) j) (fun _=>[(2,.cells (zd x y aB)),(7,.cells (OI (ct o)))]) (fun j=>j<=(ct o).ks.length) (fun j=>(ct o).ks.length - j) 0 (aq9 _) ?_ ?_⟩
  .have e:(oQ l k:Int)+(((ct o).b.length:Int)+(ct o).nm.length+(ct o).fx.length)=((oQ l k+vN (ct o)+(((ct o).ks.take 0).map lJ).sum:Nat):Int):=by
    rw[List.take_zero,av4,List.sum_nil];omega
   exact ab.sub ⟨rfl,rfl,e,rfl,rfl,rfl,rfl,rfl,rfl,rfl,trivial⟩ az
  intro j V;refine⟨fun G=>?_,fun G=>?_⟩
  .have eS:j < (ct o).ks.length:=by
    have G:decide ((j:Int) < ((ct o).ks.length:Int))=true:=G;simpa using G
   have fR:=O0 lJ (ct o).ks (j+1);rw[O1 lJ eS] at fR;have aqZ:j < List.length o.2.2.2.2.2.2:=eS;refine⟨aw0,(ct o).ks[j],iR (n:=j) eS,?_⟩;have ao:lJ (ct o).ks[j]=(mF (ct o).ks[j]).length+(pB (ct o).ks[j]).length:=rfl;refine⟨rfl,?_⟩;have r1: -9223372036854775808<=((mF (ct o).ks[j]).length:Int)+(pB (ct o).ks[j]).length/\((mF (ct o).ks[j]).length:Int)+(pB (ct o).ks[j]).length<=9223372036854775807:=aw8
   have r2: -9223372036854775808<=((oQ l k+vN (ct o)+(((ct o).ks.take j).map lJ).sum:Nat):Int)+(((mF (ct o).ks[j]).length:Int)+(pB (ct o).ks[j]).length)/\((oQ l k+vN (ct o)+(((ct o).ks.take j).map lJ).sum:Nat):Int)+(((mF (ct o).ks[j]).length:Int)+(pB (ct o).ks[j]).length)<=9223372036854775807:=aw8
   refine⟨r1,r2,aw0,j+1,aw0,aw0,ab.sub ⟨rfl,rfl,?_,rfl,rfl,rfl,rfl,rfl,rfl,rfl,trivial⟩ az⟩;show((oQ l k+vN (ct o)+(((ct o).ks.take j).map lJ).sum:Nat):Int)+(((mF (ct o).ks[j]).length:Int)+(pB (ct o).ks[j]).length)=_;rw[O1 lJ eS];omega
  .have eS:j=(ct o).ks.length:=by
    have G:decide ((j:Int) < ((ct o).ks.length:Int))=false:=G;have al:=mu G;have ao6:j<=(ct o).ks.length:=V;exact Nat.le_antisymm ao6 aw0
   subst eS;rw[as2];have hn:oQ l k+vN (ct o)+((ct o).ks.map lJ).sum=oQ l (k+1):=aw8
   rw[hn];refine⟨aw0,k+1,aw0,aw0,ab.sub az az⟩
 .have b':k=l.length:=by
   have h:decide ((k:Int) < (l.length:Int))=false:=h;simp at h;omega
  subst b';have ci:oQ l l.length=(l.map fun x=>ld (ct x)).sum:=by unfold oQ;rw[as2]
  rw[ci];have bd:pF y l=((decide (l.length<=60)&&decide ((l.map fun x=>ld (ct x)).sum<=4000))&&(decide (y<=8)||decide (256 < y))):=rfl;generalize(l.map fun x=>ld (ct x)).sum=n at*;refine⟨fun cJ=>?_,fun cJ=>?_⟩
  .have cJ:decide (l.length<=60)=true:=ar6 (by have:=gd cJ;omega);refine⟨fun cG=>?_,fun cG=>?_⟩
   .have cG:decide (n<=4000)=true:=ar6 (by have:=gd cG;omega);refine⟨fun hP=>?_,fun hP=>?_⟩
    .have hP:decide (y<=8)=true:=hP;refine⟨_,_,_,bq,rfl,(show true=pF y l from ?_),trivial,rfl⟩;rw[bd,cJ,cG,hP];rfl
    .have hP:decide (y<=8)=false:=hP;refine⟨_,_,_,bq,rfl,(show decide (256 < y)=pF y l from ?_),trivial,rfl⟩;rw[bd,cJ,cG,hP];rfl
   .have cG:decide (n<=4000)=false:=at3 (by have:=mu cG;omega);refine⟨_,_,_,bq,rfl,(show false=pF y l from ?_),trivial,rfl⟩;rw[bd,cJ,cG];rfl
  .have cJ:decide (l.length<=60)=false:=at3 (by have:=mu cJ;omega);refine⟨_,_,_,bq,rfl,(show false=pF y l from ?_),trivial,rfl⟩;rw[bd,cJ];rfl
theorem ao7 {y:Int} {l:List ih} (h:pF y l=true) {x:ih} (hx:x∈l):(ct x).b.length<=4000/\(ct x).nm.length<=4000/\ ∀k∈(ct x).ks,(mF k).length<=4000:=by
 unfold pF at h;simp only[vj,as1] at h;have E:ld (ct x)<=(l.map fun x=>ld (ct x)).sum:=O3 (f:=fun x=>ld (ct x)) hx;have G:ld (ct x)=(ct x).b.length+(ct x).nm.length+(ct x).fx.length+((ct x).ks.map lJ).sum:=rfl;refine⟨aw0,aw0,fun k Z=>?_⟩;have al:=O3 (f:=lJ) Z;have aW:lJ k=(mF k).length+(pB k).length:=rfl;omega
end
section
theorem fy.GE {w w':bT} {s:dA} {e:Int} (Z:s.kd=0) (h:fy w s e w'):e=(eU w.z w.L w.aQ s.a s.b).e/\w'=iK w s.a ((s.b.length:Int)/16) (eU w.z w.L w.aQ s.a s.b):=by
 cases h with
 |write h=>exact⟨rfl,rfl⟩
 |_=>omega
theorem fy.X0 {w w':bT} {s:dA} {e:Int} (Z:s.kd=7) (h:fy w s e w'):(oL w.bD=false/\e=143/\w'=w)\/(w.bD= .no/\OS w s e w'):=by
 cases h with
 |busy h V=>exact .inl ⟨V,rfl,rfl⟩
 |push h V aC=>exact .inr ⟨V,aC⟩
 |_=>omega
theorem fy.Ey {w w':bT} {s:dA} {e:Int} (Z:s.kd=8) (h:fy w s e w'):(w.bD= .no/\e=1/\w'=w)\/(∃top base l,w.bD= .c7 top base l false/\e=(gh w.z w.L top base l false).e/\w'={w with L:=(gh w.z w.L top base l false).L,bD:=if(gh w.z w.L top base l false).over=true then .no else .c7 top base (gh w.z w.L top base l false).l (gh w.z w.L top base l false).over})\/
  (∃top base,w.bD= .pl top base false/\e=(hU w.z w.L top base false).e/\w'={w with L:=(hU w.z w.L top base false).L,bD:=if(hU w.z w.L top base false).over=true then .no else .pl top base (hU w.z w.L top base false).over})\/
  ∃nm n rm l g,w.bD= .pu nm n rm l g false false/\IL w nm n rm l g e w':=by
 cases h with
 |AZ h V=>exact .inl ⟨V,rfl,rfl⟩
 |IN h V=>exact .inr (.inl ⟨_,_,_,V,rfl,rfl⟩)
 |iOz h V=>exact .inr (.inr (.inl ⟨_,_,V,rfl,rfl⟩))
 |IP h V aC=>exact .inr (.inr (.inr ⟨_,_,_,_,_,V,aC⟩))
 |_=>omega
def mc (p:Nat×Nat):List aM:=(eU 0 (qj 0 9 2 p) e1 0 (lK 97)).L
def xj (p:Nat×Nat):List aM:=(eU 0 (mc p) e1 0 (lK 98)).L
theorem X1 (p:Nat×Nat):(eU 0 (qj 0 9 2 p) e1 0 (lK 97)).e=0:=by kernel_rfl
theorem X2 (p:Nat×Nat):(eU 0 (mc p) e1 0 (lK 98)).e=0:=by kernel_rfl
theorem ao8 (p:Nat×Nat):cl (mc p) e1=2:=by kernel_rfl
theorem ao9:he (fun _=>true) 0 (2*2 ^0)=[0,1]:=by kernel_rfl
theorem ao' (p:Nat×Nat):lD 0 (mc p) e1 9 0 1 [0,1] [0,1] []=⟨0,[1],[(0,lK 97)],false⟩:=by kernel_rfl
theorem apa (p:Nat×Nat):jO 0 (mc p) e1 9 0 1 [0,1] [] false=⟨0,[1],[(0,lK 97)],false⟩:=by
 show lD 0 (mc p) e1 9 0 1 (pq [0,1]) [0,1] []=_;rw[aiC,ao']
theorem apb (p:Nat×Nat):ek 0 (xj p) e1 9 [1] [(0,lK 97)] 1=⟨0,[],[(0,lK 97),(1,List.replicate 16 0)],false⟩:=by kernel_rfl
theorem apc (p:Nat×Nat):ou 0 (xj p) e1 0 1=(lK 98,0):=by kernel_rfl
def X3:List je:=[((0:Int),lK 97),((1:Int),List.replicate 16 (0:UInt8))]
theorem apd:k2 [(0,lK 97),(1,List.replicate 16 0)]=X3:=by
 unfold k2;rw[show g5 (jN [(0,lK 97),(1,List.replicate 16 0)])=[0,1] from rfl,Ug (m:=[0,1]) (List.Perm.refl _) aw1];rfl
def sj:bR:=([120],[],(0:Int),(2:Int),X3)
theorem X4:gn [] sj=0:=by kernel_rfl
theorem ape:oM [sj]=0:=by kernel_rfl
theorem apf:r8 [sj] [120]=0:=by kernel_rfl
theorem apg:(vs [sj] [120]).length=32/\fz (vs [sj] [120]) 0=some 97:=⟨aw3,aw3⟩
abbrev e' (z R:Nat) (size:Int) (p:Nat×Nat) (db lb:Nat):bT:=⟨z,R,qj z R size p,e1,db,[],[],[],lb,[],0,.no,XS⟩
theorem X5 {z R:Nat} {size:Int} (G:h7 z size R=true) (p:Nat×Nat):dk (qj z R size p) e1=some ⟨e1,[],p.1,p.2,hI z size.toNat R,none⟩:=by
 have e:qj z R size p=nF [] e1 [] p.1 p.2 (hI z size.toNat R):=by
  show(ib z R [] e1 size [] p).L=_;unfold ib;rw[if_neg (by rw[G];decide),if_neg aw1,if_neg aw1,if_neg aw1]
 rw[e,Ds];rfl
theorem IS {z R:Nat} {size:Int} (G:h7 z size R=true) (p:Nat×Nat):cl (qj z R size p) e1=size.toNat:=by
 unfold cl;rw[X5 G];exact at1
theorem mJ.nil:mJ [] [] []:=⟨List.Pairwise.nil,fun p h=>ax0,⟨fun p h=>ax0,au7,au7,fun p h=>ax0,fun p h=>ax0⟩,fun p h=>ax0,.inl ⟨rfl,rfl⟩⟩
theorem nR.nil:nR []:=⟨⟨aw1,fun b h=>ax0,fun k b h=>ax0⟩,q7.nil⟩
theorem Ez {z R:Nat} {size:Int} (G:h7 z size R=true) {p:Nat×Nat} (ef:cr z R (qj z R size p)) (db lb:Nat):dP (e' z R size p db lb):=
 dP.no ⟨ef,by show(dk (qj z R size p) e1).isSome=true;rw[X5 G];rfl,dO.nil,fun e U=>(by cases U),nR.nil,mJ.nil,fun p ae=>(by cases ae)⟩ rfl
abbrev X6:dA:=⟨0,0,0,lK 97,[],[],[]⟩
abbrev O6:dA:=⟨7,0,9,[],[120],[],[]⟩
abbrev tp:dA:=⟨0,0,0,lK 98,[],[],[]⟩
abbrev IT:dA:=⟨8,0,0,[],[],[],[]⟩
theorem pE.of {s:dA} (E:s.b.length<=1000000) (G:s.nm.length<=1000000) (al:s.l<=9223372036854775807) (aW:s.ks=[]):pE s:=⟨E,G,al,by rw[aW];decide,by rw[aW];exact fun k h=>ax0⟩
abbrev um:Made:=uk [120] [] 0 2 [] none
def aph:Nat->bT->Prop
 |0,w=>w.bD= .pu e1 2 9 [1] [(0,lK 97)] false false/\w.bI=um/\w.Q=[]
 |1,w=>w.bD= .pu e1 2 9 [] [(0,lK 97),(1,List.replicate 16 0)] false false/\w.bI=um/\w.Q=[]
 |_,w=>w.bD= .no/\w.Q=[sj]
structure ze (p:Nat×Nat) (k:Nat) (w:bT):Prop where
 ok:dP w
 bi:w.z=0
 L:w.L=xj p
 aq0:w.aQ=e1
 aq1:aph k w
theorem api {p:Nat×Nat} {db lb:Nat} {e:Int} {w':bT} (h:fy (e' 0 9 2 p db lb) X6 e w'):e=0/\w'={e' 0 9 2 p db lb with L:=mc p}:=by
 obtain⟨rfl,rfl⟩:=h.GE rfl;refine⟨X1 p,?_⟩;unfold iK;rw[if_pos (X1 p)];rfl
theorem apj {p:Nat×Nat} {db lb:Nat} {e:Int} {w':bT} (h:fy {e' 0 9 2 p db lb with L:=mc p} O6 e w'):e=0/\ ∃b,w'={e' 0 9 2 p db lb with L:=mc p,b:=b,bD:=.pu e1 2 9 [0,1] [] false false,bI:=um}:=by
 have hn: ∀w:bT,w.Q=[]->sg w O6=false:=fun w h=>by
  unfold sg;rw[h];rfl
 rcases h.X0 rfl with⟨h,_⟩ |⟨_,h⟩
 .cases h
 .rcases h with⟨h,_⟩ |⟨_,⟨_,⟨h,_⟩ |⟨_,rfl,b,rfl⟩⟩ |⟨h,_⟩ |⟨h,_⟩⟩
  .exact absurd (h.symm.trans (hn _ rfl)) aw1
  .exact absurd h aw1
  .refine⟨rfl,b,?_⟩;have aR:eJ {e' 0 9 2 p db lb with L:=mc p}=2:=ao8 p;rw[aR,ao9];rfl
  .exact absurd rfl h
  .exact absurd rfl h
theorem apk {p:Nat×Nat} {db lb b:Nat} {e:Int} {w':bT} (aq:dP {e' 0 9 2 p db lb with L:=mc p,b:=b,bD:=.pu e1 2 9 [0,1] [] false false,bI:=um}) (h:fy {e' 0 9 2 p db lb with L:=mc p,b:=b,bD:=.pu e1 2 9 [0,1] [] false false,bI:=um} tp e w'):e=0/\ze p 0 w':=by
 have cW:=aq.step h;obtain⟨rfl,rfl⟩:=h.GE rfl;have ap:(((tp.b.length:Nat):Int)/16)=1:=by decide
 have V:re 0 (mc p) 0 1 (.pu e1 2 9 [0,1] [] false false)= .pu e1 2 9 [1] [(0,lK 97)] false false:=by
  unfold re;simp only[apa];rfl
 have e:iK {e' 0 9 2 p db lb with L:=mc p,b:=b,bD:=.pu e1 2 9 [0,1] [] false false,bI:=um} tp.a (((tp.b.length:Nat):Int)/16) (eU 0 (mc p) e1 tp.a tp.b)=⟨0,9,xj p,e1,db,[],[],[],lb,[],b,.pu e1 2 9 [1] [(0,lK 97)] false false,um⟩:=by
  unfold iK;rw[if_pos (X2 p),ap];simp only[V];rfl
 have ao:=e▸cW;refine⟨X2 p,?_⟩;show ze p 0 (iK {e' 0 9 2 p db lb with L:=mc p,b:=b,bD:=.pu e1 2 9 [0,1] [] false false,bI:=um} tp.a (((tp.b.length:Nat):Int)/16) (eU 0 (mc p) e1 tp.a tp.b));rw[e];exact⟨ao,rfl,rfl,rfl,rfl,rfl,rfl⟩
theorem X7 {w:bT} {g:List (Nat×aA0)} {e:Int} {t:IJ} (h:vL w g e (Bx w g t)) (d5:gn w.Q (gq w.bI g)=0) (aZ:oM (fX w.Q (gq w.bI g))=0):t.2.2.2.2=fX w.Q (gq w.bI g)/\e=0:=by
 have key: ∀e7,vK {w with bI:=qi w.bI g} (fX w.Q (gq w.bI g)) e e7->e7.Q=fX w.Q (gq w.bI g)/\e=0:=fun e7 G=>by
  obtain⟨U,b,_,⟨_,lb,rfl⟩ |⟨h,_⟩⟩:=G
  .exact⟨Eq.refl _,U.trans aZ⟩
  .exact absurd aZ h
 rcases h with⟨h,_⟩ |⟨_,e7,G,⟨_,al⟩ |⟨_,kP,bF,g2,eo,x,a,b,_,_,_,al⟩⟩
 .exact absurd d5 h
 .have:=key e7 G;exact⟨(congrArg bT.Q al).trans this.1,this.2⟩
 .have:=key e7 G;exact⟨(congrArg bT.Q al).trans this.1,this.2⟩
theorem apl {p:Nat×Nat} {k:Nat} {w w':bT} {e:Int} (a2:ze p k w) (h:fy w IT e w'):ze p (k+1) w':=by
 have cW:=a2.ok.step h;obtain⟨aq,E,G,al,aW⟩:=a2
 match k,aW with
 |0,aW=>
  obtain⟨k5,qV,w5⟩:=aW;rcases h.Ey rfl with⟨j,_⟩ |⟨_,_,_,j,_⟩ |⟨_,_,j,_⟩ |⟨nm,n,rm,l,g,j,aC⟩
  .rw[k5] at j;cases j
  .rw[k5] at j;cases j
  .rw[k5] at j;cases j
  .rw[k5] at j
   cases j
   rcases aC with⟨ap,_⟩ |⟨_,_,rfl⟩
   .cases ap
   .have aw:dE [1]=1:=rfl;rw[E,G,aw,apb] at cW⊢;exact⟨cW,rfl,rfl,al,rfl,qV,w5⟩
 |1,aW=>
  obtain⟨k5,qV,w5⟩:=aW;rcases h.Ey rfl with⟨j,_⟩ |⟨_,_,_,j,_⟩ |⟨_,_,j,_⟩ |⟨nm,n,rm,l,g,j,aC⟩
  .rw[k5] at j;cases j
  .rw[k5] at j;cases j
  .rw[k5] at j;cases j
  .rw[k5] at j
   cases j
   rcases aC with⟨_,t,aC,rfl⟩ |⟨ap,_⟩
   .have O:gq w.bI [(0,lK 97),(1,List.replicate 16 0)]=sj:=by
     rw[qV];show([120],[],(0:Int),(2:Int),k2 [(0,lK 97),(1,List.replicate 16 0)])=sj;rw[apd];rfl
    have ap:fX [] sj=[sj]:=by
     unfold fX;rw[X4];rfl
    have:=X7 aC (by show gn w.Q (gq w.bI _)=0;rw[O,w5];exact X4) (by show oM (fX w.Q (gq w.bI _))=0;rw[O,w5,ap];exact ape);refine⟨cW,E,G,al,rfl,this.1.trans ?_⟩;show fX w.Q (gq w.bI _)=_;rw[O,w5,ap]
   .exact absurd rfl ap
 |k+2,aW=>
  obtain⟨k5,qV⟩:=aW;rcases h.Ey rfl with⟨_,_,rfl⟩ |⟨_,_,_,j,_⟩ |⟨_,_,j,_⟩ |⟨nm,n,rm,l,g,j,aC⟩
  .exact⟨aq,E,G,al,k5,qV⟩
  .rw[k5] at j;cases j
  .rw[k5] at j;cases j
  .rw[k5] at j;cases j
end
section
abbrev apm (s:dA):List aO:=[ah 1401,.c (.agg (O4 s .dH))]
theorem X8 (w:bT) (aq:dP w) (s:dA) (ax:pE s) (av:s.ks=[]):cA Tryz.prog 12 (apm s) (cO w) [] (X:=nj (fy w s)) (fun p=>ac p.1.1) (fun p=>cO p.1.2):=
 cA.arg (zb w aq s ax) ⟨rfl,⟨rfl,rfl,rfl,rfl,rfl,rfl,by rw[av];rfl,trivial⟩,trivial⟩
abbrev apn (s:dA):List aO:=[ah 1401,.c (.agg [.d (.int .i64 s.kd),.d (.int .i64 s.a),.d (.int .i64 s.l),.dH,.d (.str s.nm),.d (.str s.fx),.dH])]
theorem zf (w:bT) (aq:dP w) (s:dA) (ax:pE s) (av:s.ks=[]) (E:s.b=[]):cA Tryz.prog 12 (apn s) (cO w) [] (X:=nj (fy w s)) (fun p=>ac p.1.1) (fun p=>cO p.1.2):=
 cA.arg (zb w aq s ax) ⟨rfl,⟨rfl,rfl,rfl,by rw[E];rfl,rfl,rfl,by rw[av];rfl,trivial⟩,trivial⟩
abbrev X9 (p:Nat×Nat) (db lb:Nat):bT:=⟨0,9,mc p,e1,db,[],[],[],lb,[],0,.no,XS⟩
abbrev X' (p:Nat×Nat) (db lb b:Nat):bT:=⟨0,9,mc p,e1,db,[],[],[],lb,[],b,.pu e1 2 9 [0,1] [] false false,um⟩
theorem IU:Fn Tryz.prog 11 [] [] [] (fk true) []:=by
 have hn:=Ex 0 9 2 aw1 aw1;refine aT [1,2,4,5,6,7,8,10,12] Tryz.func11 ?_;refine bk.gz ee aw3 ?_;refine⟨_,_,_,fun g=>_,fun g=>_,hn,trivial,rfl,fun _=>rfl,fun x=>?_⟩;obtain⟨p,ef⟩:=x;refine bk.eH (c5.mark 4001 4009 rfl aw1) fun db=>?_
 refine bk.le (ab.trans (ab.pC 1401 3 4001 4009 db rfl rfl rfl) (ab.trans (ab.pD 4001 4009 db rfl rfl) (ab.trans (ab.ll 1101 rfl) (ab.put 1101 4001 aw1 rfl rfl)))) <| bk.eH (c5.mark 3001 3009 rfl aw1) fun lb=>bk.le (ab.trans (ab.pC 1401 5 3001 3009 lb rfl rfl rfl) (ab.trans (ab.pD 3001 3009 lb rfl rfl) (ab.trans (ab.ll 1301 rfl) (ab.put 1301 3001 aw1 rfl rfl)))) <| bk.le (ab.trans (ab.nh 1401 8 rfl rfl) (ab.trans (ab.nh 1401 9 rfl rfl) (ab.trans (ab.nh 1401 16 rfl rfl) (ab.trans (ab.ll 1601 rfl) (ab.Ei 1501 1001 rfl aw1))))) ?_
 have av:=Ez aw1 ef db lb;have E:=X8 _ av X6 (pE.of aw1 aw1 aw1 rfl) rfl;refine br [4,5,6,7,8,10,12] (cw [(1,ah 1401),(2,ac 0)] (cO (e' 0 9 2 p db lb))) <| cX <| bk.gz ee aw3 <| hp ((XV 97 aw1 aw1).x) fun _=>⟨_,_,_,fun g=>_,fun g=>_,E,az,rfl,fun _=>rfl,fun x=>?_⟩
 obtain⟨⟨e,d0⟩,aC⟩:=x;have EA:=av.step aC;obtain⟨U,hw⟩:=api aC;have U:e=0:=U;have hw:d0=_:=hw;subst U hw;have EA:dP (X9 p db lb):=EA;have G:=zf _ EA O6 (pE.of aw1 aw1 aw1 rfl) rfl rfl;refine bk.le (cw [(1,ah 1401),(3,ac 0)] (cO (X9 p db lb))) <| bk.gz ee aw3 ⟨_,_,_,fun g=>_,fun g=>_,G,az,rfl,fun _=>rfl,fun x=>?_⟩;obtain⟨⟨e,e7⟩,n3⟩:=x;have ye:=EA.step n3;obtain⟨U,b,hw⟩:=apj n3;have U:e=0:=U;have hw:e7=_:=hw;subst U hw;have ye:dP (X' p db lb b):=ye;have al:=X8 _ ye tp (pE.of aw1 aw1 aw1 rfl) rfl;refine br [7,8,10,12] (cw [(1,ah 1401),(3,ac 0),(4,ac 0)] (cO (X' p db lb b))) <| ak (OG (z:=0) (R:=9) (L:=mc p) (aQ:=e1) (db:=db) (lb:=lb) (es:=[]) (M:=[]) (kd:=3) (fw:=ra b (.pu e1 2 9 [0,1] [] false false)) (c7:=none) (pu:=some b) (m:=um)) <| bk.gz ee aw3 <| hp ((XV 98 aw1 aw1).x) fun _=>⟨_,_,_,fun g=>_,fun g=>_,al,az,rfl,fun _=>rfl,fun x=>?_⟩
 obtain⟨⟨e,iy⟩,Ya⟩:=x;obtain⟨U,a2⟩:=apk ye Ya;have U:e=0:=U;have a2:ze p 0 iy:=a2;subst U;refine br [10,12] (cw [(1,ah 1401),(3,ac 0),(4,ac 0),(5,ac 3),(6,ac 0)] (cO iy)) ?_;clear Ya al ye G EA E av n3 aC;refine dG [10,12] (X:=Nat×bT) (fun x=>[(1,ah 1401),(3,ac 0),(4,ac 0),(5,ac 3),(6,ac 0),(36,ac (x.1:Nat))]) (fun x=>cO x.2) (fun x=>x.1<=3/\ze p x.1 x.2) (fun x=>3 - x.1) (0,iy) ⟨aw0,a2⟩ ?_ ?_
 .exact ab.sub az az
 rintro⟨k,w⟩ ⟨Z,a2⟩;have Z:k<=3:=Z;have a2:ze p k w:=a2;refine⟨fun h=>?_,fun h=>?_⟩
 .have h:decide ((k:Int) < 3)=true:=h;have fc:k < 3:=by have:=gd h;omega
  have gJ:=zf w a2.ok IT (pE.of aw1 aw1 aw1 rfl) rfl rfl;refine bk.gz ee aw3 ?_;refine⟨_,_,_,fun g=>_,fun g=>_,gJ,az,rfl,fun _=>rfl,fun x=>?_⟩;obtain⟨⟨e,w'⟩,aC⟩:=x;refine⟨aw0,(k+1,w'),⟨by show k+1<=3;omega,apl a2 aC⟩,by show 3 - (k+1) < 3 - k;omega,ab.sub az az⟩
 .have h:decide ((k:Int) < 3)=false:=h;have fc:k=3:=by have:=mu h;omega
  subst fc;obtain⟨aq,af,ao,bm,c6,f2⟩:=a2;have aP:=aq.q.tolE;have f0:=aq.cs;obtain⟨z,R,L,aQ,db,ds,es,M,lb,Q,b,bD,bI⟩:=w;simp only at af ao bm c6 f2 aP f0;subst af ao bm c6 f2;have gM:=Fn.lW (b:=lb) [1002] 1301 (U7 aP [120]);rw[apf] at gM;have cp:=Xk (aQ:=e1) (db:=db) (lb:=lb) (es:=es) (M:=M) (kd:=0) (fw:=.nilIface) (c7:=none) (pu:=none) (m:=bI) f0 0 1;rw[apc] at cp;obtain⟨r1,r2⟩:=apg;generalize vs [sj] [120]=bn at*;refine br [] (cw [(1,ah 1401),(3,ac 0),(4,ac 0),(5,ac 3),(6,ac 0)] (cO ⟨0,R,xj p,e1,db,ds,es,M,lb,[sj],b,.no,bI⟩)) <| ak (Xj (z:=0) (R:=R) (L:=xj p) (aQ:=e1) (db:=db) (lb:=lb) (es:=es) (M:=M) (kd:=0) (fw:=.nilIface) (c7:=none) (pu:=none) (m:=bI)) <| ak (anM (z:=0) (R:=R) (L:=xj p) (aQ:=e1) (db:=db) (lb:=lb) (es:=es) (M:=M) (kd:=0) (fw:=.nilIface) (c7:=none) (pu:=none) (m:=bI)) ⟨fun _ _=>ak gM <| ak cp <| d7 <| d7 <| d7 <| d7 <| ak (OG (z:=0) (R:=R) (L:=xj p) (aQ:=e1) (db:=db) (lb:=lb) (es:=es) (M:=M) (kd:=0) (fw:=.nilIface) (c7:=none) (pu:=none) (m:=bI)) <| d7 <| d7 ?_,fun h=>ax0⟩;have Ul:decide ((bn.length:Int)=32)=true:=by rw[r1];rfl
  exact⟨fun _=>⟨aw1,(97:UInt8),r2,d7 <| d7 ⟨aw1,(98:UInt8),rfl,d7 <| ej bq rfl (show decide (e1=e1)=true by decide)⟩⟩,fun h=>Bool.noConfusion (Ul.symm.trans h)⟩
end
section
theorem apo (z R:Int) (h:h7 z 0 R=false):Fn Tryz.prog 26 [ac z,ac R] [] [] (.cb [mZ,dp 1]) []:=by
 refine aT [] Tryz.func26 ?_;exact ak (SP z 0 R h) <| d7 bc
theorem IV (b s r:Int) (h:h7 b s r=false):Fn Tryz.prog 9 [ac b,ac s,ac r] [] [] (.cb [mZ,dp 1]) []:=by
 by_cases E:h7 b 0 r=true
 .have aw:=E;simp only[h7,vj,as1] at aw;obtain⟨⟨_,vO,n3⟩,gb,gU⟩:=aw;obtain⟨z,rfl⟩:=Int.eq_ofNat_of_zero_le gb;obtain⟨R,rfl⟩:=Int.eq_ofNat_of_zero_le vO;have ef:cr z R []:=cr.nil aw0 aw0
  have U:(ib z R [] e1 s [] (0,0)).e=1:=by
   unfold ib;rw[if_pos (by rw[h];rfl)]
  have hn:=SU z R aw0 aw0;have ha:=OM ef e1 s [] aw1;rw[U] at ha;refine aT [2] Tryz.func9 ?_;exact ak hn <| br [] (ab.close 1001 (bS z R []) (o:=Ek z R []) az rfl fun I F x p h=>h) <| cX <| ak ha <| d7 bc
 .have hn:=apo b r (au8.2 E);refine aT [] Tryz.func9 ?_;exact ak hn <| d7 bc
theorem O7 (x:ih):ld (ct x)+(ct x).ks.length+1<=eY en x:=by
 have E:=XT (ct x).b;have G:=O2 (ct x).ks;have e:eY en x=1+(1+(1+(eY (.b4 .u8) (ct x).b+((1+(ct x).nm.length)+((1+(ct x).fx.length)+eY (.b4 ie) (ct x).ks))))):=rfl;have ao:ld (ct x)=(ct x).b.length+(ct x).nm.length+(ct x).fx.length+((ct x).ks.map lJ).sum:=rfl;rw[e,E,G,ao];omega
theorem Yb: ∀l:List ih,l.length+(l.map fun x=>ld (ct x)).sum<=eY (.b4 en) l/\ ∀x∈l,eY en x<=eY (.b4 en) l
 | []=>⟨aq9 _,fun x h=>ax0⟩
 |o::l=>by
  obtain⟨E,G⟩:=Yb l;have e:eY (.b4 en) (o::l)=1+(eY en o+(List.map (eY en) l).sum):=rfl;have ao:eY (.b4 en) l=1+(List.map (eY en) l).sum:=rfl;have bm:=O7 o;refine⟨?_,fun x hx=>?_⟩
  .rw[e,au1,ar8,List.sum_cons];omega
  .rcases aq7.1 hx with rfl |hx
   .rw[e];omega
   .have:=G x hx;rw[e];omega
structure lf (l:List ih):Prop where
 len:l.length<=1048576
 sum:(l.map fun x=>ld (ct x)).sum<=1048576
 ks: ∀o,o∈l->(ct o).ks.length<=1048576
 l: ∀o,o∈l->(ct o).l<=9223372036854775807
theorem lf.of {l:List ih} (h:eY (.b4 en) l<=1048576) (ap: ∀o,o∈l->(ct o).l<=9223372036854775807):lf l:=by
 obtain⟨E,G⟩:=Yb l;refine⟨aw0,aw0,fun o ag=>?_,ap⟩;have:=G o ag;have:=O7 o;omega
theorem lf.one {x:ih} (h:eY en x<=1048576) (ap:(ct x).l<=9223372036854775807):lf [x]:=by
 have:=O7 x;refine⟨by show 1<=1048576;decide,?_,fun o ag=>?_,fun o ag=>?_⟩
 .show ld (ct x)+0<=_;omega
 .obtain rfl:=ar5.1 ag;omega
 .obtain rfl:=ar5.1 ag;exact ap
theorem lf.q4 {l:List ih} (h:lf l) (x y aB:Int):Fn Tryz.prog 10 [BA x y aB,bv en l] [] [] (fk (pF y l)) []:=
 ao4 x y aB l (by have:=h.len;omega) (by have:=h.sum;omega) fun o ag=>by have:=h.ks o ag;omega
theorem lf.EB {l:List ih} (h:lf l) {y:Int} (hf:pF y l=true) {x:ih} (hx:x∈l):pE (ct x):=by
 obtain⟨E,G,al⟩:=ao7 hf hx;exact⟨aw0,aw0,h.l x hx,by have:=h.ks x hx;omega,fun k Z=>by have:=al k Z;omega⟩
theorem lf.step {l:List ih} (h:lf l) {x:ih} (hx:x∈l):Fn Tryz.prog 13 [ig (ct x)] [] [] (ig (ct x)) []:=XY (ct x) (by have:=h.ks x hx;omega)
abbrev sk (w:bT):ay:=lc w.z w.R w.L w.es w.M w.aQ w.db w.lb (rb w.bD) (ra w.b w.bD) (xc w.b w.bD) (xd w.b w.bD) w.bI
theorem BB (w:bT):Fn Tryz.prog 19 [ah 1401] (sk w) [] (ac (rb w.bD)) (sk w):=OG
theorem BC (w:bT):Fn Tryz.prog 15 [ah 1401] (sk w) [] (c8 w.lb) (sk w):=Xj
theorem IW (w:bT):Fn Tryz.prog 22 [ah 1401] (sk w) [] (c8 w.db) (sk w):=anN
theorem EC (w:bT) (h:cr w.z w.R w.L) (a l:Int):Fn Tryz.prog 14 [ah 1401,ac a,ac l] (sk w) [] (.cb [.one (.d (.cf .u8 (ou w.z w.L w.aQ a l).1)),dp (ou w.z w.L w.aQ a l).2]) (sk w):=Xk h a l
theorem app {o:ih} (h:rC en o):(ct o).l<=9223372036854775807:=by
 have G:(Lit.int .i64 (ct o).l).wf=true:=h.2.2.1;have al:(decide (IntKind.i64.min<=(ct o).l)&&decide ((ct o).l<=IntKind.i64.max))=true:=G;simp only[vj] at al;exact gd al.2
theorem IX {l:List ih} (h:rC (.b4 en) l): ∀o,o∈l->(ct o).l<=9223372036854775807:=fun o ag=>app (h o ag)
end
end Go.Proofs.YtkfbeijmgggkmaaGreat
