/-
A part of the proof of this claim: lemmas, with no condition beyond what each says.
-/
import Derived.Test.YtgclhiekndohdaaGreatZp5
set_option linter.all false
set_option maxRecDepth 100000
set_option maxHeartbeats 0
namespace Go.Proofs.YtgclhiekndohdaaGreat
open Go.RowKit Go.Proofs _root_.Go.Proofs.Tryz Tryz
section
abbrev jC (z R:Nat) (L:aD5) (b:Nat) (j:kY):av:=[mA z R L,(1501,.bY 1001 (U' z b j))]
def Fn.qb {f:aE8} {args:List aN} {z R:Nat} {L L':aD5} {res:aN} {b:Nat} {bp dD:av} (h:Fn prog f (.c (.one (.ptr 2001 0))::args) (bM z R L++bp) [] res (bM z R L'++dD)) (Z:Jw 2001 1001 1501 args (bM z R L) bp res (bM z R L') dD=true)
  (E:nA 1001 [1002,1003,1004] (.c (.one (.d (.aM (some b))))::args) (bM z R L) [(1501,.bY 1001 (nH b 2001 1001 bp))] [] []=true) (G:nB 1001 (mh [1002,1003,1004] [] []) res (bM z R L') [(1501,.bY 1001 (nH b 2001 1001 dD))]=true):
  Fn prog f (.c (.one (.d (.aM (some b))))::args) [mA z R L,(1501,.bY 1001 (nH b 2001 1001 bp))] [] res [mA z R L',(1501,.bY 1001 (nH b 2001 1001 dD))]:=
 Fn.ye (h.abX Z) E G
section
variable {z R:Nat} {L:aD5} {top base nm:aD2} {l:aD3} {over done:Bool} {b:Nat} {n rm:Int} {g:aD6}
def alv (h:la z R L top l):Fn prog 321 [di b] (jC z R L b (.dv top base l over)) [] (.cm [.one (.d (.bool (eY z L top base l over).done)),dJ (eY z L top base l over).e]) (jC z R (eY z L top base l over).L b (.dv top base (eY z L top base l over).l (eY z L top base l over).over)):=
 Fn.qb (bp:=sf ..) (dD:=sf ..) (h.Lv base over) rfl rfl rfl
def G4:Fn prog 320 [di b] (jC z R L b (.dv top base l over)) [] (gT over) (jC z R L b (.dv top base l over)):=
 Fn.qb (bp:=sf ..) (dD:=sf ..) (afZ z R L top base l over) rfl rfl rfl
def alw:Fn prog 319 [di b] (jC z R L b (.dv top base l over)) [] gU (jC z R L b (.dv top base [] true)):=
 Fn.qb (bp:=sf ..) (dD:=sf ..) (af0 z R L top base l over) rfl rfl rfl
def alx (h:cc z R L) (a aT:Int) (ux:aT<=9223372036854775807) {d:aL} (H:dk L top=some d):Fn prog 122 [di b,ab a,ab aT] (jC z R L b (.dv top base l over)) [] gU (jC z R L b (.dv top base (p1 z L top l over a aT) over)):=
 Fn.qb (bp:=sf ..) (dD:=sf ..) (af' h base l over a aT ux H) rfl rfl rfl
def aly (h:cc z R L) {d:aL} (H:dk L top=some d):Fn prog 332 [di b] (jC z R L b (.pl top base over)) [] (.cm [.one (.d (.bool (hH z L top base over).done)),dJ (hH z L top base over).e]) (jC z R (hH z L top base over).L b (.pl top base (hH z L top base over).over)):=
 Fn.qb (bp:=uT ..) (dD:=uT ..) (ahp h base over H) rfl rfl rfl
def G5:Fn prog 331 [di b] (jC z R L b (.pl top base over)) [] (gT over) (jC z R L b (.pl top base over)):=
 Fn.qb (bp:=uT ..) (dD:=uT ..) (ahd z R L top base over) rfl rfl rfl
def alz:Fn prog 330 [di b] (jC z R L b (.pl top base over)) [] gU (jC z R L b (.pl top base true)):=
 Fn.qb (bp:=uT ..) (dD:=uT ..) (ahe z R L top base over) rfl rfl rfl
def alA (h:fU z R L nm l g):Fn prog 328 [di b] (jC z R L b (.pu nm n rm l g over done)) [] (.cm [.one (.d (.bool (jP z L nm rm l g over done).s0)),dJ (jP z L nm rm l g over done).e])
  (jC z R L b (.pu nm n rm (jP z L nm rm l g over done).l (jP z L nm rm l g over done).g (jP z L nm rm l g over done).over (jP z L nm rm l g over done).done)):=
 Fn.qb (bp:=nf ..) (dD:=nf ..) (h.Lv n rm over done) rfl rfl rfl
def M4:Fn prog 327 [di b] (jC z R L b (.pu nm n rm l g over done)) [] (gT over) (jC z R L b (.pu nm n rm l g over done)):=
 Fn.qb (bp:=nf ..) (dD:=nf ..) (agH z R L nm n rm l g over done) rfl rfl rfl
def Vi:Fn prog 86 [di b] (jC z R L b (.pu nm n rm l g over done)) [] (gT done) (jC z R L b (.pu nm n rm l g over done)):=
 Fn.qb (bp:=nf ..) (dD:=nf ..) (agI z R L nm n rm l g over done) rfl rfl rfl
def alB:Fn prog 235 [di b] (jC z R L b (.pu nm n rm l g over done)) [] gU (jC z R L b (.pu nm n rm [] g true done)):=
 Fn.qb (bp:=nf ..) (dD:=nf ..) (SE z R L nm n rm l g over done) rfl rfl rfl
def alC (h:fU z R L nm l g) (a aT:Int) (G:aT<=9223372036854775807):Fn prog 120 [di b,ab a,ab aT] (jC z R L b (.pu nm n rm l g over done)) [] (ab (jQ z L nm rm a aT l g over).e)
  (jC z R L b (.pu nm n rm (jQ z L nm rm a aT l g over).l (jQ z L nm rm a aT l g over).g (jQ z L nm rm a aT l g over).over done)):=
 Fn.qb (bp:=nf ..) (dD:=nf ..) (h.ag3 n rm over done a aT G) rfl rfl rfl
def Vj (h:fU z R L nm l g):Fn prog 142 [di b] (jC z R L b (.pu nm n rm l g over true)) [] (.cm [.one (.d (.cr s7 (nP g))),.one (.d (.int .i64 n)),.one (.d (.bool true))]) (jC z R L b (.pu nm n rm l g over true)):=
 Fn.qb (bp:=nf ..) (dD:=nf ..) (h.ag4 n rm over) rfl rfl rfl
end
end
section
def rc (z:Nat) (L:aD5) (a aT:Int):kY->kY
 | .pu nm n rm l g over done=>if(jQ z L nm rm a aT l g over).e=0 then .pu nm n rm (jQ z L nm rm a aT l g over).l (jQ z L nm rm a aT l g over).g (jQ z L nm rm a aT l g over).over done else .no
 |j=>j
def Dk (z:Nat) (L:aD5) (a aT:Int):kY->kY
 | .dv top base l over=>.dv top base (p1 z L top l over a aT) over
 |j=>j
def Dl (a aT:Int) (j:kY) (eg:Option (Nat×Di)):Option (Nat×Di):=match we 0 j with
 |none=>eg
 |some _=>eg.map fun p=>(p.1,p.2.1,p.2.2.1,m6 p.2.1 p.2.2.1 p.2.2.2 a aT)
def h3 (w:bQ) (a aT:Int) (r:m0):bQ:=if r.e=0 then {w with L:=r.L,ds:=w.ds.map (kX a aT),bL:=Dk w.z r.L a aT (rc w.z w.L a aT w.bL),bO:={w.bO with eg:=Dl a aT (rc w.z w.L a aT w.bL) w.bO.eg}} else {w with L:=r.L,bL:=rc w.z w.L a aT w.bL}
def wj (z R:Nat) (L:aD5) (aX:aD2):kY->Prop
 | .no=>True
 | .dv top base l over=>top=aX/\over=false/\la z R L top l
 | .pl top base over=>top=aX/\over=false
 | .pu nm n rm l g over done=>nm=aX/\over=false/\done=false/\n=((b6 L aX:Nat):Int)/\fU z R L nm l g
def alD (q b:Nat) (s g:Int) (es:aD4) (a aT:Int) (ax:0<=s/\s<=4096) (aV:1<=g/\g<=64):Fn prog 123 [di b,ab a,ab aT] [(1601,.aA (.bD [(b,e9 s g es)]))] [] (ab (if xN s a aT then 0 else 1)) [(1601,.aA (.bD [(b,e9 s g (m6 s g es a aT))]))]:=
 Fn.nG [1002] 1601 (LA s g es a aT ax aV)
abbrev G6 (w:bQ) (s:d3) (f:Nat) (r:m0):Prop:= ∀(kd:Int) (gG:aE7) (dv pu:aE2),Fn prog f [ap 2,ap 3] (G3 w.z w.R w.L w.es w.M w.aX w.db w.lb kd gG dv pu w.bO s) [] (ab r.e) (G3 w.z w.R r.L w.es w.M w.aX w.db w.lb kd gG dv pu w.bO s)
def Vk (w:bQ) (s:d3) (f:Nat) (a aT:Int) (r:m0) (V:w.bL= .no\/ ∃top base over,w.bL= .pl top base over) (jJ:e' w.ds) (hf:G6 w s f r):
  Fn prog 66 [ap 1401,ab a,ab aT,.c (.one (.cW f [.p 2 0,.p 3 0]))] (cS w++rb s) [] (ab r.e) (cS (h3 w a aT r)++rb s):=by
 obtain⟨z,R,L,aX,db,ds,es,M,lb,Q,b,bL,bO⟩:=w;simp only at V jJ;have hw:=Fn.nG (b:=db) [1002,1003,1004] 1101 (MZ jJ a aT);have af:AA b bL=none:=by rcases V with rfl |⟨_,_,_,rfl⟩ <;>rfl
 have al:we b bL=none:=by rcases V with rfl |⟨_,_,_,rfl⟩ <;>rfl
 have bt:rc z L a aT bL=bL:=by rcases V with rfl |⟨_,_,_,rfl⟩ <;>rfl
 have c3:Dk z r.L a aT bL=bL:=by rcases V with rfl |⟨_,_,_,rfl⟩ <;>rfl
 have gi:Dl a aT bL bO.eg=bO.eg:=by rcases V with rfl |⟨_,_,_,rfl⟩ <;>rfl
 have hf:=hf (wg bL) (ra b bL) (AA b bL) (we b bL)
 by_cases U:r.e=0
 .have pD:h3 ⟨z,R,L,aX,db,ds,es,M,lb,Q,b,bL,bO⟩ a aT r=⟨z,R,r.L,aX,db,ds.map (kX a aT),es,M,lb,Q,b,bL,bO⟩:=by
   unfold h3;simp only[bt,c3,gi,vj U]
  rw[pD];refine aU [] func66 ?_;refine⟨fun _ h=>(by rw[al] at h;cases h),fun _=>az hf ⟨fun h=>ap0 h aC8,fun h=>az hw ?_⟩⟩;refine⟨fun _ h=>(by rw[af] at h;cases h),fun _=>?_⟩;exact⟨fun _ h=>(by rw[al] at h;cases h),fun _=>er bu rfl U.symm⟩
 .have pD:h3 ⟨z,R,L,aX,db,ds,es,M,lb,Q,b,bL,bO⟩ a aT r=⟨z,R,r.L,aX,db,ds,es,M,lb,Q,b,bL,bO⟩:=by
   unfold h3;simp only[bt,mu U]
  rw[pD];refine aU [] func66 ?_;exact⟨fun _ h=>(by rw[al] at h;cases h),fun _=>az hf ⟨fun h=>bd,fun h=>ap0 h aC8⟩⟩
def alE (w:bQ) (s:d3) (f:Nat) (a aT:Int) (r:m0) {top base:aD2} {l:aD3} {over:Bool} (V:w.bL= .dv top base l over) (jJ:e' w.ds) (fZ:cc w.z w.R r.L) {d:aL} (H:dk r.L top=some d) (ux:aT<=9223372036854775807) (hf:G6 w s f r):
  Fn prog 66 [ap 1401,ab a,ab aT,.c (.one (.cW f [.p 2 0,.p 3 0]))] (cS w++rb s) [] (ab r.e) (cS (h3 w a aT r)++rb s):=by
 obtain⟨z,R,L,aX,db,ds,es,M,lb,Q,b,bL,bO⟩:=w;simp only at V jJ fZ;subst V;have hw:=Fn.nG (b:=db) [1002,1003,1004] 1101 (MZ jJ a aT);have aD:=alx (b:=b) (base:=base) (l:=l) (over:=over) fZ a aT ux H;have hf:=hf 1 (ra b (.dv top base l over)) (some b) none
 by_cases U:r.e=0
 .have pD:h3 ⟨z,R,L,aX,db,ds,es,M,lb,Q,b,.dv top base l over,bO⟩ a aT r=⟨z,R,r.L,aX,db,ds.map (kX a aT),es,M,lb,Q,b,.dv top base (p1 z r.L top l over a aT) over,bO⟩:=by
   unfold h3;simp only[vj U,rc,Dk,Dl,we]
  rw[pD];refine aU [] func66 ?_;exact⟨fun _ h=>aA7,fun _=>az hf ⟨fun h=>ap0 h aC8,fun h=>az hw ⟨fun _ _=>az aD ⟨fun _ h=>aA7,fun _=>er bu rfl U.symm⟩,fun h=>aA7⟩⟩⟩
 .have pD:h3 ⟨z,R,L,aX,db,ds,es,M,lb,Q,b,.dv top base l over,bO⟩ a aT r=⟨z,R,r.L,aX,db,ds,es,M,lb,Q,b,.dv top base l over,bO⟩:=by
   unfold h3;simp only[mu U,rc]
  rw[pD];refine aU [] func66 ?_;exact⟨fun _ h=>aA7,fun _=>az hf ⟨fun h=>bd,fun h=>ap0 h aC8⟩⟩
def alF (w:bQ) (s:d3) (f:Nat) (a aT:Int) (r:m0) {nm:aD2} {n rm:Int} {l:aD3} {g:aD6} {over done:Bool} (V:w.bL= .pu nm n rm l g over done) (jJ:e' w.ds) (ao:fU w.z w.R w.L nm l g) (ux:aT<=9223372036854775807)
  (xR: ∀p,w.bO.eg=some p->(0<=p.2.1/\p.2.1<=4096)/\1<=p.2.2.1/\p.2.2.1<=64) (hf:G6 w s f r):
  Fn prog 66 [ap 1401,ab a,ab aT,.c (.one (.cW f [.p 2 0,.p 3 0]))] (cS w++rb s) [] (ab r.e) (cS (h3 w a aT r)++rb s):=by
 obtain⟨z,R,L,aX,db,ds,es,M,lb,Q,b,bL,bO⟩:=w;simp only at V jJ ao xR;subst V;have hw:=Fn.nG (b:=db) [1002,1003,1004] 1101 (MZ jJ a aT);have O:=alC (b:=b) (n:=n) (rm:=rm) (over:=over) (done:=done) ao a aT ux;have I7:rc z L a aT (.pu nm n rm l g over done)=if(jQ z L nm rm a aT l g over).e=0 then .pu nm n rm (jQ z L nm rm a aT l g over).l (jQ z L nm rm a aT l g over).g (jQ z L nm rm a aT l g over).over done else .no:=rfl
 unfold h3;simp only[I7];generalize jQ z L nm rm a aT l g over=y at*
 by_cases aC:y.e=0
 .have hf:=hf 3 (ra b (.pu nm n rm l g over done)) none (some b);simp only[vj aC]
  by_cases U:r.e=0
  .simp only[vj U];obtain⟨fS,eB,eg⟩:=bO
   cases eg with
   |none=>
    show Fn _ _ _ _ _ _ (cS ⟨z,R,r.L,aX,db,ds.map (kX a aT),es,M,lb,Q,b,.pu nm n rm y.l y.g y.over done,⟨fS,eB,none⟩⟩++rb s);refine aU [] func66 ?_;exact⟨fun _ _=>az O ⟨fun h=>ap0 h (by simp[aC]),fun _=>az hf ⟨fun h=>ap0 h aC8,fun h=>az hw ⟨fun _ h=>aA7,fun _=>⟨fun _ _=>⟨fun _ h=>aA7,fun _=>er bu rfl U.symm⟩,fun h=>aA7⟩⟩⟩⟩,fun h=>aA7⟩
   |some p=>
    obtain⟨jT,aR,M5,Vl⟩:=p;obtain⟨co,cZ⟩:=xR _ rfl;have ax:=alD 1601 jT aR M5 Vl a aT co cZ;show Fn _ _ _ _ _ _ (cS ⟨z,R,r.L,aX,db,ds.map (kX a aT),es,M,lb,Q,b,.pu nm n rm y.l y.g y.over done,⟨fS,eB,some (jT,aR,M5,m6 aR M5 Vl a aT)⟩⟩++rb s);refine aU [] func66 ?_;exact⟨fun _ _=>az O ⟨fun h=>ap0 h (by simp[aC]),fun _=>az hf ⟨fun h=>ap0 h aC8,fun h=>az hw ⟨fun _ h=>aA7,fun _=>⟨fun _ _=>⟨fun _ _=>az ax <| er bu rfl U.symm,fun h=>aA7⟩,fun h=>aA7⟩⟩⟩⟩,fun h=>aA7⟩
  .simp only[mu U];refine aU [] func66 ?_;exact⟨fun _ _=>az O ⟨fun h=>ap0 h (by simp[aC]),fun _=>az hf ⟨fun h=>bd,fun h=>ap0 h aC8⟩⟩,fun h=>aA7⟩
 .have hf:=hf 0 .nilIface none none;have aV:=wi (z:=z) (R:=R) (L:=L) (aX:=aX) (db:=db) (lb:=lb) (kd:=3) (gG:=ra b (.pu nm n rm l g over done)) (dv:=none) (pu:=some b) (m:=bO) (es:=es) (M:=M);simp only[mu aC]
  by_cases U:r.e=0
  .simp only[vj U];show Fn _ _ _ _ _ _ (cS ⟨z,R,r.L,aX,db,ds.map (kX a aT),es,M,lb,Q,b,.no,bO⟩++rb s);refine aU [3] func66 ?_;exact⟨fun _ _=>az O ⟨fun _=>az aV <| bx [] (ac.se 1501 1001 rfl) <| az hf ⟨fun h=>ap0 h aC8,fun h=>az hw ⟨fun _ h=>aA7,fun _=>⟨fun _ h=>aA7,fun _=>er bu rfl U.symm⟩⟩⟩,fun h=>ap0 h (by simp[aC])⟩,fun h=>aA7⟩
  .simp only[mu U];refine aU [3] func66 ?_;exact⟨fun _ _=>az O ⟨fun _=>az aV <| bx [] (ac.se 1501 1001 rfl) <| az hf ⟨fun h=>bd,fun h=>ap0 h aC8⟩,fun h=>ap0 h (by simp[aC])⟩,fun h=>aA7⟩
end
section
structure re (L:aE6):Prop extends nW L where
 M6:q' L
end
section
def G7 (es:gF) (k:aD2) (a:aE2):iG (lY es k a) k=a/\ ∀j,j≠k->iG (lY es k a) j=iG es j:=by
 obtain⟨E,G⟩:=y7 (aI:=.str) (aK:=.aM) pL (k:aa .str) (a:aa .aM) es;refine⟨?_,fun j V=>?_⟩
 .show((bV (aI:=.str) (aK:=.aM) (dw (aI:=.str) (aK:=.aM) es k a) k).getD (cM .aM))=a;rw[E];rfl
 .show((bV (aI:=.str) (aK:=.aM) (dw (aI:=.str) (aK:=.aM) es k a) j).getD (cM .aM))=_;rw[G j V];rfl
def Vm {es:gF} (h:e5 es) (k:aD2):iG (jB es k) k=none/\ ∀j,j≠k->iG (jB es k) j=iG es j:=by
 obtain⟨E,G⟩:=BT (aI:=.str) (aK:=.aM) pL (k:aa .str) es h;refine⟨?_,fun j V=>?_⟩
 .show((bV (aI:=.str) (aK:=.aM) (gB (aI:=.str) (aK:=.aM) es k) k).getD (cM .aM))=none;rw[E];rfl
 .show((bV (aI:=.str) (aK:=.aM) (gB (aI:=.str) (aK:=.aM) es k) j).getD (cM .aM))=_;rw[G j V];rfl
def alG {es:gF} (h:e5 es) (G: ∀p,p∈es->uN p=tg\/uN p=gn):es.length<=2:=by
 match es,h,G with
 | [],_,_=>exact ap9 _
 | [_],_,_=>exact Nat.le_succ 1
 | [_,_],_,_=>exact ao9 _
 |x::y::aF::l,h,G=>
  exfalso
  have ne: ∀{p q:aa .str×aa .aM},fD .str p.1 q.1=false->uN p≠uN q:=fun {p q} e bf=>by
   have:fD .str p.1 q.1=true:=(pL p.1 q.1).2 bf;rw[e] at this
   cases this
  obtain⟨bR,b'⟩:=List.pairwise_cons.1 h;obtain⟨b1,b2⟩:=List.pairwise_cons.1 b';have c4:=ne (bR y az9);have ec:=ne (bR aF az9);have mn:=ne (b1 aF az9);rcases G x az9 with af |af <;>rcases G y az9 with al |al <;>rcases G aF az9 with bt |bt <;>simp_all
structure pr (es:gF) (M:fh) (Q:aE6):Prop where
 h9:e5 es
 two: ∀p,p∈es->uN p=tg\/uN p=gn
 bD:td es M 0
 alH: ∀p,p∈M->p.2.je=[]/\p.2.uI=p.2.b8
 cr:(iG es tg=none/\Q=[])\/ ∃a m,iG es tg=some a/\jA M a=some m/\US m 512 4096 (j' Q)/\((j' Q).length:Int)<=dO 512*16
def Vn:(tg:aD2)≠gn:=by decide
def alI {M:fh} {a:Nat} {m:cJ} (h:jA M a=some m):a∈M.map (·.1):=ar8 (f:=fun p:Nat×cJ=>p.1) (UA h)
def pr.alJ {es:gF} {M:fh} {Q:aE6} (h:pr es M Q):iG (jB es gn) gn=none/\(jB es gn).length < 16/\ ∀b,iG (lY (jB es gn) gn (some b)) gn=some b:=by
 have G:(jB es gn).length<=2:=alG (e5.mO h.h9) fun p ao=>h.two p (xf ao)
 exact⟨(Vm h.h9 gn).1,az7,fun b=>(G7 _ _ _).1⟩
def pr.alK {es:gF} {M:fh} {Q Q':aE6} (h:pr es M Q) {b:Nat} (O:b∉M.map (·.1)):pr (uR 512 es Q' b) ((b,th 512 4096 Q' b)::M) (if wc 512 Q'=0 then Q' else Q):=by
 have co:e5 (jB es gn):=e5.mO h.h9;have cZ:e5 (lY (jB es gn) gn (some b)):=e5.put pL co
 have Vo: ∀p,p∈lY (jB es gn) gn (some b)->uN p=tg\/uN p=gn:=fun p ao=>by
  rcases Df ao with rfl |ao
  .exact .inr rfl
  .exact h.two p (xf ao)
 have hf: ∀m,(m=th 512 4096 Q' b)-> ∀p,p∈((b,m)::M:fh)->m.je=[]/\m.uI=m.b8->p.2.je=[]/\p.2.uI=p.2.b8:=fun m _ p ao aD=>by
  rcases ap7.1 ao with rfl |ao
  .exact aD
  .exact h.alH p ao
 by_cases J:((j' Q').length:Int)<=dO 512*16
 .have oO:=akU (n:=512) (R:=4096) rfl az8 az8 J;have af:wc 512 Q'=0:=vj J;have al:uR 512 es Q' b=_:=vj J;have bt:th 512 4096 Q' b=_:=vj J;have ao:=(h.bD.mO gn).add (k:=gn) (m:=uQ 512 4096 (j' Q')) O oO.ok (by rw[oO.h5];exact ao9 _);have g1:=(G7 (jB es gn) gn (some b)).1;rw[af,vj rfl,al,bt];refine⟨e5.put pL (e5.mO cZ),fun p ao=>?_,ao.a7 g1,fun p ao=>hf _ bt.symm p ao ⟨oO.h5,oO.akT⟩,.inr ⟨b,_,(G7 _ _ _).1,vj rfl,oO,J⟩⟩;rcases Df ao with rfl |ao
  .exact .inl rfl
  .exact Vo p (xf ao)
 .have af:wc 512 Q'=1:=mu J;have al:uR 512 es Q' b=_:=mu J;have bt:th 512 4096 Q' b=_:=mu J;have ao:=(h.bD.mO gn).add (k:=gn) (m:=kF 512 4096) O (hv.new rfl) (ao9 _);rw[af,mu az8,al,bt];refine⟨cZ,Vo,ao,fun p ao=>hf _ bt.symm p ao ⟨rfl,rfl⟩,?_⟩;have g1:iG (lY (jB es gn) gn (some b)) tg=iG es tg:=((G7 _ _ _).2 _ Vn).trans ((Vm h.h9 _).2 _ Vn);rw[g1];rcases h.cr with E |⟨a,m,E,G,ag⟩
  .exact .inl E
  .refine .inr ⟨a,m,E,?_,ag⟩;rw[x7,mu (fun e=>O (by have e:b=a:=e;rw[e];exact alI G))];exact G
def Dm:kY->Bool
 | .pu .. =>true
 |_=>false
structure ld (w:bQ):Prop where
 cs:cc w.z w.R w.L
 kd:(dk w.L w.aX).isSome=true
 ds:e' w.ds
 d': ∀e,e∈w.ds->v7 e/\e.s=((b6 w.L w.aX*2 ^w.z:Nat):Int)
 q:re w.Q
 ps:pr w.es w.M w.Q
 eg: ∀p,w.bO.eg=some p->p.2.1=((b6 w.L w.aX*2 ^w.z:Nat):Int)/\p.2.2.1=1/\e5 p.2.2.2
structure eQ (w:bQ):Prop extends ld w where
 bL:wj w.z w.R w.L w.aX w.bL
 qZ:Dm w.bL=true->gN (eo w.bO.fS)=true
end
section
def alL (w:bQ) (aq:eQ w) (s:d3) (f:Nat) (a aT:Int) (r:m0) (ak:iD w.L w.aX r.L) (ux:aT<=9223372036854775807) (hf:G6 w s f r):
  Fn prog 66 [ap 1401,ab a,ab aT,.c (.one (.cW f [.p 2 0,.p 3 0]))] (cS w++rb s) [] (ab r.e) (cS (h3 w a aT r)++rb s):=by
 have V:=aq.bL
 cases h:w.bL with
 |no=>exact Vk w s f a aT r (.inl h) aq.ds hf
 |pl t b o=>exact Vk w s f a aT r (.inr ⟨t,b,o,h⟩) aq.ds hf
 |dv t b l o=>
  rw[h] at V;obtain⟨E,G,ag⟩:=V;obtain⟨d,H⟩:=as5.1 (show(dk r.L t).isSome=true by rw[(ak.aR t).2];exact ag.h9);exact alE w s f a aT r h aq.ds (ak.cs aq.cs) H ux hf
 |pu nm n rm l g o s0=>
  rw[h] at V;obtain⟨E,G,ag,aS,bG⟩:=V
  exact alF w s f a aT r h aq.ds bG ux (fun p ao=>by
   obtain⟨co,cZ,_⟩:=aq.eg p ao;have O:=aq.cs.b3;obtain⟨d,H⟩:=as5.1 aq.kd;have alM:=(aq.cs.fQ d (cO H).1).1.ez;have ax:b6 w.L w.aX=d.im.t.length:=aB2
   have iw:2 ^w.z<=2 ^3:=ay6 az8 O;have aD:b6 w.L w.aX*2 ^w.z<=256*8:=au6 az7 iw;rw[co,cZ];omega) hf
def alN (w:bQ) (aq:eQ w) (s:d3) (O:s.b.length<=1000000):Fn prog 28 [ap 1401,kG s] (cS w) [] (ab (fu w.z w.L w.aX s.a s.b).e) (cS (h3 w s.a ((s.b.length:Int)/16) (fu w.z w.L w.aX s.a s.b))):=by
 have J:=alL w aq s 67 s.a ((s.b.length:Int)/16) (fu w.z w.L w.aX s.a s.b) (vL aq.cs _ _ _) az7 (fun _ _ _ _=>alu aq.cs s az7);generalize fu w.z w.L w.aX s.a s.b=r at J⊢;generalize h3 w s.a ((s.b.length:Int)/16) r=w' at J⊢;generalize r.e=e at J⊢;refine aU [] func28 ?_;refine⟨rfl,rfl,?_⟩;have cE:0<=((s.b.length:Nat):Int)/\(0:Int) < 16:=aA5
 have cG: -9223372036854775808<=((s.b.length:Nat):Int)/16/\((s.b.length:Nat):Int)/16<=9223372036854775807:=aA5
 exact⟨cE,cG,az J bd⟩
def M7:kY->Bool
 | .dv .. =>true
 |_=>false
end
section
def oM:kY->Bool
 | .no=>true
 |_=>false
def G8 {j:kY} (h:oM j=false) (b:Nat): ∃T,ra b j=GY T b:=by cases j <;>first |(cases h;done) |exact⟨_,rfl⟩
def dV (w:bQ):Nat:=b6 w.L w.aX
def ld.dk {w:bQ} (h:ld w): ∃d,Go.Proofs.YtgclhiekndohdaaGreat.dk w.L w.aX=some d/\d.im.t.length=dV w:=by obtain⟨d,H⟩:=as5.1 h.kd;exact⟨d,H,by unfold dV b6;rw[H]⟩
def eQ.dk {w:bQ} (h:eQ w): ∃d,Go.Proofs.YtgclhiekndohdaaGreat.dk w.L w.aX=some d/\d.im.t.length=dV w:=h.told.dk
def alO (w:bQ) (s:d3) (V:oM w.bL=false):Fn prog 31 [ap 1401,kG s] (cS w) [] (ab 143) (cS w):=by obtain⟨T,b4⟩:=G8 V w.b;refine aU [] func31 ?_;refine⟨rfl,bo (fun N=>E7 rfl underlying79 (by exact ap1 (fun v=>aN.c (.one (.bH v))) b4) N) ?_⟩;exact bd
def Vp (z R:Nat) (L:aD5) (nm:aD2) (size:Int) (back:aD2) (p:aF8):(h0 z R L nm size back p).e=(h0 z R L nm size back (0,0)).e:=by
 unfold h0
 repeat' split
 all_goals rfl
def Vq {z R:Nat} {L:aD5} (h:cc z R L) (nm:aD2) (size:Int) (back:aD2) (ak:nm.length<=4294967296):
  Fn prog 62 [ap 1001,bS nm,ab size,bS back] [mA z R L] [] (ab (h0 z R L nm size back (0,0)).e) [(1001,.aA (.iU fun p:{p:Nat×Nat//cc z R (h0 z R L nm size back p).L}=>G0 z R (h0 z R L nm size back p.1).L))]:=by
 have E:=afr h nm size back ak;simp only[Vp] at E;exact cz.iU (aP:=[]) (cz.Ve (aJ:=[]) (aP:=fun _=>[]) (by simp only[at3];exact E) rfl fun _=>rfl)
abbrev ng (bn:Int->bQ->Prop):Type:={p:Int×bQ//bn p.1 p.2}
def Vr (w:bQ) (s:d3) (e:Int) (w':bQ):Prop:= ∃p:Nat×Nat,cc w.z w.R (h0 w.z w.R w.L s.nm ((dV w:Nat):Int) w.aX p).L/\e=(h0 w.z w.R w.L s.nm ((dV w:Nat):Int) w.aX p).e/\
 ((e=0/\w'={w with L:=(h0 w.z w.R w.L s.nm ((dV w:Nat):Int) w.aX p).L,aX:=s.nm})\/(e≠0/\w'={w with L:=(h0 w.z w.R w.L s.nm ((dV w:Nat):Int) w.aX p).L}))
def alP (w:bQ) (aq:eQ w) (s:d3) (V:w.bL= .no) (ak:s.nm.length<=1000000):cz prog 31 [ap 1401,kG s] (cS w) [] (X:=ng (Vr w s)) (fun p=>ab p.1.1) (fun p=>cS p.1.2):=by
 obtain⟨d,H,aO⟩:=aq.dk;have cL:=M3 (db:=w.db) (lb:=w.lb) (kd:=wg w.bL) (gG:=ra w.b w.bL) (dv:=AA w.b w.bL) (pu:=we w.b w.bL) (m:=w.bO) (es:=w.es) (M:=w.M) aq.cs H;rw[aO] at cL;have yf:=Vq aq.cs s.nm ((dV w:Nat):Int) w.aX az7;have b4:ra w.b w.bL= .nilIface:=by rw[V];rfl
 refine hR [3,4] func31 ?_;refine⟨rfl,bo (fun N=>pM rfl underlying79 (by exact ap1 (fun v=>aN.c (.one (.bH v))) b4) N) ?_⟩;refine bB.nF 73 az8 <| bx [4] (bu) <| vq rfl rfl rfl cL <| az yf ⟨eJ aA0,bB.fJ (du.iU 1001 rfl) fun g=>?_⟩;obtain⟨p,ao⟩:=g;have GW:=Vp w.z w.R w.L s.nm ((dV w:Nat):Int) w.aX p;refine bx [] (bu) ⟨fun h=>?_,fun h=>?_⟩
 .have h:=gd h;exact⟨⟨(_,{w with L:=(h0 w.z w.R w.L s.nm ((dV w:Nat):Int) w.aX p).L,aX:=s.nm}),p,ao,GW.symm,.inl ⟨h,rfl⟩⟩,_,_,_,bu,rfl,rfl,aE,rfl⟩
 .have h:=oj h;exact⟨⟨(_,{w with L:=(h0 w.z w.R w.L s.nm ((dV w:Nat):Int) w.aX p).L}),p,ao,GW.symm,.inr ⟨h,rfl⟩⟩,_,_,_,bu,rfl,rfl,aE,rfl⟩
def alQ (w:bQ) (s:d3) (V:oM w.bL=false):Fn prog 33 [ap 1401,kG s] (cS w) [] (ab 143) (cS w):=by obtain⟨T,b4⟩:=G8 V w.b;refine aU [] func33 ?_;refine⟨rfl,bo (fun N=>E7 rfl underlying79 (by exact ap1 (fun v=>aN.c (.one (.bH v))) b4) N) ?_⟩;exact bd
def alR (w:bQ) (s:d3) (V:oM w.bL=false):Fn prog 34 [ap 1401,kG s] (cS w) [] (ab 143) (cS w):=by obtain⟨T,b4⟩:=G8 V w.b;refine aU [] func34 ?_;refine⟨rfl,bo (fun N=>E7 rfl underlying79 (by exact ap1 (fun v=>aN.c (.one (.bH v))) b4) N) ?_⟩;exact bd
def alS (w:bQ) (s:d3) (V:oM w.bL=false):Fn prog 35 [ap 1401,kG s] (cS w) [] (ab 143) (cS w):=by obtain⟨T,b4⟩:=G8 V w.b;refine aU [] func35 ?_;refine⟨rfl,bo (fun N=>E7 rfl underlying79 (by exact ap1 (fun v=>aN.c (.one (.bH v))) b4) N) ?_⟩;exact bd
def Vs (w:bQ) (e:Int) (w':bQ):Prop:=e=nO w.L w.aX/\((e=0/\ ∃b,w'={w with b:=b,bL:=.dv w.aX (e7 w.L w.aX).1 (s5 w.L w.aX) false})\/(e≠0/\w'=w))
def alT (w:bQ) (aq:eQ w) (s:d3) (V:w.bL= .no):cz prog 33 [ap 1401,kG s] (cS w) [] (X:=ng (Vs w)) (fun p=>ab p.1.1) (fun p=>cS p.1.2):=by
 have fZ:=aq.cs;obtain⟨z,R,L,aX,db,ds,es,M,lb,Q,ey,bL,bO⟩:=w;simp only at V fZ;subst V
 by_cases U:nO L aX=0
 .have O:=Fn.ye (aJ:=[]) (aP:=sf aX (e7 L aX).1 (s5 L aX) false) (af4 fZ aX U) rfl rfl;refine hR [6] func33 ?_;refine⟨rfl,bo (pM rfl underlying79 rfl) ?_⟩;refine az O ⟨eJ aA0,dR <| bB.fJ (du.mark 2001 2009 rfl az8) fun b=>bB.le (ac.E4 5 2001 2009 b rfl rfl) <| bx [] (ac.GX 1501 2001 1001 2009 b (sf aX (e7 L aX).1 (s5 L aX) false) rfl rfl aE rfl) <| bo (E6 rfl underlying80 rfl) ?_⟩;exact az (G2 (z:=z) (R:=R) (L:=L) (aX:=aX) (db:=db) (lb:=lb) (kd:=0) (gG:=.nilIface) (dv:=some b) (pu:=none) (m:=bO) (es:=es) (M:=M) 1 80 (.pointer (some ⟨b,0,none⟩))) ⟨⟨(0,⟨z,R,L,aX,db,ds,es,M,lb,Q,b,.dv aX (e7 L aX).1 (s5 L aX) false,bO⟩),U.symm,.inl ⟨rfl,b,rfl⟩⟩,_,_,_,bu,rfl,rfl,aE,rfl⟩
 .have O:=Fn.ch (af1 fZ aX U);refine hR [] func33 ?_;refine⟨rfl,bo (pM rfl underlying79 rfl) ?_⟩;exact az O ⟨eJ aA0,fun h=>⟨⟨(nO L aX,⟨z,R,L,aX,db,ds,es,M,lb,Q,ey,.no,bO⟩),rfl,.inr ⟨U,rfl⟩⟩,_,_,_,bu,rfl,rfl,aE,rfl⟩,fun h=>ap0 h aC8⟩
def Vt (w:bQ) (s:d3) (e:Int) (w':bQ):Prop:=e=s8 w.L w.aX s.fL/\((e=0/\ ∃b,w'={w with b:=b,bL:=.pl w.aX s.fL false})\/(e≠0/\w'=w))
def alU (w:bQ) (aq:eQ w) (s:d3) (V:w.bL= .no):cz prog 34 [ap 1401,kG s] (cS w) [] (X:=ng (Vt w s)) (fun p=>ab p.1.1) (fun p=>cS p.1.2):=by
 have fZ:=aq.cs;obtain⟨z,R,L,aX,db,ds,es,M,lb,Q,ey,bL,bO⟩:=w;simp only at V fZ;subst V
 by_cases U:s8 L aX s.fL=0
 .have O:=Fn.ye (aJ:=[]) (aP:=uT aX s.fL false) (ahc fZ aX s.fL U) rfl rfl;refine hR [6] func34 ?_;refine⟨rfl,bo (pM rfl underlying79 rfl) ?_⟩;refine az O ⟨eJ aA0,dR <| bB.fJ (du.mark 2001 2009 rfl az8) fun b=>bB.le (ac.E4 5 2001 2009 b rfl rfl) <| bx [] (ac.GX 1501 2001 1001 2009 b (uT aX s.fL false) rfl rfl aE rfl) <| bo (E6 rfl underlying143 rfl) ?_⟩;exact az (G2 (z:=z) (R:=R) (L:=L) (aX:=aX) (db:=db) (lb:=lb) (kd:=0) (gG:=.nilIface) (dv:=none) (pu:=none) (m:=bO) (es:=es) (M:=M) 2 143 (.pointer (some ⟨b,0,none⟩))) ⟨⟨(0,⟨z,R,L,aX,db,ds,es,M,lb,Q,b,.pl aX s.fL false,bO⟩),U.symm,.inl ⟨rfl,b,rfl⟩⟩,_,_,_,bu,rfl,rfl,aE,rfl⟩
 .have O:=Fn.ch (aha fZ aX s.fL U);refine hR [] func34 ?_;refine⟨rfl,bo (pM rfl underlying79 rfl) ?_⟩;exact az O ⟨eJ aA0,fun h=>⟨⟨(s8 L aX s.fL,⟨z,R,L,aX,db,ds,es,M,lb,Q,ey,.no,bO⟩),rfl,.inr ⟨U,rfl⟩⟩,_,_,_,bu,rfl,rfl,aE,rfl⟩,fun h=>ap0 h aC8⟩
end
section
def rf (l:aE3) (nm:aD2):Int:=if gN nm=false then 1 else if(dy l nm).isSome=true\/8<=l.length then 111 else 0
def AC (l:aE3) (nm:aD2) (on us:Bool) (s g:Int) (es:aD4) (l':aE3):Prop:=e' l'/\((rf l nm=0/\gN nm=true/\dy l nm=none/\l.length < 8/\ ∃a b,l'=l++[⟨nm,a,b,on,us,s,g,es⟩])\/(rf l nm≠0/\l'=l))
def Vu {l:aE3} (h:e' l) (db:Nat) (nm:aD2) (hn:nm.length<=4294967296) (s g:Int) (es:aD4) (bv:(0<=s/\s<=4096)/\(1<=g/\g<=64)/\e5 es):
  Fn prog 75 [di db,bS nm,ap 2001] ((1101,.aA (.bD [(db,tj l)]))::ie 2001 2002 s g es) [] (ab (rf l nm)) ((1101,.aA (.iU fun p:{l':List bq//AC l nm true true s g es l'}=>.bD [(db,tj p.1)]))::ie 2001 2002 s g es):=by
 refine cz.iU (cz.nG [1002,1003,1004] 1101 (?_:cz prog 75 [ap 1001,bS nm,ap 2001] (eV l++ie 2001 2002 s g es) [] (fun _=>ab (rf l nm)) (fun p:{l':List bq//AC l nm true true s g es l'}=>eV p.1++ie 2001 2002 s g es)) rfl (fun _=>rfl) rfl ⟨rfl,rfl⟩ rfl (fun _=>rfl))
 cases aw:gN nm with
 |false=>
  have e:rf l nm=1:=vj aw;exact(aiz nm hn aw s g es).x.to (fun _=>⟨l,h,.inr ⟨by rw[e];decide,rfl⟩⟩) (fun _=>by rw[e]) fun _=>rfl
 |true=>
  by_cases au:(dy l nm).isSome=true\/8<=l.length
  .have e:rf l nm=111:=(mu (by rw[aw];decide)).trans (vj au);exact(aiA nm hn aw au s g es).x.to (fun _=>⟨l,h,.inr ⟨by rw[e];decide,rfl⟩⟩) (fun _=>by rw[e]) fun _=>rfl
  .have e:rf l nm=0:=(mu (by rw[aw];decide)).trans (mu au)
   have E:dy l nm=none:=by
    cases Z:dy l nm with
    |none=>rfl
    |some x=>exact ap0 (.inl (by rw[Z];rfl)) au
   have G:l.length < 8:=by
    have: ¬8<=l.length:=fun bf=>au (.inr bf)
    omega
   exact(aiv h nm hn aw E G s g es bv).to (fun p=>⟨_,p.2,.inl ⟨e,aw,E,G,_,_,rfl⟩⟩) (fun _=>by rw[e]) fun _=>rfl
def M8 {z R:Nat} {L:aD5} (h:cc z R L) {aX:aD2} {d:aL} (H:dk L aX=some d):b6 L aX*2 ^z<=2048:=by
 have alM:=(h.fQ d (cO H).1).1.ez;have ax:b6 L aX=d.im.t.length:=aB2
 have iw:2 ^z<=2 ^3:=ay6 az8 h.b3;have aD:b6 L aX*2 ^z<=256*8:=au6 az7 iw;omega
def AD (w:bQ) (s:d3):Int:=if mv ((dV w*2 ^w.z:Nat):Int) s.a=true then rf w.ds s.nm else 1
abbrev M9 (w:bQ) (s:d3):bc:=.iU fun p:{l':List bq//(mv ((dV w*2 ^w.z:Nat):Int) s.a=true/\AC w.ds s.nm true true ((dV w*2 ^w.z:Nat):Int) s.a [] l')\/(mv ((dV w*2 ^w.z:Nat):Int) s.a=false/\l'=w.ds)}=>.bD [(w.db,tj p.1)]
abbrev alV (w:bQ):av:=[mA w.z w.R w.L,wh w.es w.M,Vd w,Va w,Vb w,Vc w]
def alW (w:bQ) (aq:eQ w) (s:d3) (hn:s.nm.length<=1000000):Fn prog 32 [ap 1401,kG s] (cS w) [] (ab (AD w s)) ((1101,.aA (M9 w s))::alV w):=by
 obtain⟨d,H,aO⟩:=aq.dk;have aD:dV w*2 ^w.z<=2048:=M8 aq.cs H;have cL:=M3 (db:=w.db) (lb:=w.lb) (kd:=wg w.bL) (gG:=ra w.b w.bL) (dv:=AA w.b w.bL) (pu:=we w.b w.bL) (m:=w.bO) (es:=w.es) (M:=w.M) aq.cs H;rw[aO] at cL;have xM:=aq.cs.b3;have wk:((dV w:Nat):Int)*((2 ^((w.z:Nat):Int).toNat:Nat):Int)=((dV w*2 ^w.z:Nat):Int):=by rw[ax9,aw9]
 cases Z:mv ((dV w*2 ^w.z:Nat):Int) s.a with
 |false=>
  have U:AD w s=1:=mu (by rw[Z];decide);have mF:=agx (((dV w:Nat):Int)*((2 ^((w.z:Nat):Int).toNat:Nat):Int)) s.a (by rw[wk];exact Z);refine aU [1] func32 ?_;refine⟨rfl,bB.nF 73 az8 <| bx [] (bu) <| vq rfl rfl rfl cL ?_⟩;exact⟨⟨az7,az7,az7⟩,⟨by rw[wk];omega,by rw[wk];omega⟩,az mF ⟨eJ aA0,gV ⟨_,_,_,ac.aA 1101 (o':=M9 w s) rfl fun I F x p h=>⟨⟨w.ds,.inr ⟨Z,rfl⟩⟩,h⟩,rfl,U.symm,aE,rfl⟩⟩⟩
 |true=>
  have U:AD w s=rf w.ds s.nm:=vj Z;have mF:=SA (((dV w:Nat):Int)*((2 ^((w.z:Nat):Int).toNat:Nat):Int)) s.a (by rw[wk];exact Z);obtain⟨co,cZ⟩:=Ly Z;have yf:=Vu aq.ds w.db s.nm az7 ((dV w*2 ^w.z:Nat):Int) s.a [] ⟨co,cZ,List.Pairwise.nil⟩;rw[<-U,<-wk] at yf;refine aU [1] func32 ?_;refine⟨rfl,bB.nF 73 az8 <| bx [] (bu) <| vq rfl rfl rfl cL ?_⟩;refine⟨⟨az7,az7,az7⟩,⟨by rw[wk];omega,by rw[wk];omega⟩,az mF ⟨eJ aA0,dR <| az yf ⟨eJ aA0,?_⟩⟩⟩
  exact⟨_,_,_,ac.aA 1101 (o':=M9 w s) rfl fun I F x p h=>(by
   obtain⟨g,h⟩:=h;exact⟨⟨g.1,.inl ⟨Z,by rw[<-wk];exact g.2⟩⟩,h⟩),rfl,rfl,aE,rfl⟩
end
section
def alX {Q:aE6} (h:nW Q):(j' Q).length<=100000000:=by
 have E:=C1 j9 35000 Q fun b O=>TW (GB h O)
 have G:=h.len;unfold j';rw[ap3,p4];omega
def Vv {Q:aE6} (h:nW Q) (lb:Nat):Fn prog 94 [di lb] [(1301,.aA (.bD [(lb,tk Q)]))] [] (b0 .u8 (j' Q)) [(1301,.aA (.bD [(lb,tk Q)]))]:=
 Fn.nG [1002] 1301 (TZ Q (by have:=h.len;omega) fun b O=>GB h O)
def Vw {Q:aE6} (h:re Q):Fn prog 93 [b0 .u8 (j' Q)] [] [3001,3002] (.cm [.one (.ptr 3001 0),dJ 0]) (oK 3001 3002 Q):=by have H:=ajM (j' Q) (alX h.tonW) (some (Q.map wb)) (ak4 h.M6 (fun b O=>GB h.tonW O) h.len);simp only[UW] at H;exact Fn.a7 [(1001,3001),(1002,3002)] H
def alY (n:Int) (GU:2<=n) (hn:q5 n=true) (aw:n<=4096) {Q:aE6} (h:nW Q) {es:gF} {M:fh} {M':aE6} (hf:pr es M M'):
  Fn prog 163 [ap 3001,ap 1201,ab n] (wh es M::oK 3001 3002 Q) [] (ab (wc n Q)) ((1201,.aA (.iU fun b:{b:Nat//b∉M.map (·.1)}=>yd (uR n es Q b.1) ((b.1,th n 4096 Q b.1)::M)))::oK 3001 3002 Q):=by
 obtain⟨E,G,ag⟩:=hf.alJ;have J:=cz.a7 [(1001,1201),(1002,1202),(1003,1203)] (ala 4096 n GU hn aw es (M:=M) E G ag (Q:=Q) (by have:=h.len;omega) fun b O=>GB h O);exact cz.iU (cz.close (c:=1201) (bp:=C8 1201 1202 1203 4096 es M) (o':=fun b:{b:Nat//b∉M.map (·.1)}=>yd (uR n es Q b.1) ((b.1,th n 4096 Q b.1)::M)) [1202,1203] J (fun _ _ _ _ h=>h) (fun _ _ _ _ _ h=>h) rfl fun _=>rfl)
def rh (Q:aE6):Int:=wc 512 Q
def sg (es:gF) (Q:aE6) (b:Nat):gF:=uR 512 es Q b
def sh (Q:aE6) (b:Nat):cJ:=th 512 4096 Q b
def alZ {Q:aE6} (h:nW Q) {es:gF} {M:fh} {M':aE6} (hf:pr es M M'):Fn prog 163 [ap 3001,ap 1201,ab 512] (wh es M::oK 3001 3002 Q) [] (ab (rh Q)) ((1201,.aA (.iU fun b:{b:Nat//b∉M.map (·.1)}=>yd (sg es Q b.1) ((b.1,sh Q b.1)::M)))::oK 3001 3002 Q):=alY 512 az8 rfl az8 h hf
def yg (w:bQ) (Q:aE6) (e:Int) (w':bQ):Prop:=e=rh Q/\ ∃b,b∉w.M.map (·.1)/\((rh Q=0/\ ∃lb,w'={w with es:=sg w.es Q b,M:=(b,sh Q b)::w.M,lb:=lb,Q:=Q})\/(rh Q≠0/\w'={w with es:=sg w.es Q b,M:=(b,sh Q b)::w.M}))
def al0 (w:bQ) {Q:aE6} {F:Nat->gF} {S:Nat->cJ}
  (J:Fn prog 163 [ap 3001,ap 1201,ab 512] (wh w.es w.M::oK 3001 3002 Q) [] (ab 0) ((1201,.aA (.iU fun b:{b:Nat//b∉w.M.map (·.1)}=>yd (F b.1) ((b.1,S b.1)::w.M)))::oK 3001 3002 Q)):
  cz prog 96 [ap 1401,ap 3001] (cS w++oK 3001 3002 Q) [] (X:={b:Nat//b∉w.M.map (·.1)}×Nat) (fun _=>ab 0) (fun p=>cS {w with es:=F p.1.1,M:=(p.1.1,S p.1.1)::w.M,lb:=p.2,Q:=Q}):=by
 refine hR [2,3] func96 ?_;exact az J <| bB.fJ (du.iU 1201 rfl) fun b=>bx [3] (bu) <| gV <| bB.le (ac.close 3001 (oK 3001 3002 Q) (o:=tk Q) aE rfl fun I F x p h=>j1.a7 [(3001,1001),(3002,1002)] h) <| bB.fJ (du.name 1 3001 rfl rfl) fun lb=>bx [] (ac.trans (ac.put 1301 3001 az8 rfl rfl) (ac.ali 1301 rfl)) ⟨(b,lb),_,_,_,bu,rfl,rfl,aE,rfl⟩
def al1 (w:bQ) {Q:aE6} {e:Int} (U:e≠0) {F:Nat->gF} {S:Nat->cJ}
  (J:Fn prog 163 [ap 3001,ap 1201,ab 512] (wh w.es w.M::oK 3001 3002 Q) [] (ab e) ((1201,.aA (.iU fun b:{b:Nat//b∉w.M.map (·.1)}=>yd (F b.1) ((b.1,S b.1)::w.M)))::oK 3001 3002 Q)):
  cz prog 96 [ap 1401,ap 3001] (cS w++oK 3001 3002 Q) [] (X:={b:Nat//b∉w.M.map (·.1)}) (fun _=>ab e) (fun p=>cS {w with es:=F p.1,M:=(p.1,S p.1)::w.M}):=by
 refine hR [2] func96 ?_;exact az J <| bB.fJ (du.iU 1201 rfl) fun b=>bx [] (bu) ⟨fun h=>ap0 (gd h) U,fun _=>⟨b,_,_,_,bu,rfl,rfl,aE,rfl⟩⟩
def al2 (w:bQ) (s:d3) (e:Int) (w':bQ):Prop:=(Ak w.Q s.nm≠0/\e=Ak w.Q s.nm/\w'=w)\/(Ak w.Q s.nm=0/\yg w (Al w.Q s.nm) e w')
end
section
def Na {l:aE3} (h:e' l) (db:Nat) {nm:aD2} {e:bq} (U:dy l nm=some e):Fn prog 139 [di db,bS nm] [(1101,.aA (.bD [(db,tj l)]))] [5001,5002] (.cm [.agg (jo e.nm e.on e.us),dJ 0]) ((1101,.aA (.bD [(db,tj l)]))::ie 5001 5002 e.s e.g e.es):=
 (cz.nG (X:=Unit) (bp:=eV l) (aJ:=[]) (dD:=fun _=>eV l) (aP:=fun _=>ie 5001 5002 e.s e.g e.es) (res:=fun _=>.cm [.agg (jo e.nm e.on e.us),dJ 0]) [1002,1003,1004] 1101 (by rw[at3];exact(aiR h U).x) rfl (fun _=>rfl) rfl ⟨rfl,rfl⟩ rfl fun _=>rfl).fn
def Vx {l:aE3} (db:Nat) {nm:aD2} (U:dy l nm=none):Fn prog 139 [di db,bS nm] [(1101,.aA (.bD [(db,tj l)]))] [] (.cm [.agg [.d (.str []),.d (.lit false),.d (.lit false),.bH (.pointer none)],dJ 112]) [(1101,.aA (.bD [(db,tj l)]))]:=
 Fn.nG [1002,1003,1004] 1101 (aiS U)
def Nb {Q:aE6} (h:nW Q) (lb:Nat):Fn prog 84 [di lb] [(1301,.aA (.bD [(lb,tk Q)]))] [] (bS (s9 Q)) [(1301,.aA (.bD [(lb,tk Q)]))]:=
 Fn.nG [1002] 1301 (aiZ Q (by have:=h.len;omega))
def al3 {Q:aE6} (h:nW Q) (lb:Nat):Fn prog 81 [di lb] [(1301,.aA (.bD [(lb,tk Q)]))] [] (b0 .str (Q.map eo)) [(1301,.aA (.bD [(lb,tk Q)]))]:=
 Fn.nG [1002] 1301 (ajn Q (by have:=h.len;omega))
def eQ.al4 {w:bQ} (h:eQ w):dy w.ds []=none:=by
 cases Z:dy w.ds [] with
 |none=>rfl
 |some e=>
  obtain⟨E,G⟩:=lV Z;have ag:=(h.d' e E).1.nm;rw[G] at ag
  cases ag
def al5 (w:bQ) (aq:eQ w) (s:d3) (au:s.fL=[]):Fn prog 82 [ap 1401,kG s] (cS w) [] (.cm [oV,dJ 0]) (cS w):=by have aV:=Vx w.db aq.al4;rw[<-au] at aV;refine aU [] func82 ?_;exact⟨rfl,az aV ⟨rfl,eJ aA0,fun _=>bd,fun h=>ap0 h (by simp[au])⟩⟩
def al6 (w:bQ) (aq:eQ w) (s:d3) (au:s.fL≠[]) (Z:dy w.ds s.fL=none):Fn prog 82 [ap 1401,kG s] (cS w) [] (.cm [oV,dJ 112]) (cS w):=by have aV:=Vx w.db Z;refine aU [] func82 ?_;exact⟨rfl,az aV ⟨rfl,eJ aA0,fun h=>ap0 h (by simp[au]),fun _=>gV bd⟩⟩
def qc (w:bQ) (e:bq):Int:=if e.us=false then 110 else if s9 w.Q=[] then 181 else 0
def al7 (w:bQ) (aq:eQ w) (s:d3) (au:s.fL≠[]) {e:bq} (Z:dy w.ds s.fL=some e) (a2:qc w e≠0):Fn prog 82 [ap 1401,kG s] (cS w) [] (.cm [oV,dJ (qc w e)]) (cS w):=by
 have aV:=Na aq.ds w.db Z;have ak:=Nb aq.q.tonW w.lb
 cases a8:e.us with
 |false=>
  have U:qc w e=110:=vj a8;rw[U];refine aU [] func82 ?_;exact⟨rfl,az aV ⟨rfl,eJ aA0,fun h=>ap0 h (by simp[au]),fun _=>dR ⟨fun _=>bd,fun h=>ap0 h (by simp[a8])⟩⟩⟩
 |true=>
  have U:qc w e=181:=by
   unfold qc at a2⊢;rw[mu (by rw[a8];decide)] at a2⊢
   split
   .rfl
   .rename_i h;rw[mu h] at a2;exact ap0 rfl a2
  have aY:s9 w.Q=[]:=by
   unfold qc at U;rw[mu (by rw[a8];decide)] at U
   split at U
   .assumption
   .cases U
  rw[U];refine aU [] func82 ?_;exact⟨rfl,az aV ⟨rfl,eJ aA0,fun h=>ap0 h (by simp[au]),fun _=>dR ⟨fun h=>ap0 h (by simp[a8]),fun _=>az ak ⟨fun _=>bd,fun h=>ap0 h (by simp[aY])⟩⟩⟩⟩
def al8 (w:bQ) (aq:eQ w) (s:d3) (au:s.fL≠[]) {e:bq} (Z:dy w.ds s.fL=some e) (a2:qc w e=0):Fn prog 82 [ap 1401,kG s] (cS w) [5001,5002] (.cm [.one (.ptr 5001 0),dJ 0]) (cS w++ie 5001 5002 e.s e.g e.es):=by
 have aV:=Na aq.ds w.db Z;have ak:=Nb aq.q.tonW w.lb
 have a8:e.us=true:=by
  unfold qc at a2
  cases a8:e.us with
  |true=>rfl
  |false=>rw[vj a8] at a2;cases a2
 have aY:s9 w.Q≠[]:=fun aY=>by
  unfold qc at a2;rw[mu (by rw[a8];decide),vj aY] at a2
  cases a2
 refine aU [] func82 ?_;exact⟨rfl,az aV ⟨rfl,eJ aA0,fun h=>ap0 h (by simp[au]),fun _=>dR ⟨fun h=>ap0 h (by simp[a8]),fun _=>az ak ⟨fun h=>ap0 h (by simp[aY]),fun _=>bd⟩⟩⟩⟩
def ac.G9 {ids:aD3} {K:aW} {B:av} (c j d m b:Nat) {l:List bw} (J:ae B c=some (.cells l)) (V:l[j]? =some (.ptr d 0)) (aD:ae B m=some (.bY d (eO b))):ac ids K B K ((c,.cells (l.set j (.d (.aM (some b)))))::B):=by
 rintro N C a w ⟨hn,H,ρ,F,ah,ar⟩;have O:=ou (N:=N) (a:=a) ah aD
 obtain⟨bK,a2⟩:=ah.hz (w':=w) (ch:=.cells (l.set j (.d (.aM (some b))))) J (cR.refl _ _) fun I aZ=>by
  obtain⟨E,aB,T,G,ag⟩:=ah.holds c _ J;refine⟨E,aB,T,G,cb.set (s:=.ptr d 0) (t:=.d (.aM (some b))) (fun v h=>?_) V (cb.mono aZ _ _ (fun _ _=>rfl) ag)⟩;have h:v= .pointer (some ⟨(ρ d).bh,0,none⟩):=h;rw[O] at h;exact h
 exact⟨hn,H,ρ,F,bK,ar.mono a2 fun _ _ _=>rfl⟩
def ac.Nc {ids:aD3} {K:aW} {B:av} (c m b:Nat) {o:bc} (J:ae B c=some (.aA o)) (aD:ae B m=some (.bY c (eO b))):ac ids K B K ((c,.aA (o.at b))::B):=by
 rintro N C a w ⟨hn,H,ρ,F,ah,ar⟩;have O:=ou (N:=N) (a:=a) ah aD;obtain⟨bK,a2⟩:=ah.hz (w':=w) (ch:=.aA (o.at b)) J (cR.refl _ _) fun I aZ=>⟨O,o.cg _ _ _ _ _ _ (ah.holds c _ J) aZ (fun _ _=>rfl) (ao9 _)⟩
 exact⟨hn,H,ρ,F,bK,ar.mono a2 fun _ _ _=>rfl⟩
abbrev tl (nm pa:aD2) (bi aR:Int) (fL:aD2) (eg:Option (Nat×Di)):Made:=⟨(nm,pa,bi,aR,([]:List j8)),fL,eg⟩
def ri (w:bQ) (s:d3):Bool:= !gN s.nm||(w.Q.map eo).contains s.nm
def Nd (w:bQ) (s:d3) (e:Int) (w':bQ):Prop:=
 (ri w s=true/\e=1/\w'=w)\/(ri w s=false/\
  (
   (s.fL=[]/\((s.l < 0/\e=1/\w'=w)\/(0<=s.l/\e=0/\ ∃b,w'={w with b:=b,bL:=.pu w.aX ((dV w:Nat):Int) s.l (h1 (fun _=>true) w.z (dV w*2 ^w.z)) [] false false,bO:=tl s.nm [] w.z ((dV w:Nat):Int) s.fL none})))\/
   (s.fL≠[]/\dy w.ds s.fL=none/\e=112/\w'=w)\/
   (s.fL≠[]/\ ∃x,dy w.ds s.fL=some x/\((qc w x≠0/\e=qc w x/\w'=w)\/(qc w x=0/\((s.l < 0/\e=1/\w'=w)\/(0<=s.l/\e=0/\ ∃b jT,w'={w with b:=b,bL:=.pu w.aX ((dV w:Nat):Int) s.l (h1 (mw x.g x.es) w.z (dV w*2 ^w.z)) [] false false,bO:=tl s.nm (s9 w.Q) w.z ((dV w:Nat):Int) s.fL (some (jT,((dV w*2 ^w.z:Nat):Int),1,[]))})))))))
def al9 {s:Int} (au:0<=s) (E:s<=4096):mv s 1=true:=by unfold mv;simp[au,E]
def al' (w:bQ) (aq:eQ w) (s:d3) (V:w.bL= .no) (hn:s.nm.length<=1000000):cz prog 35 [ap 1401,kG s] (cS w) [] (X:=ng (Nd w s)) (fun p=>ab p.1.1) (fun p=>cS p.1.2):=by
 obtain⟨d,H,aO⟩:=aq.dk;have fZ:=aq.cs;have ak:=al3 aq.q.tonW w.lb;have CR:=Nb aq.q.tonW w.lb;have aw:=pZ s.nm az7;have yh:=KH (w.Q.map eo) s.nm (by rw[aq3];have:=aq.q.len;omega);have ama:=fun au=>al5 w aq s au
 have JH:=fun au Z=>al6 w aq s au Z
 have Nf:=fun au e (Z:dy w.ds s.fL=some e) a2=>al7 w aq s au Z a2
 have amb:=fun au e (Z:dy w.ds s.fL=some e) a2=>al8 w aq s au Z a2
 have cL:=fun(gG:aE7) (dv pu:aE2)=>M3 (db:=w.db) (lb:=w.lb) (kd:=0) (gG:=gG) (dv:=dv) (pu:=pu) (m:=w.bO) (es:=w.es) (M:=w.M) aq.cs H
 have x1:=fun e (Z:dy w.ds s.fL=some e)=>aq.d' e (lV Z).1
 have aD:dV w*2 ^w.z<=2048:=M8 aq.cs H;have amc:b6 w.L w.aX=dV w:=rfl;rw[aO] at cL;rw[amc] at x1
 cases km:gN s.nm with
 |false=>
  have x3:ri w s=true:=by unfold ri;rw[km];rfl
  obtain⟨z,R,L,aX,db,ds,es,M,lb,Q,ey,bL,bO⟩:=w;simp only at V;subst V;refine hR [] func35 ?_;refine⟨rfl,bo (pM rfl underlying79 rfl) ?_⟩;exact az aw ⟨fun _=>⟨eJ aA0,⟨(1,_),.inl ⟨x3,rfl,rfl⟩⟩,_,_,_,bu,rfl,rfl,aE,rfl⟩,fun h=>ap0 h (by simp[km])⟩
 |true=>
 cases hl:(w.Q.map eo).contains s.nm with
 |true=>
  have x3:ri w s=true:=by unfold ri;rw[km,hl];rfl
  obtain⟨z,R,L,aX,db,ds,es,M,lb,Q,ey,bL,bO⟩:=w;simp only at V;subst V;refine hR [] func35 ?_;refine⟨rfl,bo (pM rfl underlying79 rfl) ?_⟩;exact az aw ⟨fun h=>ap0 h (by simp[km]),fun _=>az ak <| az yh ⟨eJ aA0,fun _=>⟨⟨(1,_),.inl ⟨x3,rfl,rfl⟩⟩,_,_,_,bu,rfl,rfl,aE,rfl⟩,fun h=>ap0 (hl.symm.trans h) az8⟩⟩
 |false=>
 have AE:ri w s=false:=by unfold ri;rw[km,hl];rfl
 by_cases au:s.fL=[]
 .have cx:=ama au
  by_cases qd:s.l < 0
  .have O:=Fn.ch (agO fZ H s.l qd);obtain⟨z,R,L,aX,db,ds,es,M,lb,Q,ey,bL,bO⟩:=w;simp only at V;subst V;refine hR [] func35 ?_;refine⟨rfl,bo (pM rfl underlying79 rfl) ?_⟩;exact az aw ⟨fun h=>ap0 h (by simp[km]),fun _=>az ak <| az yh ⟨eJ aA0,fun h=>ap0 (hl.symm.trans h) az8,fun _=>az cx <| dR <| az O ⟨eJ aA0,gV ⟨⟨(1,_),.inr ⟨AE,.inl ⟨au,.inl ⟨qd,rfl,rfl⟩⟩⟩⟩,_,_,_,bu,rfl,rfl,aE,rfl⟩⟩⟩⟩
  .have qd:0<=s.l:=aA5
   have O:=Fn.ye (aJ:=[]) (aP:=nf w.z w.aX (d.im.t.length:Nat) s.l (h1 (fun _=>true) w.z (d.im.t.length*2 ^w.z)) [] false false) (agQ fZ H s.l qd) rfl rfl;rw[aO] at O;obtain⟨z,R,L,aX,db,ds,es,M,lb,Q,ey,bL,bO⟩:=w;simp only at V;subst V;refine hR [11,12,15] func35 ?_;refine⟨rfl,bo (pM rfl underlying79 rfl) ?_⟩;refine az aw ⟨fun h=>ap0 h (by simp[km]),fun _=>az ak <| az yh ⟨eJ aA0,fun h=>ap0 (hl.symm.trans h) az8,fun _=>az cx <| dR <| az O ⟨eJ aA0,dR <| bB.nF 73 az8 <| bx [12,15] (bu) <| vq rfl rfl rfl (cL .nilIface none none) ⟨eJ aA0,bx [15] (ac.trans (ac.Az 1401 16 rfl rfl) (ac.trans (ac.rX 1401 (l':=GZ z aX db lb 0 .nilIface none none (tl s.nm [] z ((dV ⟨z,R,L,aX,db,ds,es,M,lb,Q,ey,.no,bO⟩:Nat):Int) s.fL none)) rfl aE) (ac.U9 1601 rfl))) <| bB.fJ (du.mark 2001 2009 rfl az8) fun b=>bB.le (ac.E4 7 2001 2009 b rfl rfl) <| bx [] (ac.GX 1501 2001 1001 2009 b (nf z aX ((dV ⟨z,R,L,aX,db,ds,es,M,lb,Q,ey,.no,bO⟩:Nat):Int) s.l (h1 (fun _=>true) z (dV ⟨z,R,L,aX,db,ds,es,M,lb,Q,ey,.no,bO⟩*2 ^z)) [] false false) rfl rfl aE rfl) <| bo (E6 rfl underlying81 rfl) ?_⟩⟩⟩⟩;exact az (G2 (z:=z) (R:=R) (L:=L) (aX:=aX) (db:=db) (lb:=lb) (kd:=0) (gG:=.nilIface) (dv:=none) (pu:=some b) (m:=(tl s.nm [] z ((dV ⟨z,R,L,aX,db,ds,es,M,lb,Q,ey,.no,bO⟩:Nat):Int) s.fL none)) (es:=es) (M:=M) 3 81 (.pointer (some ⟨b,0,none⟩))) ⟨⟨(0,⟨z,R,L,aX,db,ds,es,M,lb,Q,b,.pu aX ((dV ⟨z,R,L,aX,db,ds,es,M,lb,Q,ey,.no,bO⟩:Nat):Int) s.l (h1 (fun _=>true) z (dV ⟨z,R,L,aX,db,ds,es,M,lb,Q,ey,.no,bO⟩*2 ^z)) [] false false,(tl s.nm [] z ((dV ⟨z,R,L,aX,db,ds,es,M,lb,Q,ey,.no,bO⟩:Nat):Int) s.fL none)⟩),.inr ⟨AE,.inl ⟨au,.inr ⟨qd,rfl,b,rfl⟩⟩⟩⟩,_,_,_,bu,rfl,rfl,aE,rfl⟩
 .cases Z:dy w.ds s.fL with
  |none=>
   have cx:=JH au Z;obtain⟨z,R,L,aX,db,ds,es,M,lb,Q,ey,bL,bO⟩:=w;simp only at V;subst V;refine hR [] func35 ?_;refine⟨rfl,bo (pM rfl underlying79 rfl) ?_⟩;exact az aw ⟨fun h=>ap0 h (by simp[km]),fun _=>az ak <| az yh ⟨eJ aA0,fun h=>ap0 (hl.symm.trans h) az8,fun _=>az cx <| gV ⟨⟨(112,_),.inr ⟨AE,.inr (.inl ⟨au,Z,rfl,rfl⟩)⟩⟩,_,_,_,bu,rfl,rfl,aE,rfl⟩⟩⟩
  |some x=>
   by_cases a2:qc w x=0
   .have cx:=amb au x Z a2;obtain⟨hx,rC⟩:=x1 x Z;obtain⟨g1,g2⟩:=Ly hx.ok
    by_cases qd:s.l < 0
    .have O:=Fn.ye (aJ:=xQ x.s x.g x.es) (aP:=xQ x.s x.g x.es) (agS fZ H s.l qd x.s x.g x.es) rfl rfl;obtain⟨z,R,L,aX,db,ds,es,M,lb,Q,ey,bL,bO⟩:=w;simp only at V;subst V;refine hR [] func35 ?_;refine⟨rfl,bo (pM rfl underlying79 rfl) ?_⟩;exact az aw ⟨fun h=>ap0 h (by simp[km]),fun _=>az ak <| az yh ⟨eJ aA0,fun h=>ap0 (hl.symm.trans h) az8,fun _=>az cx <| dR <| az O ⟨eJ aA0,gV ⟨⟨(1,_),.inr ⟨AE,.inr (.inr ⟨au,x,Z,.inr ⟨a2,.inl ⟨qd,rfl,rfl⟩⟩⟩)⟩⟩,_,_,_,bu,rfl,rfl,aE,rfl⟩⟩⟩⟩
    .have qd:0<=s.l:=aA5
     have O:=Fn.ye (aJ:=xQ ((d.im.t.length*2 ^w.z:Nat):Int) x.g x.es) (aP:=nf w.z w.aX (d.im.t.length:Nat) s.l (h1 (mw x.g x.es) w.z (d.im.t.length*2 ^w.z)) [] false false++xQ ((d.im.t.length*2 ^w.z:Nat):Int) x.g x.es) (agU fZ H s.l qd x.g x.es g2.1) rfl rfl;rw[aO] at O;rw[rC] at cx;have De:=Lz ((dV w*2 ^w.z:Nat):Int) x.g x.es;have Lh:=SA ((dV w*2 ^w.z:Nat):Int) 1 (al9 az7 az7);obtain⟨z,R,L,aX,db,ds,es,M,lb,Q,ey,bL,bO⟩:=w;simp only at V;subst V;refine hR [11,12,15] func35 ?_;refine⟨rfl,bo (pM rfl underlying79 rfl) ?_⟩;refine az aw ⟨fun h=>ap0 h (by simp[km]),fun _=>az ak <| az yh ⟨eJ aA0,fun h=>ap0 (hl.symm.trans h) az8,fun _=>az cx <| dR <| az O ⟨eJ aA0,dR <| bB.nF 73 az8 <| bx [12,15] (bu) <| vq rfl rfl rfl (cL .nilIface none none) ⟨eJ aA0,bx [15] (ac.trans (ac.rX 1401 (l':=(GZ z aX db lb 0 .nilIface none none (tl s.nm [] z ((dV ⟨z,R,L,aX,db,ds,es,M,lb,Q,ey,.no,bO⟩:Nat):Int) s.fL none)).set 16 (.bH (.pointer none))) rfl aE) (ac.U9 1601 rfl)) <| az CR <| az (Fn.a7 [(1001,5001),(1002,5002)] De) <| az (Fn.a7 [(2001,6001),(2002,6002)] Lh) <| bB.fJ (du.mark 6001 6009 rfl az8) fun jT=>bB.fJ (du.mark 2001 2009 rfl az8) fun b=>bB.le (ac.G9 1401 16 6001 6009 jT rfl rfl rfl) <| bB.le (ac.close 6001 (ie 6001 6002 ((dV ⟨z,R,L,aX,db,ds,es,M,lb,Q,ey,.no,bO⟩*2 ^z:Nat):Int) 1 []) (o:=e9 ((dV ⟨z,R,L,aX,db,ds,es,M,lb,Q,ey,.no,bO⟩*2 ^z:Nat):Int) 1 []) aE rfl fun I F x p h=>j1.a7 [(6001,1001),(6002,1002)] h) <| bB.le (ac.trans (ac.Nc 6001 6009 jT rfl rfl) (ac.put 1601 6001 az8 rfl rfl)) <| bB.le (ac.E4 7 2001 2009 b rfl rfl) <| bx [] (ac.GX 1501 2001 1001 2009 b (nf z aX ((dV ⟨z,R,L,aX,db,ds,es,M,lb,Q,ey,.no,bO⟩:Nat):Int) s.l (h1 (mw x.g x.es) z (dV ⟨z,R,L,aX,db,ds,es,M,lb,Q,ey,.no,bO⟩*2 ^z)) [] false false) rfl rfl aE rfl) <| bo (E6 rfl underlying81 rfl) ?_⟩⟩⟩⟩;exact az (G2 (z:=z) (R:=R) (L:=L) (aX:=aX) (db:=db) (lb:=lb) (kd:=0) (gG:=.nilIface) (dv:=none) (pu:=some b) (m:=(tl s.nm (s9 Q) z ((dV ⟨z,R,L,aX,db,ds,es,M,lb,Q,ey,.no,bO⟩:Nat):Int) s.fL (some (jT,((dV ⟨z,R,L,aX,db,ds,es,M,lb,Q,ey,.no,bO⟩*2 ^z:Nat):Int),1,[])))) (es:=es) (M:=M) 3 81 (.pointer (some ⟨b,0,none⟩))) ⟨⟨(0,⟨z,R,L,aX,db,ds,es,M,lb,Q,b,.pu aX ((dV ⟨z,R,L,aX,db,ds,es,M,lb,Q,ey,.no,bO⟩:Nat):Int) s.l (h1 (mw x.g x.es) z (dV ⟨z,R,L,aX,db,ds,es,M,lb,Q,ey,.no,bO⟩*2 ^z)) [] false false,(tl s.nm (s9 Q) z ((dV ⟨z,R,L,aX,db,ds,es,M,lb,Q,ey,.no,bO⟩:Nat):Int) s.fL (some (jT,((dV ⟨z,R,L,aX,db,ds,es,M,lb,Q,ey,.no,bO⟩*2 ^z:Nat):Int),1,[])))⟩),.inr ⟨AE,.inr (.inr ⟨au,x,Z,.inr ⟨a2,.inr ⟨qd,rfl,b,jT,rfl⟩⟩⟩)⟩⟩,_,_,_,bu,rfl,rfl,aE,rfl⟩
   .have cx:=Nf au x Z a2;obtain⟨z,R,L,aX,db,ds,es,M,lb,Q,ey,bL,bO⟩:=w;simp only at V;subst V;refine hR [] func35 ?_;refine⟨rfl,bo (pM rfl underlying79 rfl) ?_⟩;exact az aw ⟨fun h=>ap0 h (by simp[km]),fun _=>az ak <| az yh ⟨eJ aA0,fun h=>ap0 (hl.symm.trans h) az8,fun _=>az cx ⟨fun _=>⟨⟨(_,_),.inr ⟨AE,.inr (.inr ⟨au,x,Z,.inl ⟨a2,rfl,rfl⟩⟩)⟩⟩,_,_,_,bu,rfl,rfl,aE,rfl⟩,fun h=>ap0 h (by simp[a2])⟩⟩⟩
end
section
def Vy (A B:av) (h:((ci A).all fun d=>(ae B d).isNone)=true) (c:Nat):ae (B++A) c=ae (A++B) c:=by
 rw[hQ,hQ]
 cases ha:ae A c with
 |none=>cases ae B c <;>rfl
 |some x=>
  have:=ar3.1 h c (f1.2 ⟨x,ha⟩);rw[ay5.1 this]
def Fn.swap {P:aD9} {f:aE8} {args:List aN} {A B A' B':av} {bb:aD3} {res:aN} (h:Fn P f args (A++B) bb res (A'++B')) (E:((ci A).all fun d=>(ae B d).isNone)=true) (G:((ci A').all fun d=>(ae B' d).isNone)=true):Fn P f args (B++A) bb res (B'++A'):=
 Fn.G1 h (Vy A B E) (Vy A' B' G)
def amd {s g bF g2:Int} {es eK ef:aD4} {b:Nat} {r:Int} (h:Fn prog 145 [ap 1001,ap 3001] (Gf s g es bF g2 ef) [] (ab r) (Gf s g eK bF g2 ef)):
  Fn prog 145 [ap 1001,di b] (ie 1001 1002 s g es++[(1601,.aA (.bD [(b,e9 bF g2 ef)]))]) [] (ab r) (ie 1001 1002 s g eK++[(1601,.aA (.bD [(b,e9 bF g2 ef)]))]):=by
 have cy:Fn prog 145 [ap 1001,ap 3001] ((3001,.aA (e9 bF g2 ef))::ie 1001 1002 s g es) [] (ab r) ((3001,.aA (e9 bF g2 ef))::ie 1001 1002 s g eK):=
  Fn.close (bp:=ie 3001 3002 bF g2 ef) (dD:=ie 3001 3002 bF g2 ef) [3002] (Fn.swap (A:=ie 1001 1002 s g es) (A':=ie 1001 1002 s g eK) h rfl rfl) (fun _ _ _ _ h=>j1.a7 [(1001,3001),(1002,3002)] h) (fun _ _ _ _ h=>j1.a7 [(3001,1001),(3002,1002)] h) rfl rfl
 have cu:Fn prog 145 [ap 1001,ap 3001] ((3001,.aA ((e9 bF g2 ef).at b))::ie 1001 1002 s g es) [] (ab r) ((3001,.aA ((e9 bF g2 ef).at b))::ie 1001 1002 s g eK):=Fn.alp (b:=b) cy rfl
 refine Fn.via (X:=Unit) (args':=fun _=>[ap 1001,ap 3001]) (t':=fun _=>(3001,.aA ((e9 bF g2 ef).at b))::(1601,.aA (.bD (j3 [(b,e9 bF g2 ef)] b)))::ie 1001 1002 s g es) (mI:=fun _=>(3001,.aA ((e9 bF g2 ef).at b))::ie 1001 1002 s g es) (i9:=fun _=>[]) (res':=fun _=>ab r) (nE:=fun _=>(3001,.aA ((e9 bF g2 ef).at b))::ie 1001 1002 s g eK) cu.1 2 rfl ?_ (fun _=>cu) (fun _=>aE) (fun _=>rfl) (fun _=>rfl)
  (fun _=>⟨ab r,ie 1001 1002 s g eK++[(1601,.aA (.bD (gr [(b,e9 bF g2 ef)] b (e9 bF g2 ef))))],?_,rfl,⟨rfl,rfl,?_,trivial⟩,rfl⟩)
 .rintro N C a w ax
  have hh:ac (ci (ie 1001 1002 s g es++[(1601,.aA (.bD [(b,e9 bF g2 ef)]))])) (ol 0 [ap 1001,di b]) (ie 1001 1002 s g es++[(1601,.aA (.bD [(b,e9 bF g2 ef)]))]) (ol 0 [ap 1001,ap 3001]) ((3001,.aA ((e9 bF g2 ef).at b))::(1601,.aA (.bD (j3 [(b,e9 bF g2 ef)] b)))::ie 1001 1002 s g es):=
   ac.trans (ac.BZ 1601 3001 b rfl (vj rfl) rfl) (ac.trans (ac.P7 1 3001 b rfl rfl) (ac.sub aE aE))
  exact⟨(),hh N C a w ax⟩
 .exact ac.trans (ac.Qb (o:=e9 bF g2 ef) (L:=[(b,e9 bF g2 ef)]) 1601 3001 b rfl rfl (vj rfl) az8) (ac.sub aE aE)
 .show some (ba.aA (.bD (gr [(b,e9 bF g2 ef)] b (e9 bF g2 ef))))=_;rw[show gr [(b,e9 bF g2 ef)] b (e9 bF g2 ef)=[(b,e9 bF g2 ef)] from vj rfl]
def Vz {nm:aD2} {u:bq->bq} (a8: ∀x,(u x).nm=x.nm): ∀{l:aE3} {e:bq},dy l nm=some e->dy (lR l nm u) nm=some (u e)
 | [],_,h=>by cases h
 |d::l,e,h=>by
  rw[vV] at h;show dy ((if d.nm=nm then u d else d)::lR l nm u) nm=_;rw[vV]
  by_cases c:d.nm=nm
  .rw[vj c] at h;injection h with h
   subst h;rw[vj c,vj ((a8 d).trans c)]
  .rw[mu c] at h;rw[mu c,mu c];exact Vz a8 h
def VA {nm:aD2}: ∀{l:aE3} {e:bq},(l.map (·.nm)).Nodup->dy l nm=some e->dy (kS l nm) nm=none/\(kS l nm).length < l.length
 | [],_,_,h=>by cases h
 |d::l,e,hn,h=>by
  rw[aq5,as2] at hn;rw[vV] at h;unfold kS
  by_cases c:d.nm=nm
  .rw[vj c];refine⟨?_,Nat.lt_succ_self _⟩
   cases Z:dy l nm with
   |none=>rfl
   |some x=>
    obtain⟨co,cZ⟩:=lV Z;exact ap0 (by rw[c,<-cZ];exact ar8 co) hn.1
  .rw[mu c] at h⊢;obtain⟨co,cZ⟩:=VA hn.2 h;exact⟨by rw[vV,mu c];exact co,by simp only[as9];omega⟩
abbrev gH (m:Made) (g:aD6):b9:=(eo m.fS,dn m.fS,c2 m.fS,ep m.fS,nP g)
abbrev pt (m:Made) (g:aD6):Made:=⟨gH m g,m.eB,m.eg⟩
def G' (ds:aE3) (eB:aD2) (x:bq) (bF g2:Int) (ef:aD4) (a b:Nat):List bq:=lR (kS (lR ds eB nS) eB++[⟨eB,a,b,true,true,x.s,x.g,Ac x.s x.g (nS x).es (r0 bF g2 ef)⟩]) eB fun e=>{e with on:=x.on}
def uU (w:bQ) (g:aD6) (e:Int) (w':bQ):Prop:=(gy w.Q (gH w.bO g)≠0/\e=gy w.Q (gH w.bO g)/\w'={w with bO:=pt w.bO g})\/
 (gy w.Q (gH w.bO g)=0/\ ∃dK,yg {w with bO:=pt w.bO g} (gQ w.Q (gH w.bO g)) e dK/\
  (((e≠0\/w.bO.eg=none\/dy w.ds w.bO.eB=none)/\w'=dK)\/(e=0/\ ∃jT bF g2 ef x a b,w.bO.eg=some (jT,bF,g2,ef)/\dy w.ds w.bO.eB=some x/\e' (G' w.ds w.bO.eB x bF g2 ef a b)/\w'={dK with ds:=G' w.ds w.bO.eB x bF g2 ef a b})))
def VB {z R:Nat} {L:aD5} {nm:aD2} {l:aD3} {g:aD6} (ao:fU z R L nm l g) (m:Made) (p:j8) (h:p∈cB (gH m g)):(lW p).length<=4294967296:=by
 obtain⟨k,_,rfl⟩:=ar6.1 (show p∈nP g from h)
 exact LE k g fun q aY=>by
  have E:=(ao.gt q aY).2;have G:2 ^z<=2 ^3:=ay6 az8 ao.cs.b3;omega
def ame (w:bQ) (aq:ld w) {nm:aD2} {n rm:Int} {l:aD3} {g:aD6} {over:Bool} (V:w.bL= .pu nm n rm l g over true) (ao:fU w.z w.R w.L nm l g) (pK:gN (eo w.bO.fS)=true) (eR:gy w.Q (gH w.bO g)≠0):
  cz prog 87 [ap 1401] (cS w) [] (X:=ng (uU w g)) (fun p=>ab p.1.1) (fun p=>cS p.1.2):=by
 have i7:=Vj (b:=w.b) (n:=n) (rm:=rm) (over:=over) ao;have U:=Vv aq.q.tonW w.lb;have H:=Vw aq.q;have SI:=ao.LI;have r5:=L9 w.Q (gH w.bO g) (by have:=aq.q.len;omega) (by have:=Cr pK;show(eo w.bO.fS).length<=_;omega) (by show(nP g).length<=_;rw[LD];omega) (VB ao w.bO);obtain⟨z,R,L,aX,db,ds,es,M,lb,Q,ey,bL,bO⟩:=w;simp only at V;subst V;refine hR [] func87 ?_;refine az i7 <| az U <| az H <| az (Fn.a7 [(1001,3001),(1002,3002),(1003,3003)] r5) ⟨fun h=>ap0 (gd h) eR,fun _=>?_⟩;exact⟨fun _=>⟨eJ aA0,⟨(_,⟨z,R,L,aX,db,ds,es,M,lb,Q,ey,.pu nm n rm l g over true,pt bO g⟩),.inl ⟨eR,rfl,rfl⟩⟩,_,_,_,bu,rfl,rfl,aE,rfl⟩,fun h=>ap0 h (by simp only at eR;simp[eR])⟩
def amf {w:bQ} {g:aD6} (eR:gy w.Q (gH w.bO g)=0) (a2:rh (gQ w.Q (gH w.bO g))=0) {b lb:Nat} (O:b∉w.M.map (·.1)) {jT:Nat} {bF g2:Int} {ef:aD4} {x:bq} (ax:w.bO.eg=some (jT,bF,g2,ef)) (Z:dy w.ds w.bO.eB=some x) {l':aE3}
  (vH:rf (kS (lR w.ds w.bO.eB nS) w.bO.eB) w.bO.eB=0) (ak:AC (kS (lR w.ds w.bO.eB nS) w.bO.eB) w.bO.eB true true x.s x.g (Ac x.s x.g (nS x).es (r0 bF g2 ef)) l'):
  uU w g 0 {w with bO:=pt w.bO g,es:=sg w.es (gQ w.Q (gH w.bO g)) b,M:=(b,sh (gQ w.Q (gH w.bO g)) b)::w.M,lb:=lb,Q:=gQ w.Q (gH w.bO g),ds:=lR l' w.bO.eB fun e=>{e with on:=x.on}}:=by
 rcases ak.2 with⟨_,_,_,_,a,eb,rfl⟩ |⟨h,_⟩
 .refine .inr ⟨eR,{w with bO:=pt w.bO g,es:=sg w.es (gQ w.Q (gH w.bO g)) b,M:=(b,sh (gQ w.Q (gH w.bO g)) b)::w.M,lb:=lb,Q:=gQ w.Q (gH w.bO g)},⟨a2.symm,b,O,.inl ⟨a2,lb,?_⟩⟩,.inr ⟨rfl,jT,bF,g2,ef,x,a,eb,ax,Z,ak.1.Tk (fun e=>{e with on:=x.on}) w.bO.eB (fun _=>⟨rfl,rfl,rfl⟩) fun _ h=>h,?_⟩⟩
  .with_reducible rfl
  .unfold G'
   with_reducible rfl
 .exact ap0 vH h
def amg (w:bQ) (aq:ld w) {nm:aD2} {n rm:Int} {l:aD3} {g:aD6} {over:Bool} (V:w.bL= .pu nm n rm l g over true) (ao:fU w.z w.R w.L nm l g) (pK:gN (eo w.bO.fS)=true) (eR:gy w.Q (gH w.bO g)=0):
  cz prog 87 [ap 1401] (cS w) [] (X:=ng (uU w g)) (fun p=>ab p.1.1) (fun p=>cS p.1.2):=by
 have i7:=Vj (b:=w.b) (n:=n) (rm:=rm) (over:=over) ao;have U:=Vv aq.q.tonW w.lb;have H:=Vw aq.q;have SI:=ao.LI;have r5:=L9 w.Q (gH w.bO g) (by have:=aq.q.len;omega) (by have:=Cr pK;show(eo w.bO.fS).length<=_;omega) (by show(nP g).length<=_;rw[LD];omega) (VB ao w.bO);rw[eR] at r5;have J:=alZ (aq.q.tonW.add (gH w.bO g)) aq.ps;have dI:=Fn.nG (b:=w.db) [1002,1003,1004] 1101 (aiK aq.ds w.bO.eB);have AF:e' (lR w.ds w.bO.eB nS):=aq.ds.Tk nS w.bO.eB (fun _=>⟨rfl,rfl,rfl⟩) fun e k=>⟨k.1,k.2.1,Gg k.2.2 _ _⟩
 have x1:=aq.d';have xR:=aq.eg;have hL:=aq.ds;obtain⟨ao0,amh,_⟩:=aq.dk;have aD:=M8 aq.cs amh;obtain⟨z,R,L,aX,db,ds,es,M,lb,Q,ey,bL,bO⟩:=w;obtain⟨fS,eB,eg⟩:=bO;simp only at V eR x1 xR AF hL aD;subst V
 by_cases a2:rh (gQ Q (gH ⟨fS,eB,eg⟩ g))=0
 .simp only[a2] at J;have J:=al0 ⟨z,R,L,aX,db,ds,es,M,lb,Q,ey,.pu nm n rm l g over true,pt ⟨fS,eB,eg⟩ g⟩ (F:=sg es (gQ Q (gH ⟨fS,eB,eg⟩ g))) (S:=sh (gQ Q (gH ⟨fS,eB,eg⟩ g))) J
  cases eg with
  |none=>
   refine hR [5,6] func87 ?_;refine az i7 <| az U <| az H <| az (Fn.a7 [(1001,3001),(1002,3002),(1003,3003)] r5) <| gV <| bB.hP eC aA0 ⟨_,_,_,fun g=>_,fun g=>_,cz.a7 [(3002,3003)] J,aE,rfl,fun _=>rfl,fun x=>?_⟩;obtain⟨⟨b,O⟩,Dn⟩:=x;exact bx [] (bu) <| dR ⟨fun _ h=>aA7,fun _=>⟨eJ aA0,⟨(0,_),.inr ⟨eR,_,⟨a2.symm,b,O,.inl ⟨a2,Dn,rfl⟩⟩,.inl ⟨.inr (.inl rfl),rfl⟩⟩⟩,_,_,_,bu,rfl,rfl,aE,rfl⟩⟩
  |some p=>
   obtain⟨jT,bF,g2,ef⟩:=p;obtain⟨co,cZ,ei⟩:=xR _ rfl;have co:bF=((b6 L aX*2 ^z:Nat):Int):=co;have cZ:g2=1:=cZ
   cases Z:dy ds eB with
   |none=>
    simp only[Gn Z,Gl Z] at dI;refine hR [5,6] func87 ?_;refine az i7 <| az U <| az H <| az (Fn.a7 [(1001,3001),(1002,3002),(1003,3003)] r5) <| gV <| bB.hP eC aA0 ⟨_,_,_,fun g=>_,fun g=>_,cz.a7 [(3002,3003)] J,aE,rfl,fun _=>rfl,fun y=>?_⟩;obtain⟨⟨b,O⟩,Dn⟩:=y;exact bx [] (bu) <| dR ⟨fun _ _=>az dI ⟨eJ aA0,gV ⟨⟨(0,_),.inr ⟨eR,_,⟨a2.symm,b,O,.inl ⟨a2,Dn,rfl⟩⟩,.inl ⟨.inr (.inr Z),rfl⟩⟩⟩,_,_,_,bu,rfl,rfl,aE,rfl⟩⟩,fun h=>aA7⟩
   |some x=>
    simp only[Gm Z] at dI;obtain⟨Be,rC⟩:=x1 x (lV Z).1;obtain⟨cE,cG,dG,e3⟩:=hL.ok x (lV Z).1;have EZ:eB.length<=64:=(lV Z).2▸e3;have bv:gN eB=true:=(lV Z).2▸Be.nm;have cl:=Vz (u:=nS) (fun _=>rfl) Z;have aV:=Na AF db cl;have CE:=amd (b:=jT) (ah5 x.s x.g (nS x).es bF g2 ef cE cG az7 az7 az7);have ami:=Fn.nG (b:=db) [1002,1003,1004] 1101 (aiM AF eB);obtain⟨fO,br⟩:=VA AF.gE cl;have yf:=Vu (AF.mO eB) db eB az7 x.s x.g (Ac x.s x.g (nS x).es (r0 bF g2 ef)) ⟨cE,cG,ah9 (Gg dG _ _) _ _⟩
    have vH:rf (kS (lR ds eB nS) eB) eB=0:=(mu (by rw[bv];decide)).trans (mu (by
     have:=AF.len;rw[fO];rintro(h |h)
     .cases h
     .omega))
    simp only[vH] at yf;refine hR [5,6,12] func87 ?_;refine az i7 <| az U <| az H <| az (Fn.a7 [(1001,3001),(1002,3002),(1003,3003)] r5) <| gV <| bB.hP eC aA0 ⟨_,_,_,fun g=>_,fun g=>_,cz.a7 [(3002,3003)] J,aE,rfl,fun _=>rfl,fun y=>?_⟩;obtain⟨⟨b,O⟩,Dn⟩:=y;refine bx [12] (bu) <| dR ⟨fun _ _=>az dI ⟨eJ aA0,dR <| az aV ⟨rfl,eJ aA0,az (Fn.a7 [(1001,5001),(1002,5002)] CE) ⟨eJ aA0,az ami ⟨eJ aA0,az (Fn.a7 [(2001,5001),(2002,5002)] yf) ⟨eJ aA0,bB.fJ (du.iU 1101 rfl) fun aF=>?_⟩⟩⟩⟩⟩,fun h=>aA7⟩;obtain⟨l',gh⟩:=aF;have amj:=Fn.nG (b:=db) [1002,1003,1004] 1101 (aiJ gh.1 eB x.on);exact bx [] (bu) <| az amj ⟨eJ aA0,⟨(0,_),amf (w:=⟨z,R,L,aX,db,ds,es,M,lb,Q,ey,.pu nm n rm l g over true,⟨fS,eB,some (jT,bF,g2,ef)⟩⟩) (lb:=Dn) eR a2 O (Eq.refl _) Z vH gh⟩,_,_,_,bu,rfl,rfl,aE,rfl⟩
 .have eu: ∀b:{b:Nat//b∉M.map (·.1)},yg ⟨z,R,L,aX,db,ds,es,M,lb,Q,ey,.pu nm n rm l g over true,pt ⟨fS,eB,eg⟩ g⟩ (gQ Q (gH ⟨fS,eB,eg⟩ g)) (rh (gQ Q (gH ⟨fS,eB,eg⟩ g))) ⟨z,R,L,aX,db,ds,sg es (gQ Q (gH ⟨fS,eB,eg⟩ g)) b.1,(b.1,sh (gQ Q (gH ⟨fS,eB,eg⟩ g)) b.1)::M,lb,Q,ey,.pu nm n rm l g over true,pt ⟨fS,eB,eg⟩ g⟩:=fun b=>⟨Eq.refl _,b.1,b.2,.inr ⟨a2,Eq.refl _⟩⟩
  have J:=al1 ⟨z,R,L,aX,db,ds,es,M,lb,Q,ey,.pu nm n rm l g over true,pt ⟨fS,eB,eg⟩ g⟩ a2 (F:=sg es (gQ Q (gH ⟨fS,eB,eg⟩ g))) (S:=sh (gQ Q (gH ⟨fS,eB,eg⟩ g))) J;generalize rh (gQ Q (gH ⟨fS,eB,eg⟩ g))=e at eu a2 J;refine hR [5,6] func87 ?_;exact az i7 <| az U <| az H <| az (Fn.a7 [(1001,3001),(1002,3002),(1003,3003)] r5) <| gV <| bB.hP eC aA0 ⟨_,_,_,fun g=>_,fun g=>_,cz.a7 [(3002,3003)] J,aE,rfl,fun _=>rfl,fun x=>bx [] (bu) ⟨fun _=>⟨eJ aA0,⟨(e,_),.inr ⟨eR,_,eu x,.inl ⟨.inl a2,rfl⟩⟩⟩,_,_,_,bu,rfl,rfl,aE,rfl⟩,fun h=>ap0 h (by simp[a2])⟩⟩
abbrev Ha:Type:=List bq×gF×fh×Nat×List b9
abbrev AG (w:bQ) (g:aD6) (t:Ha):bQ:={w with bO:=pt w.bO g,ds:=t.1,es:=t.2.1,M:=t.2.2.1,lb:=t.2.2.2.1,Q:=t.2.2.2.2}
def yi {w w':bQ} {Q:aE6} {e:Int} (h:yg w Q e w'):w'={w with es:=w'.es,M:=w'.M,lb:=w'.lb,Q:=w'.Q}:=by
 obtain⟨_,b,_,⟨_,lb,rfl⟩ |⟨_,rfl⟩⟩:=h
 .with_reducible rfl
 .with_reducible rfl
def VC {w w':bQ} {g:aD6} {e:Int} (h:uU w g e w'):w'=AG w g (w'.ds,w'.es,w'.M,w'.lb,w'.Q):=by
 rcases h with⟨_,_,rfl⟩ |⟨_,dK,G,⟨_,rfl⟩ |⟨_,jT,bF,g2,ef,x,a,b,_,_,_,rfl⟩⟩
 .with_reducible rfl
 .have ag:=yi G;rw[ag]
 .have ag:=yi G;rw[ag]
def amk (w:bQ) (aq:ld w) {nm:aD2} {n rm:Int} {l:aD3} {g:aD6} {over:Bool} (V:w.bL= .pu nm n rm l g over true) (ao:fU w.z w.R w.L nm l g) (pK:gN (eo w.bO.fS)=true):
  cz prog 87 [ap 1401] (cS w) [] (X:={p:Int×Ha//uU w g p.1 (AG w g p.2)}) (fun p=>ab p.1.1) (fun p=>cS (AG w g p.1.2)):=by
 have h:cz prog 87 [ap 1401] (cS w) [] (X:=ng (uU w g)) (fun p=>ab p.1.1) (fun p=>cS p.1.2):=by
  by_cases eR:gy w.Q (gH w.bO g)=0
  .exact amg w aq V ao pK eR
  .exact ame w aq V ao pK eR
 exact h.to (fun x=>⟨(x.1.1,x.1.2.ds,x.1.2.es,x.1.2.M,x.1.2.lb,x.1.2.Q),VC x.2▸x.2⟩) (fun _=>rfl) fun x=>ap1 cS (VC x.2)
end
section
section
variable {P:aD9} {ids:aD3} {K:aW} {B:av} {o:Oper}
abbrev rj (f b:Nat):Value:=.func (.func f) #[.pointer (some ⟨b,0,none⟩)] #[]
def wl (b:Nat):Nat->aD3->List MapEntry->Prop
 |_,[],es=>es=[]
 |i,f::fs,es=> ∃e r,es=e::r/\e.key= .int .i64 (i:Int)/\e.val=rj f b/\wl b (i+1) fs r
def wl.Au {b f:Nat}: ∀{fs:aD3} {i:Nat} {es:aF0} {e:MapEntry},wl b i fs es->e.key= .int .i64 ((i+fs.length:Nat):Int)->e.val=rj f b->wl b i (fs++[f]) (es++[e])
 | [],i,es,e,h,E,G=>by rw[show es=[] from h];exact⟨e,[],rfl,E,G,rfl⟩
 |x::fs,i,_,e,⟨ca,r,h,bR,b',a3⟩,E,G=>by
  rw[h];exact⟨ca,r++[e],rfl,bR,b',wl.Au a3 (by rw[E,as9,show i+(fs.length+1)=i+1+fs.length by omega]) G⟩
def Ng {b:Nat} {k:Int}: ∀{fs:aD3} {i:Nat} {es:aF0} (j:Nat),wl b i fs es->
  ((k < (i:Int)\/((i+fs.length:Nat):Int)<=k)->Instr.findNow (.int .i64) (.int .i64 k) es j=some none)/\(∀(m:Nat) (aD:m < fs.length),k=((i+m:Nat):Int)->Instr.findNow (.int .i64) (.int .i64 k) es j=some (some (j+m,rj fs[m] b)))
 | [],i,es,j,h=>by
  rw[show es=[] from h];exact⟨fun _=>rfl,fun m aD=>ap0 aD (ay8 _)⟩
 |f::fs,i,_,j,⟨e,r,h,bR,b',a3⟩=>by
  subst h;obtain⟨aF,aO,qo⟩:=MapKept.sameNow_of_keys (so (aI:=aj) (d:=.int .i64) rfl k) (so (aI:=aj) (d:=.int .i64) rfl ((i:Nat):Int));have aO:Instr.sameNow (.int .i64) (.int .i64 k) e.key=some aF:=by rw[bR];exact aO
  obtain⟨r1,r2⟩:=Ng (k:=k) (j+1) a3
  by_cases Z:k=(i:Int)
  .have aml:aF=true:=qo.2 (by rw[Z]);subst aml;refine⟨fun bf=>?_,fun m aD bf=>?_⟩
   .rw[as9] at bf;omega
   .obtain rfl:m=0:=aA5
    simp[Instr.findNow,aO,b']
  .have amm:aF=false:=by
    cases aF with
    |false=>rfl
    |true=>
     have:=qo.1 rfl;injection this with _ G
     exact ap0 G Z
   subst amm;refine⟨fun bf=>?_,fun m aD bf=>?_⟩
   .simp only[Instr.findNow,aO];exact r1 (by rw[as9] at bf;omega)
   .cases m with
    |zero=>exact ap0 bf Z
    |succ m=>
     have:=r2 m (by simpa using aD) (by rw[bf];omega);simp only[Instr.findNow,aO];simp only[List.getElem_cons_succ];rw[show j+(m+1)=j+1+m by omega];exact this
def Do (b:Nat) (fs:aD3):bc where
 bn:=fun _ F w p=>(∀x,F x↔x=p.bh)/\ ∃bP bU,w.heap[p.bh]? =some (.map (List.toArray bP) bU)/\wl b 0 fs bP/\lB bP bU
 cg:=fun _ F w _ w' p ⟨E,bP,bU,G,ag⟩ _ bj _=>⟨E,bP,bU,(bj _ ((E _).2 rfl)).trans G,ag⟩
def Nh (b:Nat) (fs:aD3) (ch:ba):Prop:=(fs=[]/\ch= .map aj .fn [])\/ch= .aA (Do b fs)
def Nh.holds {b:Nat} {fs:aD3} {ch:ba} (h:Nh b fs ch) {ρ:Nat->bm} {I F:Nat->Prop} {w:aD8} {p:bm} (bf:Holds ρ I F w p ch):(Do b fs).bn I F w p:=by
 rcases h with⟨rfl,rfl⟩ |rfl
 .obtain⟨E,bP,bU,G,ag,aS⟩:=bf;exact⟨E,bP,bU,G,ag,aS⟩
 .exact bf
def rk {T kt et:aE4} {x i v:aE0} {c f b:Nat} (ai:o.op= .insert T x i v) (b4:P.underlying T=some (.map kt et)) (k4:P.underlying kt=some (.int .i64)) {fs:aD3} {ch:ba} (hx:a1 K x= .c (.one (.mp c))) (Z:a1 K i= .c (.one (.d (.int .i64 (fs.length:Nat)))))
  (ay:a1 K v=xP f b) (J:ae B c=some ch) (hw:Nh b fs ch) (N:Nat):bC P N ids o K B .undef ⟨[c],[],[(c,some (.aA (Do b (fs++[f]))))]⟩:=by
 have c4:x∈o.op.operands:=aA4
 have ec:i∈o.op.operands:=aA4
 have mn:v∈o.op.operands:=aA4
 refine bC.Sm J fun K' B' g1 g2 C ρ F a w ah ar gh=>?_
 obtain⟨bj,bP,bU,O,aD,dh⟩:=hw.holds (ah.holds c _ gh);have af:=ar.mp ((g1 x c4).trans hx);have al:a.eval i= .int .i64 ((fs.length:Nat):Int):=ar.int ((g1 i ec).trans Z);have bt:a.eval v=rj f b:=ar.ev ((g1 v mn).trans ay);have s4:=fun e=>MapKept.run_checkKey (P:=P) (w:=w) k4 (so (aI:=aj) (d:=.int .i64) rfl ((fs.length:Nat):Int)) e 9999
 have e1:=fun o=>MapKept.run_setObj_map (P:=P) o O
 have hf:=MapKept.run_findKey (P:=P) (w:=w) k4 ((Ng 0 aD).1 (.inr (by rw[at5];exact Int.le_refl _)));have br:=l0 O;simp only[gI] at s4
 have aw:(Instr.mapUpdate T (.map (some (ρ c).bh)) (.int .i64 ((fs.length:Nat):Int)) (rj f b)).run P w= .ok () {w with heap:=w.heap.setIfInBounds (ρ c).bh (.map (List.toArray (bP++[⟨.int .i64 ((fs.length:Nat):Int),rj f b,bU⟩])) (bU+1))}:=by
  simp[Instr.mapUpdate,run_underlying b4,av0 O,s4,hf,e1,Result.andThen]
 refine⟨{w with heap:=w.heap.setIfInBounds (ρ c).bh (.map (List.toArray (bP++[⟨.int .i64 ((fs.length:Nat):Int),rj f b,bU⟩])) (bU+1))},?_,tL ((bj _).2 rfl),fun I a2=>⟨bj,bP++[⟨.int .i64 ((fs.length:Nat):Int),rj f b,bU⟩],bU+1,by simp[br],wl.Au aD (by rw[at5]) rfl,NT dh _ _⟩⟩;simp only[execOp,ai,as8,af,al,bt,aw,ar0,at8]
def amn {aQ:df} (bk:d5 P aQ) {T kt et:aE4} {x i:aE0} {c b:Nat} (ai:o.op= .lookup T x i true) (b4:P.underlying T=some (.map kt et)) (k4:P.underlying kt=some (.int .i64)) {ti:b5} (gL:aQ.find et=some ti) {fs:aD3} (hx:a1 K x= .c (.one (.mp c))) {key:Int} (Z:a1 K i= .c (.one (.d (.int .i64 key))))
  (J:ae B c=some (.aA (Do b fs))) {m:Nat} {f:Nat} (aD:fs[m]? =some f) (amo:key=(m:Int)) (N:Nat):bC P N ids o K B (.cm [.one (.bH (rj f b)),.one (.d (.lit true))]) ⟨[c],[],[]⟩:=by
 have c4:x∈o.op.operands:=aA4
 have ec:i∈o.op.operands:=aA4
 obtain⟨E',d,bv⟩:=bk.at_ gL;obtain⟨aF,aO,oh⟩:=bv.zero;refine bC.val fun K' B' g1 g2 C ρ F a w ah ar=>?_
 obtain⟨bj,bP,bU,O,Jr,dh⟩:(Do b fs).bn _ _ w _:=ah.holds c _ ((g2 c az9).trans J);have af:=ar.mp ((g1 x c4).trans hx);have al:a.eval i= .int .i64 key:=ar.int ((g1 i ec).trans Z);have s4:=fun e=>MapKept.run_checkKey (P:=P) (w:=w) k4 (so (aI:=aj) (d:=.int .i64) rfl key) e 9999
 obtain⟨ak,U⟩:=ap6.1 aD;have hf:=MapKept.run_findKey (P:=P) (w:=w) k4 ((Ng (k:=key) 0 Jr).2 m ak (by rw[at5];exact amo));rw[U] at hf;refine⟨.tuple #[rj f b,.bool true],?_,⟨[rj f b,.bool true],rfl,_,_,rfl,rfl,_,_,rfl,rfl,rfl⟩⟩
 have aw:(Instr.lookup T (.map (some (ρ c).bh)) (.int .i64 key) true).run P w= .ok (.tuple #[rj f b,.bool true]) w:=by
  simp only[gI] at s4 hf;simp[Instr.lookup,run_underlying b4,av0 O,s4,hf,Result.andThen]
 simp only[execOp,ai,as8,af,al,aw,ar0,at8]
end
def cz.mk {P:aD9} {f:aE8} {c m b:Nat} {args:List aN} {aJ:av} {bb:aD3} {X:Type} {res:X->aN} {aP:X->av} (h:cz P f (.c (.one (.ptr c 0))::args) aJ bb res aP) (E:((ae aJ m).isNone&& !bb.contains c&& !bb.contains m)=true) (G: ∀g,(ae (aP g) m).isNone=true):
  cz P f (.c (.one (.d (.aM (some b))))::args) (aJ++[(m,.bY c (eO b))]) bb res (fun g=>aP g++[(m,.bY c (eO b))]):=by
 obtain⟨fH,h⟩:=h;simp only[ao8,aq9,ay5] at E G;obtain⟨⟨bR,b'⟩,a3⟩:=E;have b':=vn b';have hp: ∀(B:av) {e:Nat} {ch:ba},ae B e=some ch->ae (B++[(m,.bY c (eO b))]) e=some ch:=fun B {e ch} U=>by rw[hQ,U]
 have one: ∀(B:av),ae B m=none->ae (B++[(m,.bY c (eO b))]) m=some (.bY c (eO b)):=fun B hn=>by rw[hQ,hn];simp[ae]
 have sO: ∀(B:av) {e:Nat} {ch:ba},ae (B++[(m,.bY c (eO b))]) e=some ch->(ae B e=some ch)\/(ae B e=none/\e=m/\ch= .bY c (eO b)):=fun B {e ch} U=>by
  rw[hQ] at U
  cases bf:ae B e with
  |some y=>rw[bf] at U;exact .inl U
  |none=>
   rw[bf] at U;simp only[cn] at U
   split at U
   .rename_i al;injection U with U;exact .inr ⟨rfl,al.symm,U.symm⟩
   .cases U
 refine⟨fH,fun ρ F I w bW aZ c9 bj ew bZ dz=>?_⟩;have aD:(ρ c).bh=b/\ ∀x,¬F m x:=c9 m _ (one aJ bR);have mg: ∀y,(∃e ch,ae aJ e=some ch/\F e y)-> ∃e ch,ae (aJ++[(m,ba.bY c (eO b))]) e=some ch/\F e y:=fun y ⟨e,ch,U,aC⟩=>⟨e,ch,hp _ U,aC⟩
 match bW,bZ with
 |v0::bW,bZ=>
 have w8:v0= .pointer (some ⟨b,0,none⟩):=dz 0 _ v0 rfl rfl;refine(h ρ F I w (v0::bW) aZ (fun e ch U=>c9 e ch (hp _ U)) (fun e ch U=>bj e ch (hp _ U)) (fun e ca ch ch' x U hk=>ew e ca ch ch' x (hp _ U) (hp _ hk)) (by simpa using bZ) ?_).mono ?_
 .intro i v x ay hx
  match i with
  |0=>
   simp only[aq2,ap5] at ay hx;subst ay hx;show v0=_;rw[aD.1];exact w8
  |i+1=>exact dz (i+1) v x aB9 hx
 .rintro e w' ⟨g,x,ρ',F',rfl,cC,de,I',i0,gw,k1,aq,hB,rF⟩;have a6: ∀{e ch},ae (aP g) e=some ch->e≠m:=fun {e ch} U al=>by rw[al,G g] at U;cases U
  refine⟨g,x,ρ',fun e=>if e=m then(fun _=>False) else F' e,rfl,cC.mono fun y _ aC=>mg y aC,de,I',i0,fun y aC=>⟨(gw y aC).1,?_⟩,?_,?_,?_,rF⟩
  .rcases(gw y aC).2 with h |h |h
   .exact .inl h
   .exact .inr (.inl (mg y h))
   .exact .inr (.inr h)
  .intro e ch U;rcases sO _ U with U |⟨_,rfl,rfl⟩
   .simp only[mu (a6 U)];exact k1 e ch U
   .simp only[if_true];exact⟨by rw[de c b'];exact aD.1,fun _ h=>h⟩
  .intro e ch U y aC;rcases sO _ U with U |⟨_,rfl,rfl⟩
   .simp only[mu (a6 U)] at aC;obtain⟨cy,cu,gl⟩:=aq e ch U y aC;exact⟨cy,cu,gl.imp (mg y) id⟩
   .simp only[if_true] at aC
  .intro e ca ch ch' y U hk hn aC d2;rcases sO _ U with co |⟨_,rfl,rfl⟩
   .rcases sO _ hk with cZ |⟨_,rfl,rfl⟩
    .simp only[mu (a6 co)] at aC;simp only[mu (a6 cZ)] at d2;exact hB e ca ch ch' y co cZ hn aC d2
    .simp only[if_true] at d2
   .simp only[if_true] at aC
def amp {P:aD9} {T:Nat} {name:String} {f:Nat} (h:((P.info? T).bind fun i=>(i.methods.find? (·.name == name)).map fun m=>(m.path.isEmpty,m.func))=some (true,some (f,true))): ∃c' m,P.info? T=some c'/\c'.methods.find? (·.name == name)=some m/\m.path= #[]/\m.func=some (f,true):=by
 cases E:P.info? T with
 |none=>rw[E] at h;cases h
 |some c'=>
  rw[E] at h
  cases G:c'.methods.find? (·.name == name) with
  |none=>simp only[Option.bind_some,G,Option.map_none] at h;cases h
  |some m=>
   simp only[Option.bind_some,G,av4,ap5,au9] at h;exact⟨c',m,rfl,G,Array.isEmpty_iff.1 h.1,h.2⟩
def jU {P:aD9} {ids:aD3} {K:aW} {B:av} {o:Oper} {f:aE8} {c:Call} {x:aE0} {b:Nat} {aJ:av} {res:aN} {aP:av} {T e:Nat} {name:String} (ai:o.op= .call c) (E:c.callee= .invoke x name) (G:c.args.toList=[]) (hx:a1 K x=BY T b)
  (aD:((P.info? T).bind fun i=>(i.methods.find? (·.name == name)).map fun m=>(m.path.isEmpty,m.func))=some (true,some (f,true))) (a8:P.underlying T=some (.pointer e)) (hf:Fn P f [.c (.one (.d (.aM (some b))))] aJ [] res aP) (hN:kI B aJ) (bv:l7 aJ [] aP=true) (N:Nat):
  bC P N ids o K B res ⟨ci aJ,[],ij aJ aP⟩:=by
 obtain⟨c',m,co,cZ,ei,eI⟩:=amp aD;exact abT (fuel:=P.types.size+99) ai E G hx aA1 co cZ ei eI a8 hf hN bv N
end
section
def amq (w:bQ) (s:d3) (V:w.bL= .no):Fn prog 37 [ap 1401,kG s] (cS w) [] (ab 1) (cS w):=by
 have b4:ra w.b w.bL= .nilIface:=by rw[V];rfl
 refine aU [] func37 ?_;refine⟨rfl,bo (fun N=>Qa rfl underlying79 (by exact ap1 (fun v=>aN.c (.one (.bH v))) b4) N) ?_⟩;exact bd
def amr (w:bQ) (s:d3) (V:oM w.bL=false):Fn prog 37 [ap 1401,kG s] (cS w) [] (ab 0) (cS {w with bL:=.no}):=by
 obtain⟨z,R,L,aX,db,ds,es,M,lb,Q,b,bL,bO⟩:=w
 cases bL with
 |no=>cases V
 |dv top base l over=>
  refine aU [5] func37 ?_;refine⟨rfl,bo (oY rfl underlying79 rfl) ?_⟩;refine bo (fun N=>jU rfl rfl rfl rfl aA0 underlying80 (alw (z:=z) (R:=R) (L:=L) (top:=top) (base:=base) (l:=l) (over:=over) (b:=b)) aA9 rfl N) ?_;exact az (wi (z:=z) (R:=R) (L:=L) (aX:=aX) (db:=db) (lb:=lb) (m:=bO) (es:=es) (M:=M)) <| bx [] (ac.se 1501 1001 rfl) bd
 |pl top base over=>
  refine aU [5] func37 ?_;refine⟨rfl,bo (oY rfl underlying79 rfl) ?_⟩;refine bo (fun N=>jU rfl rfl rfl rfl aA0 underlying143 (alz (z:=z) (R:=R) (L:=L) (top:=top) (base:=base) (over:=over) (b:=b)) aA9 rfl N) ?_;exact az (wi (z:=z) (R:=R) (L:=L) (aX:=aX) (db:=db) (lb:=lb) (m:=bO) (es:=es) (M:=M)) <| bx [] (ac.se 1501 1001 rfl) bd
 |pu nm n rm l g over done=>
  refine aU [5] func37 ?_;refine⟨rfl,bo (oY rfl underlying79 rfl) ?_⟩;refine bo (fun N=>jU rfl rfl rfl rfl aA0 underlying81 (alB (z:=z) (R:=R) (L:=L) (nm:=nm) (n:=n) (rm:=rm) (l:=l) (g:=g) (over:=over) (done:=done) (b:=b)) aA9 rfl N) ?_;exact az (wi (z:=z) (R:=R) (L:=L) (aX:=aX) (db:=db) (lb:=lb) (m:=bO) (es:=es) (M:=M)) <| bx [] (ac.se 1501 1001 rfl) bd
def ams (w:bQ) {top base:aD2} {l:aD3} {over:Bool} (V:w.bL= .dv top base l over) (aZ:la w.z w.R w.L top l) (s:d3):Fn prog 36 [ap 1401,kG s] (cS w) [] (ab (eY w.z w.L top base l over).e) (cS {w with L:=(eY w.z w.L top base l over).L,bL:=if(eY w.z w.L top base l over).over=true then .no else .dv top base (eY w.z w.L top base l over).l (eY w.z w.L top base l over).over}):=by
 obtain⟨z,R,L,aX,db,ds,es,M,lb,Q,b,bL,bO⟩:=w;simp only at V;subst V;have ax:=alv (b:=b) (base:=base) (over:=over) aZ;simp only at ax⊢;generalize eY z L top base l over=r at ax⊢;have go: ∀gG,Fn prog 88 [ap 1401] (lA z R r.L es M aX db lb 1 gG (some b) none bO) [] gU (lA z R r.L es M aX db lb 0 .nilIface none none bO):=fun gG=>wi
 cases r with
 |mk s0 e L' hi AH=>
 simp only at ax⊢
 cases AH with
 |true=>
  by_cases U:e=0
  .refine aU [8] func36 ?_;refine⟨rfl,bo (oY rfl underlying79 rfl) ?_⟩;refine bo (fun N=>jU rfl rfl rfl rfl aA0 underlying80 ax aA9 rfl N) ?_;refine⟨fun _=>⟨fun _ h=>aA7,fun _=>bo (fun N=>jU rfl rfl rfl rfl aA0 underlying80 (G4 (z:=z) (R:=R) (L:=L') (top:=top) (base:=base) (l:=hi) (over:=true) (b:=b)) aA9 rfl N) ?_⟩,fun h=>ap0 h aC8⟩;exact⟨fun _=>az (go _) <| bx [] (ac.se 1501 1001 rfl) bd,fun h=>aA7⟩
  .refine aU [8] func36 ?_;refine⟨rfl,bo (oY rfl underlying79 rfl) ?_⟩;refine bo (fun N=>jU rfl rfl rfl rfl aA0 underlying80 ax aA9 rfl N) ?_;refine⟨fun h=>ap0 (gd h) U,fun _=>bo (fun N=>jU rfl rfl rfl rfl aA0 underlying80 (G4 (z:=z) (R:=R) (L:=L') (top:=top) (base:=base) (l:=hi) (over:=true) (b:=b)) aA9 rfl N) ?_⟩;exact⟨fun _=>az (go _) <| bx [] (ac.se 1501 1001 rfl) bd,fun h=>aA7⟩
 |false=>
  by_cases U:e=0
  .refine aU [] func36 ?_;refine⟨rfl,bo (oY rfl underlying79 rfl) ?_⟩;refine bo (fun N=>jU rfl rfl rfl rfl aA0 underlying80 ax aA9 rfl N) ?_;refine⟨fun _=>⟨fun _ h=>aA7,fun _=>bo (fun N=>jU rfl rfl rfl rfl aA0 underlying80 (G4 (z:=z) (R:=R) (L:=L') (top:=top) (base:=base) (l:=hi) (over:=false) (b:=b)) aA9 rfl N) ?_⟩,fun h=>ap0 h aC8⟩;exact⟨fun h=>aA7,fun _=>bd⟩
  .refine aU [] func36 ?_;refine⟨rfl,bo (oY rfl underlying79 rfl) ?_⟩;refine bo (fun N=>jU rfl rfl rfl rfl aA0 underlying80 ax aA9 rfl N) ?_;refine⟨fun h=>ap0 (gd h) U,fun _=>bo (fun N=>jU rfl rfl rfl rfl aA0 underlying80 (G4 (z:=z) (R:=R) (L:=L') (top:=top) (base:=base) (l:=hi) (over:=false) (b:=b)) aA9 rfl N) ?_⟩;exact⟨fun h=>aA7,fun _=>bd⟩
def amt (w:bQ) {top base:aD2} {over:Bool} (V:w.bL= .pl top base over) (aZ:cc w.z w.R w.L) {d:aL} (H:dk w.L top=some d) (s:d3):Fn prog 36 [ap 1401,kG s] (cS w) [] (ab (hH w.z w.L top base over).e) (cS {w with L:=(hH w.z w.L top base over).L,bL:=if(hH w.z w.L top base over).over=true then .no else .pl top base (hH w.z w.L top base over).over}):=by
 obtain⟨z,R,L,aX,db,ds,es,M,lb,Q,b,bL,bO⟩:=w;simp only at V;subst V;have ax:=aly (b:=b) (base:=base) (over:=over) aZ H;simp only at ax⊢;generalize hH z L top base over=r at ax⊢;have go: ∀gG,Fn prog 88 [ap 1401] (lA z R r.L es M aX db lb 2 gG none none bO) [] gU (lA z R r.L es M aX db lb 0 .nilIface none none bO):=fun gG=>wi
 cases r with
 |mk s0 e L' AH=>
 simp only at ax⊢
 cases AH with
 |true=>
  by_cases U:e=0
  .refine aU [8] func36 ?_;refine⟨rfl,bo (oY rfl underlying79 rfl) ?_⟩;refine bo (fun N=>jU rfl rfl rfl rfl aA0 underlying143 ax aA9 rfl N) ?_;refine⟨fun _=>⟨fun _ h=>aA7,fun _=>bo (fun N=>jU rfl rfl rfl rfl aA0 underlying143 (G5 (z:=z) (R:=R) (L:=L') (top:=top) (base:=base) (over:=true) (b:=b)) aA9 rfl N) ?_⟩,fun h=>ap0 h aC8⟩;exact⟨fun _=>az (go _) <| bx [] (ac.se 1501 1001 rfl) bd,fun h=>aA7⟩
  .refine aU [8] func36 ?_;refine⟨rfl,bo (oY rfl underlying79 rfl) ?_⟩;refine bo (fun N=>jU rfl rfl rfl rfl aA0 underlying143 ax aA9 rfl N) ?_;refine⟨fun h=>ap0 (gd h) U,fun _=>bo (fun N=>jU rfl rfl rfl rfl aA0 underlying143 (G5 (z:=z) (R:=R) (L:=L') (top:=top) (base:=base) (over:=true) (b:=b)) aA9 rfl N) ?_⟩;exact⟨fun _=>az (go _) <| bx [] (ac.se 1501 1001 rfl) bd,fun h=>aA7⟩
 |false=>
  by_cases U:e=0
  .refine aU [] func36 ?_;refine⟨rfl,bo (oY rfl underlying79 rfl) ?_⟩;refine bo (fun N=>jU rfl rfl rfl rfl aA0 underlying143 ax aA9 rfl N) ?_;refine⟨fun _=>⟨fun _ h=>aA7,fun _=>bo (fun N=>jU rfl rfl rfl rfl aA0 underlying143 (G5 (z:=z) (R:=R) (L:=L') (top:=top) (base:=base) (over:=false) (b:=b)) aA9 rfl N) ?_⟩,fun h=>ap0 h aC8⟩;exact⟨fun h=>aA7,fun _=>bd⟩
  .refine aU [] func36 ?_;refine⟨rfl,bo (oY rfl underlying79 rfl) ?_⟩;refine bo (fun N=>jU rfl rfl rfl rfl aA0 underlying143 ax aA9 rfl N) ?_;refine⟨fun h=>ap0 (gd h) U,fun _=>bo (fun N=>jU rfl rfl rfl rfl aA0 underlying143 (G5 (z:=z) (R:=R) (L:=L') (top:=top) (base:=base) (over:=false) (b:=b)) aA9 rfl N) ?_⟩;exact⟨fun h=>aA7,fun _=>bd⟩
def Hb (w:bQ) (nm:aD2) (n rm:Int) (l:aD3) (g:aD6) (e:Int) (w':bQ):Prop:=
 (l=[]/\ ∃t:Ha,uU {w with bL:=.pu nm n rm [] g true true} g e (AG {w with bL:=.pu nm n rm [] g true true} g t)/\w'={AG w g t with bL:=.no})\/
 (l≠[]/\e=(ea w.z w.L nm rm l g (eA l)).e/\w'={w with bL:=if(ea w.z w.L nm rm l g (eA l)).over=true then .no else .pu nm n rm (ea w.z w.L nm rm l g (eA l)).l (ea w.z w.L nm rm l g (eA l)).g false false})
def amu (w:bQ) (aq:ld w) {nm:aD2} {n rm:Int} {l:aD3} {g:aD6} (V:w.bL= .pu nm n rm l g false false) (ao:fU w.z w.R w.L nm l g) (pK:gN (eo w.bO.fS)=true) (s:d3):
  cz prog 36 [ap 1401,kG s] (cS w) [] (X:=ng (Hb w nm n rm l g)) (fun p=>ab p.1.1) (fun p=>cS p.1.2):=by
 have ax:=alA (b:=w.b) (n:=n) (rm:=rm) (over:=false) (done:=false) ao
 by_cases ak:l=[]
 .have U:jP w.z w.L nm rm l g false false=⟨true,0,[],g,true,true⟩:=by unfold jP;rw[mu az8,vj ak]
  rw[U] at ax;simp only at ax;have amv:=amk {w with bL:=.pu nm n rm [] g true true} ⟨aq.cs,aq.kd,aq.ds,aq.d',aq.q,aq.ps,aq.eg⟩ rfl ao.nil pK;obtain⟨z,R,L,aX,db,ds,es,M,lb,Q,b,bL,bO⟩:=w;simp only at V;subst V;refine hR [5,6,8] func36 ?_;refine⟨rfl,bo (oY rfl underlying79 rfl) ?_⟩;refine bo (fun N=>jU rfl rfl rfl rfl aA0 underlying81 ax aA9 rfl N) ?_;refine gV ⟨fun _ _=>az (Vi (z:=z) (R:=R) (L:=L) (nm:=nm) (n:=n) (rm:=rm) (l:=[]) (g:=g) (over:=true) (done:=true) (b:=b)) ⟨fun _=>bB.hP eC aA0 ⟨_,_,_,fun g=>_,fun g=>_,amv,aE,rfl,fun _=>rfl,fun x=>?_⟩,fun h=>aA7⟩,fun h=>aA7⟩;obtain⟨⟨af,t⟩,hx⟩:=x;refine bx [8] (bu) <| bo (fun N=>jU rfl rfl rfl rfl aA0 underlying81 (M4 (z:=z) (R:=R) (L:=L) (nm:=nm) (n:=n) (rm:=rm) (l:=[]) (g:=g) (over:=true) (done:=true) (b:=b)) aA9 rfl N) ?_;exact⟨fun _=>az (wi (z:=z) (R:=R) (L:=L) (aX:=aX) (db:=db) (lb:=t.2.2.2.1) (m:=pt bO g) (es:=t.2.1) (M:=t.2.2.1)) <| bx [] (ac.se 1501 1001 rfl) ⟨⟨(af,⟨z,R,L,aX,db,t.1,t.2.1,t.2.2.1,t.2.2.2.1,t.2.2.2.2,b,.no,pt bO g⟩),.inl ⟨ak,t,hx,Eq.refl _⟩⟩,_,_,_,bu,rfl,rfl,aE,rfl⟩,fun h=>aA7⟩
 .have U:jP w.z w.L nm rm l g false false=⟨false,(ea w.z w.L nm rm l g (eA l)).e,(ea w.z w.L nm rm l g (eA l)).l,(ea w.z w.L nm rm l g (eA l)).g,(ea w.z w.L nm rm l g (eA l)).over,false⟩:=by unfold jP;rw[mu az8,mu ak]
  rw[U] at ax
  have Dp:(ea w.z w.L nm rm l g (eA l)).over=decide ((ea w.z w.L nm rm l g (eA l)).e≠0):=by
   unfold ea
   split <;>rfl
  have eu: ∀W:bQ,W={w with bL:=if(ea w.z w.L nm rm l g (eA l)).over=true then .no else .pu nm n rm (ea w.z w.L nm rm l g (eA l)).l (ea w.z w.L nm rm l g (eA l)).g false false}->Hb w nm n rm l g (ea w.z w.L nm rm l g (eA l)).e W:=fun W h=>.inr ⟨ak,Eq.refl _,h⟩
  obtain⟨z,R,L,aX,db,ds,es,M,lb,Q,b,bL,bO⟩:=w;simp only at V ax Dp eu;subst V;generalize ea z L nm rm l g (eA l)=r at ax Dp eu;obtain⟨e,hi,g2,AH⟩:=r;simp only at ax Dp eu
  by_cases Hc:e=0
  .obtain rfl:AH=false:=by rw[Dp];simp[Hc]
   refine hR [] func36 ?_;refine⟨rfl,bo (oY rfl underlying79 rfl) ?_⟩;refine bo (fun N=>jU rfl rfl rfl rfl aA0 underlying81 ax aA9 rfl N) ?_;refine⟨fun _=>⟨fun _ _=>az (Vi (z:=z) (R:=R) (L:=L) (nm:=nm) (n:=n) (rm:=rm) (l:=hi) (g:=g2) (over:=false) (done:=false) (b:=b)) ⟨fun h=>aA7,fun _=>bo (fun N=>jU rfl rfl rfl rfl aA0 underlying81 (M4 (z:=z) (R:=R) (L:=L) (nm:=nm) (n:=n) (rm:=rm) (l:=hi) (g:=g2) (over:=false) (done:=false) (b:=b)) aA9 rfl N) ?_⟩,fun h=>aA7⟩,fun h=>ap0 Hc (oj h)⟩;exact⟨fun h=>aA7,fun _=>⟨⟨(e,⟨z,R,L,aX,db,ds,es,M,lb,Q,b,.pu nm n rm hi g2 false false,bO⟩),eu _ (Eq.refl _)⟩,_,_,_,bu,rfl,rfl,aE,rfl⟩⟩
  .obtain rfl:AH=true:=by rw[Dp];simp[Hc]
   refine hR [8] func36 ?_;refine⟨rfl,bo (oY rfl underlying79 rfl) ?_⟩;refine bo (fun N=>jU rfl rfl rfl rfl aA0 underlying81 ax aA9 rfl N) ?_;refine⟨fun h=>ap0 (gd h) Hc,fun _=>bo (fun N=>jU rfl rfl rfl rfl aA0 underlying81 (M4 (z:=z) (R:=R) (L:=L) (nm:=nm) (n:=n) (rm:=rm) (l:=hi) (g:=g2) (over:=true) (done:=false) (b:=b)) aA9 rfl N) ?_⟩;exact⟨fun _=>az (wi (z:=z) (R:=R) (L:=L) (aX:=aX) (db:=db) (lb:=lb) (m:=bO) (es:=es) (M:=M)) <| bx [] (ac.se 1501 1001 rfl) ⟨⟨(e,⟨z,R,L,aX,db,ds,es,M,lb,Q,b,.no,bO⟩),eu _ (Eq.refl _)⟩,_,_,_,bu,rfl,rfl,aE,rfl⟩,fun h=>aA7⟩
end
section
def amw (w:bQ) (s:d3) (V:w.bL= .no):Fn prog 36 [ap 1401,kG s] (cS w) [] (ab 1) (cS w):=by
 have b4:ra w.b w.bL= .nilIface:=by rw[V];rfl
 refine aU [] func36 ?_;refine⟨rfl,bo (fun N=>Qa rfl underlying79 (by exact ap1 (fun v=>aN.c (.one (.bH v))) b4) N) ?_⟩;exact bd
abbrev Ni (ds:aE3):=Nat×Nat×{l:List bq//e' l/\l.map Ap=(Mt ds).map GE}
abbrev VD (w:bQ) (t:Ni w.ds):bQ:={w with db:=t.1,lb:=t.2.1,ds:=t.2.2.1,bL:=.no}
end
section
abbrev pw:aD3:=[28,29,30,31,32,33,34,35,36,37,38,39]
def wm (w:bQ) (s:d3) {bn:Int->bQ->Prop} {k f:Nat} (Z:s.kd=(k:Int)) (hf:pw[k]? =some f) (J:cz prog f [ap 1401,kG s] (cS w) [] (X:=ng bn) (fun p=>ab p.1.1) (fun p=>cS p.1.2)):
  cz prog 8 [ap 1401,kG s] (cS w) [] (X:=ng bn) (fun p=>ab p.1.1) (fun p=>cS p.1.2):=by
 refine hR [1,5] func8 ?_;refine⟨rfl,bB.fJ (du.mark 1401 1409 rfl az8) fun b=>bx [5] (bu) ⟨rfl,bo (pd (m:=1409) (b:=b) rfl rfl rfl) ?_⟩⟩;refine bo (rk (fs:=pw.take 0) rfl underlying75 underlying3 rfl rfl rfl rfl (.inl ⟨rfl,rfl⟩)) ?_;refine bo (pd (m:=1409) (b:=b) rfl rfl rfl) ?_;refine bo (rk (fs:=pw.take 1) rfl underlying75 underlying3 rfl rfl rfl rfl (.inr rfl)) ?_;refine bo (pd (m:=1409) (b:=b) rfl rfl rfl) ?_;refine bo (rk (fs:=pw.take 2) rfl underlying75 underlying3 rfl rfl rfl rfl (.inr rfl)) ?_;refine bo (pd (m:=1409) (b:=b) rfl rfl rfl) ?_;refine bo (rk (fs:=pw.take 3) rfl underlying75 underlying3 rfl rfl rfl rfl (.inr rfl)) ?_;refine bo (pd (m:=1409) (b:=b) rfl rfl rfl) ?_;refine bo (rk (fs:=pw.take 4) rfl underlying75 underlying3 rfl rfl rfl rfl (.inr rfl)) ?_;refine bo (pd (m:=1409) (b:=b) rfl rfl rfl) ?_;refine bo (rk (fs:=pw.take 5) rfl underlying75 underlying3 rfl rfl rfl rfl (.inr rfl)) ?_;refine bo (pd (m:=1409) (b:=b) rfl rfl rfl) ?_;refine bo (rk (fs:=pw.take 6) rfl underlying75 underlying3 rfl rfl rfl rfl (.inr rfl)) ?_;refine bo (pd (m:=1409) (b:=b) rfl rfl rfl) ?_;refine bo (rk (fs:=pw.take 7) rfl underlying75 underlying3 rfl rfl rfl rfl (.inr rfl)) ?_;refine bo (pd (m:=1409) (b:=b) rfl rfl rfl) ?_;refine bo (rk (fs:=pw.take 8) rfl underlying75 underlying3 rfl rfl rfl rfl (.inr rfl)) ?_;refine bo (pd (m:=1409) (b:=b) rfl rfl rfl) ?_;refine bo (rk (fs:=pw.take 9) rfl underlying75 underlying3 rfl rfl rfl rfl (.inr rfl)) ?_;refine bo (pd (m:=1409) (b:=b) rfl rfl rfl) ?_;refine bo (rk (fs:=pw.take 10) rfl underlying75 underlying3 rfl rfl rfl rfl (.inr rfl)) ?_;refine bo (pd (m:=1409) (b:=b) rfl rfl rfl) ?_;refine bo (rk (fs:=pw.take 11) rfl underlying75 underlying3 rfl rfl rfl rfl (.inr rfl)) ?_;refine bo (amn eC (fs:=pw) rfl underlying75 underlying3 rfl rfl rfl rfl hf Z) ?_;exact bB.hP eC aA0 ⟨_,_,_,fun g=>_,fun g=>_,cz.mk (m:=1409) (b:=b) J rfl (fun _=>rfl),aE,rfl,fun _=>rfl,fun x=>⟨x,_,_,_,bu,rfl,rfl,aE,rfl⟩⟩
end
section
def cz.G1 {P:aD9} {f:aE8} {args:List aN} {aJ:av} {bb:aD3} {X:Type} {res:X->aN} {aP nE:X->av} (h:cz P f args aJ bb res aP) (G: ∀g c,ae (nE g) c=ae (aP g) c):cz P f args aJ bb res nE:=by unfold cz at h⊢;simpa only[G] using h
structure rl (s:d3):Prop where
 b:s.b.length<=1000000
 nm:s.nm.length<=1000000
 l:s.l<=9223372036854775807
 ks:s.ks.length<=1073741824
 ao1: ∀k∈s.ks,(aks k).length<=1073741824
inductive fB (w:bQ) (s:d3):Int->bQ->Prop where
 |TE (h:s.kd < 0\/12<=s.kd):fB w s 1 w
 |write (h:s.kd=0):fB w s (fu w.z w.L w.aX s.a s.b).e (h3 w s.a ((s.b.length:Int)/16) (fu w.z w.L w.aX s.a s.b))
 |zero (h:s.kd=1):fB w s (j4 w.z w.L w.aX s.a s.l).e (h3 w s.a s.l (j4 w.z w.L w.aX s.a s.l))
 |amx (h:s.kd=2) (aD:M7 w.bL=true):fB w s 143 w
 |Hd (h:s.kd=2) (aD:M7 w.bL=false):fB w s (j5 w.L w.aX s.a s.l).e (h3 w s.a s.l (j5 w.L w.aX s.a s.l))
 |busy (h:s.kd=3\/(5<=s.kd/\s.kd<=7)) (V:oM w.bL=false):fB w s 143 w
 |over (h:s.kd=3) (V:w.bL= .no) {e:Int} {w':bQ} (aw:Vr w s e w'):fB w s e w'
 |eB (h:s.kd=4) (l':aE3) (aw:(mv ((dV w*2 ^w.z:Nat):Int) s.a=true/\AC w.ds s.nm true true ((dV w*2 ^w.z:Nat):Int) s.a [] l')\/(mv ((dV w*2 ^w.z:Nat):Int) s.a=false/\l'=w.ds)):fB w s (AD w s) {w with ds:=l'}
 |merge (h:s.kd=5) (V:w.bL= .no) {e:Int} {w':bQ} (aw:Vs w e w'):fB w s e w'
 |pull (h:s.kd=6) (V:w.bL= .no) {e:Int} {w':bQ} (aw:Vt w s e w'):fB w s e w'
 |push (h:s.kd=7) (V:w.bL= .no) {e:Int} {w':bQ} (aw:Nd w s e w'):fB w s e w'
 |zY (h:s.kd=8) (V:w.bL= .no):fB w s 1 w
 |AI (h:s.kd=8) {top base:aD2} {l:aD3} (V:w.bL= .dv top base l false):fB w s (eY w.z w.L top base l false).e {w with L:=(eY w.z w.L top base l false).L,bL:=if(eY w.z w.L top base l false).over=true then .no else .dv top base (eY w.z w.L top base l false).l (eY w.z w.L top base l false).over}
 |AJ (h:s.kd=8) {top base:aD2} (V:w.bL= .pl top base false):fB w s (hH w.z w.L top base false).e {w with L:=(hH w.z w.L top base false).L,bL:=if(hH w.z w.L top base false).over=true then .no else .pl top base (hH w.z w.L top base false).over}
 |AK (h:s.kd=8) {nm:aD2} {n rm:Int} {l:aD3} {g:aD6} (V:w.bL= .pu nm n rm l g false false) {e:Int} {w':bQ} (aw:Hb w nm n rm l g e w'):fB w s e w'
 |VE (h:s.kd=9) (V:w.bL= .no):fB w s 1 w
 |Nj (h:s.kd=9) (V:oM w.bL=false):fB w s 0 {w with bL:=.no}
 |He (h:s.kd=10) (t:Ni w.ds):fB w s 0 (VD w t)
 |drop (h:s.kd=11) {e:Int} {w':bQ} (aw:al2 w s e w'):fB w s e w'
def cz.n2 {P:aD9} {f:aE8} {args:List aN} {aJ:av} {bb:aD3} {bn Dq:Int->bQ->Prop} (h:cz P f args aJ bb (X:=ng bn) (fun p=>ab p.1.1) (fun p=>cS p.1.2)) (eu: ∀e w',bn e w'->Dq e w'):cz P f args aJ bb (X:=ng Dq) (fun p=>ab p.1.1) (fun p=>cS p.1.2):=
 h.to (fun p=>⟨p.1,eu _ _ p.2⟩) (fun _=>rfl) (fun _=>rfl)
def Fn.n2 {P:aD9} {f:aE8} {args:List aN} {aJ:av} {bb:aD3} {Dq:Int->bQ->Prop} {e:Int} {w':bQ} (h:Fn P f args aJ bb (ab e) (cS w')) (eu:Dq e w'):cz P f args aJ bb (X:=ng Dq) (fun p=>ab p.1.1) (fun p=>cS p.1.2):=
 h.x.to (fun _=>⟨(e,w'),eu⟩) (fun _=>rfl) (fun _=>rfl)
def tm {j:kY} (h:oM j=true):j= .no:=by
 cases j with
 |no=>rfl
 |_=>cases h
end
section
def VF (w:bQ) (aq:eQ w) (s:d3) (ax:rl s) (Z:s.kd=0\/s.kd=3\/s.kd=4\/s.kd=5\/s.kd=6\/s.kd=7\/s.kd=8\/s.kd=9):cz prog 8 [ap 1401,kG s] (cS w) [] (X:=ng (fB w s)) (fun p=>ab p.1.1) (fun p=>cS p.1.2):=by
 rcases Z with h |h |h |h |h |h |h |h
 .exact wm w s (k:=0) h rfl ((alN w aq s ax.b).n2 (.write h))
 .refine wm w s (k:=3) h rfl ?_
  cases V:oM w.bL with
  |false=>exact(alO w s V).n2 (.busy (.inl h) V)
  |true=>exact(alP w aq s (tm V) ax.nm).n2 fun e w' aw=>.over h (tm V) aw
 .refine wm w s (k:=4) h rfl ?_
  exact((alW w aq s ax.nm).alo.G1 (nE:=fun g=>cS {w with ds:=g.1}) fun g c=>by
   simp only[cn]
   by_cases E:1001=c
   .subst E;rfl
   .rw[mu E,mu E]).to (fun g=>⟨(_,_),.eB h g.1 g.2⟩) (fun _=>rfl) (fun _=>rfl)
 .refine wm w s (k:=5) h rfl ?_
  cases V:oM w.bL with
  |false=>exact(alQ w s V).n2 (.busy (.inr az7) V)
  |true=>exact(alT w aq s (tm V)).n2 fun e w' aw=>.merge h (tm V) aw
 .refine wm w s (k:=6) h rfl ?_
  cases V:oM w.bL with
  |false=>exact(alR w s V).n2 (.busy (.inr az7) V)
  |true=>exact(alU w aq s (tm V)).n2 fun e w' aw=>.pull h (tm V) aw
 .refine wm w s (k:=7) h rfl ?_
  cases V:oM w.bL with
  |false=>exact(alS w s V).n2 (.busy (.inr az7) V)
  |true=>exact(al' w aq s (tm V) ax.nm).n2 fun e w' aw=>.push h (tm V) aw
 .refine wm w s (k:=8) h rfl ?_;have hF:=aq.bL
  cases V:w.bL with
  |no=>exact(amw w s V).n2 (.zY h V)
  |dv top base l over=>
   rw[V] at hF;obtain⟨rfl,rfl,aZ⟩:=hF;exact(ams w V aZ s).n2 (.AI h V)
  |pl top base over=>
   rw[V] at hF;obtain⟨rfl,rfl⟩:=hF;obtain⟨d,H⟩:=as5.1 aq.kd;exact(amt w V aq.cs H s).n2 (.AJ h V)
  |pu nm n rm l g over done=>
   rw[V] at hF;obtain⟨rfl,rfl,rfl,_,ao⟩:=hF;exact(amu w aq.told V ao (aq.qZ (by rw[V];rfl)) s).n2 fun e w' aw=>.AK h V aw
 .refine wm w s (k:=9) h rfl ?_
  cases V:oM w.bL with
  |false=>exact(amr w s V).n2 (.Nj h V)
  |true=>exact(amq w s (tm V)).n2 (.VE h (tm V))
end
section
def VG (es:aD4) (f k:Int): ∀n:Nat,pm (rY es f n) k=if f<=k/\k < f+(n:Int) then true else pm es k
 |0=>by
  rw[mu az7];rfl
 |n+1=>by
  have bl:=VG es f k n;have h:=y7 (aI:=aj) (aK:=aj) oW (f+(n:Int)) (1:Int) (rY es f n);show CH ((bV (aI:=aj) (aK:=aj) (dw (aI:=aj) (aK:=aj) (rY es f n) (f+(n:Int)) (1:Int)) k).getD (cM aj))=_
  by_cases e:k=f+(n:Int)
  .rw[e,h.1,vj az7];rfl
  .rw[h.2 k e];refine bl.trans ?_
   by_cases G:f<=k/\k < f+n
   .rw[vj G,vj az7]
   .rw[mu G,mu az7]
def VH {es:aD4} (U:e5 es) (f k:Int): ∀n:Nat,pm (uC es f n) k=if f<=k/\k < f+(n:Int) then false else pm es k
 |0=>by
  rw[mu az7];rfl
 |n+1=>by
  have bl:=VH U f k n;have h:=BT (aI:=aj) (aK:=aj) oW (f+(n:Int)) (uC es f n) (Gg U f n);show CH ((bV (aI:=aj) (aK:=aj) (gB (aI:=aj) (aK:=aj) (uC es f n) (f+(n:Int))) k).getD (cM aj))=_
  by_cases e:k=f+(n:Int)
  .rw[e,h.1,vj az7];rfl
  .rw[h.2 k e];refine bl.trans ?_
   by_cases G:f<=k/\k < f+n
   .rw[vj G,vj az7]
   .rw[mu G,mu az7]
def lw.set {s g:Int} {es:aD4} (h:lw s g es) (ax:0<=s/\s<=4096) (aV:1<=g/\g<=64) (fr bJ:Int):lw s g (m6 s g es fr bJ):=fun aF aO=>by
 by_cases ay:xN s fr bJ
 .have e:m6 s g es fr bJ=rY es (fr/g) ((if bJ=0 then 0 else(fr+bJ+g - 1)/g) - fr/g).toNat:=vj ay;obtain⟨mH,v2,v3,v4⟩:=ay;have d0:0<=fr/g:=az1 v2 az7
  have hh:(if bJ=0 then 0 else(fr+bJ+g - 1)/g)<=oH s g:=by
   split
   .exact(CT ax aV).1
   .exact Int.ediv_le_ediv az7 az7
  have au:=(CT ax aV).1;rw[e,VG] at aO;generalize(if bJ=0 then 0 else(fr+bJ+g - 1)/g)=q at aO hh
  split at aO
  .omega
  .exact h aF aO
 .have e:m6 s g es fr bJ=es:=mu ay;rw[e] at aO;exact h aF aO
def lw.VI {s g:Int} {es:aD4} (h:lw s g es) (U:e5 es):lw s g (CU s g es):=fun aF aO=>by
 unfold CU at aO;rw[VH U] at aO
 split at aO
 .cases aO
 .exact h aF aO
def lw.m8 {s g:Int} {es:aD4} (h:lw s g es) (ax:0<=s/\s<=4096) (aV:1<=g/\g<=64) (l:aF1):lw s g (l.foldl (vS s g) es):=by
 induction l generalizing es with
 |nil=>exact h
 |cons x l bl=>
  refine bl ?_;unfold vS
  split
  .exact h.set ax aV _ _
  .exact h
def lw.dv {s g:Int} {es:aD4} (h:lw s g es) (ax:0<=s/\s<=4096) (aV:1<=g/\g<=64) (row:aF1):lw s g (Ac s g es row):=lw.m8 h ax aV _
def lw.nil (s g:Int):lw s g []:=fun aF aO=>by cases aO
def v7.of {e ca:bq} (h:v7 e) (E:ca.s=e.s) (G:ca.g=e.g) (ag:ca.nm=e.nm) (aS:lw e.s e.g ca.es):v7 ca:=⟨by rw[E,G];exact h.ok,by rw[E,G];exact aS,by rw[ag];exact h.nm⟩
def v7.wr {e:bq} (h:v7 e) (ax:0<=e.s/\e.s<=4096) (aV:1<=e.g/\e.g<=64) (a aT:Int):v7 (kX a aT e):=h.of rfl rfl rfl (by
 show lw e.s e.g (if e.on=true then m6 e.s e.g e.es a aT else e.es)
 split
 .exact h.f2.set ax aV a aT
 .exact h.f2)
def Nk {z:Nat} {L:aD5} {nm:aD2} {rm a aT:Int}: ∀(ks l:aD3) (g:aD6),(lS z L nm rm a aT ks l g).e=0->(lS z L nm rm a aT ks l g).over=false
 | [],l,g=>fun _=>rfl
 |k::ks,l,g=>by
  unfold lS
  split
  .exact Nk ks l g
  .split
   .exact Nk ks _ _
   .rename_i h;exact fun G=>ap0 G h
def amy {z:Nat} {L:aD5} {nm:aD2} {rm a aT:Int} {l:aD3} {g:aD6} (h:(jQ z L nm rm a aT l g false).e=0):(jQ z L nm rm a aT l g false).over=false:=by
 unfold jQ at h⊢;rw[mu az8] at h⊢
 split at h
 .rename_i J;rw[vj J]
 .rename_i J;rw[mu J];exact Nk _ _ _ h
def amz {z R:Nat} {L:aD5} {aX:aD2} {j:kY} (h:wj z R L aX j) (a aT:Int):wj z R L aX (rc z L a aT j):=by
 cases j with
 |pu nm n rm l g over done=>
  obtain⟨rfl,rfl,rfl,E,G⟩:=h;unfold rc;simp only
  split
  .rename_i U;exact⟨rfl,amy U,rfl,E,G.ag1 rm a aT false⟩
  .trivial
 |_=>exact h
def wj.q0 {z R:Nat} {L L':aD5} {aX t:aD2} {j:kY} (h:wj z R L aX j) (ak:iD L t L'):wj z R L' aX j:=by
 cases j with
 |no=>trivial
 |dv top base l over=>exact⟨h.1,h.2.1,h.2.2.q0 ak⟩
 |pl top base over=>exact h
 |pu nm n rm l g over done=>exact⟨h.1,h.2.1,h.2.2.1,by rw[(ak.aR aX).1];exact h.2.2.2.1,h.2.2.2.2.q0 ak⟩
def amA {z R:Nat} {L:aD5} {aX:aD2} {j:kY} (h:wj z R L aX j) (a aT:Int):wj z R L aX (Dk z L a aT j):=by
 cases j with
 |dv top base l over=>exact⟨h.1,h.2.1,h.2.2.wr over a aT⟩
 |_=>exact h
def eQ.si {w:bQ} (aq:eQ w) (a aT:Int) (r:m0) (ak:iD w.L w.aX r.L):eQ (h3 w a aT r):=by
 have aO:=ak.aR w.aX;have V:=(amz aq.bL a aT).q0 ak;have Z:=aq.kd;have ao: ∀j,Dm (Dk w.z r.L a aT j)=Dm j:=fun j=>by cases j <;>rfl
 have aY: ∀j,Dm (rc w.z w.L a aT j)=true->Dm j=true:=fun j h=>by
  cases j with
  |pu=>rfl
  |_=>exact h
 unfold h3
 split
 .refine⟨⟨ak.cs aq.cs,by rw[<-aO.2] at Z;exact Z,(U7 a aT).map aq.ds,fun e U=>?_,aq.q,aq.ps,fun p ao=>?_⟩,amA V a aT,fun h=>aq.qZ (aY _ ((ao _).symm.trans h))⟩
  .obtain⟨bI,au,rfl⟩:=ar6.1 U;obtain⟨fd,gD,_⟩:=aq.ds.ok bI au;obtain⟨c4,ec⟩:=aq.d' bI au;exact⟨c4.wr fd gD a aT,by show bI.s=((b6 r.L w.aX*2 ^w.z:Nat):Int);rw[aO.1];exact ec⟩
  .have ao:Dl a aT (rc w.z w.L a aT w.bL) w.bO.eg=some p:=ao;show p.2.1=((b6 r.L w.aX*2 ^w.z:Nat):Int)/\_;rw[aO.1];unfold Dl at ao
   split at ao
   .exact aq.eg p ao
   .obtain⟨q,aY,rfl⟩:=as4.1 ao;obtain⟨kZ,bF,tI⟩:=aq.eg q aY;exact⟨kZ,bF,LW tI _ _⟩
 .refine⟨⟨ak.cs aq.cs,by rw[<-aO.2] at Z;exact Z,aq.ds,fun e U=>?_,aq.q,aq.ps,fun p ao=>?_⟩,V,fun h=>aq.qZ (aY _ h)⟩
  .show _/\e.s=((b6 r.L w.aX*2 ^w.z:Nat):Int);rw[aO.1];exact aq.d' e U
  .show p.2.1=((b6 r.L w.aX*2 ^w.z:Nat):Int)/\_;rw[aO.1];exact aq.eg p ao
end
section
def uV {w:bQ} (h:ld w) {L':aD5} {t:aD2} (J:cc w.z w.R L') (Z:(dk L' t).isSome=true) (aO:b6 L' t=b6 w.L w.aX) (b:Nat) (j:kY):ld {w with L:=L',aX:=t,b:=b,bL:=j}:=
 ⟨J,Z,h.ds,fun e U=>⟨(h.d' e U).1,by rw[aO];exact(h.d' e U).2⟩,h.q,h.ps,fun p ao=>by
  obtain⟨kZ,bF⟩:=h.eg p ao;exact⟨by rw[aO];exact kZ,bF⟩⟩
def VJ {z R:Nat} {L:aD5} (h:cc z R L) (top base:aD2) (over:Bool):cc z R (hH z L top base over).L/\ ∀n,b6 (hH z L top base over).L n=b6 L n/\(dk (hH z L top base over).L n).isSome=(dk L n).isSome:=by
 unfold hH
 split
 .exact⟨h,fun _=>⟨rfl,rfl⟩⟩
 .cases nN L top base with
  |some k=>exact⟨(vL h _ _ _).cs h,fun n=>(vL h _ _ _).aR n⟩
  |none=>
   refine⟨K0 h top base,fun n=>?_⟩;show b6 (hV L top base).L n=_/\_;unfold hV
   split
   .exact⟨rfl,rfl⟩
   .split
    .exact⟨rfl,rfl⟩
    .split
     .unfold b6;rw[lQ]
      cases dk L n with
      |none=>exact⟨rfl,rfl⟩
      |some d=>
       show(eE top base d).im.t.length=d.im.t.length/\_;unfold eE
       split <;>exact⟨rfl,rfl⟩
     .exact⟨rfl,rfl⟩
def VK {z R:Nat} {L:aD5} (h:cc z R L) (top base:aD2) (l:aD3) (over:Bool): ∃t,iD L t (eY z L top base l over).L:=by
 unfold eY
 split
 .exact⟨top,.inl rfl⟩
 .split
  .exact⟨top,ut h _ _ _⟩
  .exact⟨base,CF h _ _ _⟩
def pr.wn {es:gF} {M:fh} {Q Q':aE6} (h:pr es M Q) {b:Nat} (O:b∉M.map (·.1)):pr (sg es Q' b) ((b,sh Q' b)::M) (if rh Q'=0 then Q' else Q):=h.alK O
def ld.wn {w w':bQ} (h:ld w) {Q:aE6} (aY:re Q) {e:Int} (J:yg w Q e w'):ld w':=by
 obtain⟨_,b,O,⟨U,lb,rfl⟩ |⟨U,rfl⟩⟩:=J
 .have:=h.ps.wn (Q':=Q) O;rw[vj U] at this;generalize sg w.es Q b=F at this⊢;generalize sh Q b=S at this⊢;exact⟨h.cs,h.kd,h.ds,h.d',aY,this,h.eg⟩
 .have:=h.ps.wn (Q':=Q) O;rw[mu U] at this;generalize sg w.es Q b=F at this⊢;generalize sh Q b=S at this⊢;exact⟨h.cs,h.kd,h.ds,h.d',h.q,this,h.eg⟩
def re.amB {Q:aE6} (h:re Q) (nm:aD2):re (Al Q nm):=⟨ajt h.tonW nm,h.M6.drop nm⟩
def re.VL {Q:aE6} (h:re Q) (b:b9):re (gQ Q b):=⟨h.tonW.add b,h.M6.add b⟩
def amC {l l':aE3} (h:l'.map Ap=(Mt l).map GE) {e:bq} (U:e∈l'): ∃bI,bI∈l/\Ap e=GE bI:=by have:Ap e∈l'.map Ap:=ar8 U;rw[h] at this;obtain⟨bI,au,E⟩:=ar6.1 this;exact⟨bI,ajT au,E.symm⟩
def ld.He {w:bQ} (h:ld w) (t:Ni w.ds):ld (VD w t):=by obtain⟨db,lb,l',H,ao⟩:=t;refine⟨h.cs,h.kd,H,fun e U=>?_,h.q,h.ps,h.eg⟩;obtain⟨bI,au,E⟩:=amC ao U;obtain⟨c4,ec⟩:=h.d' bI au;obtain⟨fd,gD,_⟩:=h.ds.ok bI au;unfold Ap GE at E;simp only[au9] at E;obtain⟨cE,_,_,cG,dG,e3⟩:=E;refine⟨c4.of cG dG cE fun aF aO=>?_,by rw[cG];exact ec⟩;rw[e3,ajS fd gD c4.f2] at aO;exact c4.f2 aF aO
def eQ.no {w:bQ} (h:ld w) (V:w.bL= .no):eQ w:=⟨h,by rw[V];trivial,fun ao=>by rw[V] at ao;cases ao⟩
def amD {l:aE3} {nm:aD2} {e:bq} (h:e∈kS l nm):e∈l:=(Ah l nm).subset h
def ld.fT {w w':bQ} (h:ld w) {g:aD6} {e:Int} (aw:uU w g e w'):ld w':=by
 have aD:ld {w with bO:=pt w.bO g}:=⟨h.cs,h.kd,h.ds,h.d',h.q,h.ps,h.eg⟩;rcases aw with⟨_,_,rfl⟩ |⟨_,dK,G,⟨_,rfl⟩ |⟨_,jT,bF,g2,ef,x,a,b,ax,Z,H,rfl⟩⟩
 .exact aD
 .exact aD.wn (h.q.VL _) G
 .have ag:=yi G;have hw:=aD.wn (h.q.VL _) G;rw[ag] at hw⊢;refine⟨hw.cs,hw.kd,H,fun e U=>?_,hw.q,hw.ps,hw.eg⟩;obtain⟨hx,_⟩:=lV Z;obtain⟨AB,Dj⟩:=h.d' x hx;obtain⟨fd,gD,mt,_⟩:=h.ds.ok x hx;unfold G' lR at U;obtain⟨bI,au,rfl⟩:=ar6.1 U
  have E:v7 bI/\bI.s=((b6 w.L w.aX*2 ^w.z:Nat):Int):=by
   rcases ar7.1 au with au |au
   .obtain⟨af,E,rfl⟩:=ar6.1 (amD au);obtain⟨tY,vg⟩:=h.d' af E;obtain⟨kl,qv,z3,_⟩:=h.ds.ok af E
    split
    .exact⟨tY.of rfl rfl rfl (tY.f2.VI z3),vg⟩
    .exact⟨tY,vg⟩
   .obtain rfl:=aq6.1 au;refine⟨AB.of rfl rfl (lV Z).2.symm ((AB.f2.VI mt).dv fd gD _),Dj⟩
  split
  .exact⟨E.1.of rfl rfl rfl E.1.f2,E.2⟩
  .exact E
def AL {z R:Nat} {L:aD5} {nm:aD2} {size:Int} {back:aD2} {p:aF8}:((h0 z R L nm size back p).e=0->dk L nm=none/\gN nm=true/\(h0 z R L nm size back p).L=ky L nm back p.1 p.2 (f' z size.toNat R))/\((h0 z R L nm size back p).e≠0->(h0 z R L nm size back p).L=L):=by
 unfold h0
 split
 .exact⟨fun h=>ap0 h (show¬(1:Int)=0 by decide),fun _=>rfl⟩
 .rename_i au
  split
  .exact⟨fun h=>ap0 h (show¬(143:Int)=0 by decide),fun _=>rfl⟩
  .rename_i E
   split
   .exact⟨fun h=>ap0 h (show¬(140:Int)=0 by decide),fun _=>rfl⟩
   .split
    .exact⟨fun h=>ap0 h (show¬(142:Int)=0 by decide),fun _=>rfl⟩
    .refine⟨fun _=>⟨?_,?_,rfl⟩,fun h=>ap0 rfl h⟩
     .cases H:dk L nm with
      |none=>rfl
      |some d=>exact ap0 (.inl (by rw[H];rfl)) E
     .cases hn:gN nm with
      |true=>rfl
      |false=>exact ap0 (by rw[hn];rfl) au
def amE:e5 ([]:aD4):=by first |exact trivial |exact List.Pairwise.nil |exact av1
def VM {w:bQ} {s:d3} (h:ri w s=false):gN s.nm=true:=by
 unfold ri at h
 cases hn:gN s.nm with
 |true=>rfl
 |false=>rw[hn] at h;cases h
def fU.VN {z R:Nat} {L:aD5} {nm:aD2} (h:cc z R L) (Z:(dk L nm).isSome=true) (f:Nat->Bool):fU z R L nm (h1 f z (b6 L nm*2 ^z)) []:=
 ⟨h,Z,LH f z _ _ (ao9 _),LG f z _,fun p ao=>(by cases ao),av1,fun k _ h=>aA7⟩
def eQ.step {w w':bQ} (aq:eQ w) {s:d3} {e:Int} (aw:fB w s e w'):eQ w':=by
 cases aw with
 |TE h=>exact aq
 |write h=>exact aq.si _ _ _ (vL aq.cs _ _ _)
 |zero h=>exact aq.si _ _ _ (FM aq.cs _ _ _)
 |amx h aD=>exact aq
 |Hd h aD=>exact aq.si _ _ _ (ut aq.cs _ _ _)
 |busy h V=>exact aq
 |over h V aw=>
  obtain⟨p,dM,U,⟨au,rfl⟩ |⟨au,rfl⟩⟩:=aw
  .obtain⟨bR,_,b'⟩:=AL.1 (U.symm.trans au);rw[b'] at dM⊢;have H:=xI (L:=w.L) (nm:=s.nm) (back:=w.aX) (ad:=p.1) (am:=p.2) (im:=f' w.z ((dV w:Nat):Int).toNat w.R) s.nm;rw[bR,vj rfl] at H;refine eQ.no (uV aq.told dM (by rw[H];rfl) ?_ w.b w.bL) V;unfold b6;rw[H];exact aq7
  .rw[AL.2 (fun h=>au (U.trans h))];exact aq
 |eB h l' aw=>
  rcases aw with⟨O,H,⟨_,hn,_,_,a,b,rfl⟩ |⟨_,rfl⟩⟩ |⟨_,rfl⟩
  .refine⟨⟨aq.cs,aq.kd,H,fun e U=>?_,aq.q,aq.ps,aq.eg⟩,aq.bL,aq.qZ⟩;rcases ar7.1 U with U |U
   .exact aq.d' e U
   .obtain rfl:=aq6.1 U;exact⟨⟨O,lw.nil _ _,hn⟩,rfl⟩
  .exact aq
  .exact aq
 |merge h V aw=>
  obtain⟨U,⟨au,b,rfl⟩ |⟨_,rfl⟩⟩:=aw
  .exact⟨uV aq.told aq.cs aq.kd rfl _ _,⟨rfl,rfl,la.F3 aq.cs (by rw[<-U];exact au)⟩,fun ao=>by cases ao⟩
  .exact aq
 |pull h V aw=>
  obtain⟨U,⟨au,b,rfl⟩ |⟨_,rfl⟩⟩:=aw
  .exact⟨uV aq.told aq.cs aq.kd rfl _ _,⟨rfl,rfl⟩,fun ao=>by cases ao⟩
  .exact aq
 |push h V aw=>
  rcases aw with⟨_,_,rfl⟩ |⟨hn,⟨_,⟨_,_,rfl⟩ |⟨_,_,b,rfl⟩⟩ |⟨_,_,_,rfl⟩ |⟨_,x,hx,⟨_,_,rfl⟩ |⟨_,⟨_,_,rfl⟩ |⟨_,_,b,jT,rfl⟩⟩⟩⟩
  .exact aq
  .exact aq
  .exact⟨⟨aq.cs,aq.kd,aq.ds,aq.d',aq.q,aq.ps,fun p ao=>by cases ao⟩,⟨rfl,rfl,rfl,rfl,fU.VN aq.cs aq.kd _⟩,fun _=>VM hn⟩
  .exact aq
  .exact aq
  .exact aq
  .exact⟨⟨aq.cs,aq.kd,aq.ds,aq.d',aq.q,aq.ps,fun p ao=>by cases ao;exact⟨rfl,rfl,amE⟩⟩,⟨rfl,rfl,rfl,rfl,fU.VN aq.cs aq.kd _⟩,fun _=>VM hn⟩
 |zY h V=>exact aq
 | @AI h top base l V=>
  have hF:=aq.bL;rw[V] at hF;obtain⟨rfl,_,aZ⟩:=hF;obtain⟨t,ak⟩:=VK aq.cs w.aX base l false;have ah:=aZ.step base false;have cV:=fun j=>uV aq.told ah.cs ah.h9 (ak.aR w.aX).1 w.b j
  split
  .exact eQ.no (cV _) rfl
  .rename_i ai;exact⟨cV _,⟨rfl,aw6.2 ai,ah⟩,fun ao=>by cases ao⟩
 | @AJ h top base V=>
  have hF:=aq.bL;rw[V] at hF;obtain⟨rfl,_⟩:=hF;obtain⟨J,aO⟩:=VJ aq.cs w.aX base false;have cV:=fun j=>uV aq.told J (by rw[(aO w.aX).2];exact aq.kd) (aO w.aX).1 w.b j
  split
  .exact eQ.no (cV _) rfl
  .rename_i ai;exact⟨cV _,⟨rfl,aw6.2 ai⟩,fun ao=>by cases ao⟩
 | @AK h nm n rm l g V e w' aw=>
  have hF:=aq.bL;rw[V] at hF;obtain⟨rfl,_,_,hn,bk⟩:=hF;rcases aw with⟨rfl,t,aw,rfl⟩ |⟨ak,rfl,rfl⟩
  .have au:ld {w with bL:=.pu w.aX n rm [] g true true}:=uV aq.told aq.cs aq.kd rfl w.b _;have E:=au.fT aw;exact eQ.no ⟨E.cs,E.kd,E.ds,E.d',E.q,E.ps,E.eg⟩ rfl
  .have ao:=bk.SL rm (FX ak).2.1
   split
   .exact eQ.no (uV aq.told aq.cs aq.kd rfl w.b _) rfl
   .exact⟨uV aq.told aq.cs aq.kd rfl w.b _,⟨rfl,rfl,rfl,hn,ao⟩,fun _=>aq.qZ (by rw[V];rfl)⟩
 |VE h V=>exact aq
 |Nj h V=>exact eQ.no (uV aq.told aq.cs aq.kd rfl _ _) rfl
 |He h t=>exact eQ.no (aq.told.He t) rfl
 |drop h aw=>
  rcases aw with⟨_,_,rfl⟩ |⟨_,J⟩
  .exact aq
  .have ag:=yi J;have hw:=aq.told.wn (aq.q.amB _) J;rw[ag] at hw⊢;exact⟨hw,aq.bL,aq.qZ⟩
end
section
abbrev hd:aD2:=[100,105,115,107]
abbrev amF:Made:=⟨(([]:aD2),([]:aD2),(0:Int),(0:Int),([]:List j8)),[],none⟩
abbrev mB (z R:Nat) (size:Int) (p:aF8):List aL:=(h0 z R [] hd size [] p).L
abbrev amG (z R:Nat) (L:aD5):av:=
 [(1401,.cells [.d (.int .i64 z),.d (.str hd),.ptr 1001 0,.ptr 4001 0,.ptr 1201 0,.ptr 3001 0,.d (.int .i64 0),.bH .nilIface,.bH (.pointer none),.bH (.pointer none),.d (.str []),.d (.str []),.d (.int .i64 0),.d (.int .i64 0),.d (.cr nU []),.d (.str []),.bH (.pointer none)]),
  mA z R L,wh [] [],(4001,.aA (tj [])),(3001,.aA (tk []))]
def amH (z R:Nat) (size:Int) (E:lM z 0 R=true) (G:lM z size R=true):
  cz prog 27 [ab (z:Int),ab size,ab (R:Int)] [] [1001,1201,1401,3001,4001] (X:={p:Nat×Nat//cc z R (mB z R size p)}) (fun _=>.cm [.one (.ptr 1401 0),dJ 0]) (fun p=>amG z R (mB z R size p.1)):=by
 have aD:=G;simp only[lM,ao8,as1] at aD;have dM:cc z R []:=cc.nil az7 az7
 have U:(h0 z R [] hd size [] (0,0)).e=0:=by
  unfold h0;rw[mu (by rw[G];decide),mu az8,mu az8,mu az8]
 have hn:=ad' z R az7 az7;have ha:=Vq dM hd size [] az8;rw[U] at ha;have hf:=aj9 4096 az8;refine hR [2,4,5] func27 ?_;refine az hn <| bx [4,5] (ac.close 1001 (bM z R []) (o:=G0 z R []) aE rfl fun I F x p h=>h) <| dR <| az ha <| dR <| bB.fJ (du.iU 1001 rfl) fun p=>bx [5] (bu) <| az (Fn.a7 [(1001,1201),(1002,1202)] hf) <| bx [] (ac.trans (ac.t7 1203 rfl) (ac.close 1201 (C8 1201 1202 1203 4096 [] []) (o:=yd [] []) aE rfl fun I F x p h=>h)) <| az (Fn.a7 [(1001,4001),(1002,4002),(1003,4003),(1004,4004)] aib) <| az (Fn.a7 [(1001,3001),(1002,3002)] Tq) ⟨rfl,?_⟩
 exact⟨p,_,_,_,ac.trans (ac.close 4001 (kN (eq (lH [(1001,4001),(1002,4002),(1003,4003),(1004,4004)] [])) (eV [])) (o:=tj []) aE rfl fun I F x p h=>j1.a7 [(4001,1001),(4002,1002),(4003,1003),(4004,1004)] h)
  (ac.trans (ac.close 3001 (oK 3001 3002 []) (o:=tk []) aE rfl fun I F x p h=>j1.a7 [(3001,1001),(3002,1002)] h) (ac.trans (ac.a7 36 1401 rfl) (ac.rX 1401 (l':=[.d (.int .i64 z),.d (.str hd),.ptr 1001 0,.ptr 4001 0,.ptr 1201 0,.ptr 3001 0,.d (.int .i64 0),.bH .nilIface,.bH (.pointer none),.bH (.pointer none),.d (.str []),.d (.str []),.d (.int .i64 0),.d (.int .i64 0),.d (.cr nU []),.d (.str []),.bH (.pointer none)]) rfl aE))),rfl,aE,aE,rfl⟩
end
section
def VO {α:Type} (f:α->Nat): ∀(l:List α) (k:Nat),((l.take k).map f).sum<=(l.map f).sum
 | [],k=>by simp
 |a::l,0=>by simp
 |a::l,k+1=>by
  simp only[List.take_succ_cons,aq5,List.sum_cons];have:=VO f l k;omega
def amI {α:Type} (f:α->Nat) {l:List α} {k:Nat} (h:k < l.length):((l.take (k+1)).map f).sum=((l.take k).map f).sum+f l[k]:=by rw[at2 h,au2,List.sum_append];simp
end
section
def VP: ∀b:aD2,hO (.ce .u8) b=1+b.length
 | []=>rfl
 |x::b=>by
  have h:=VP b;show 1+(1+(List.map (hO .u8) b).sum)=_;have h:1+(List.map (hO .u8) b).sum=1+b.length:=h;rw[h,as9];omega
def VQ {α:Type} {f:α->Nat} {k:α}: ∀{l:List α},k∈l->f k<=(l.map f).sum
 | [],h=>by cases h
 |a::l,h=>by
  rw[aq5,List.sum_cons];rcases ap7.1 h with rfl |h
  .omega
  .have:=VQ (f:=f) h;omega
def Dr (n:Int):aD2:=UInt8.ofNat n.toNat::List.replicate 15 (0:UInt8)
abbrev amJ (s:d3) (v:bw):List bw:=[.d (.int .i64 s.kd),.d (.int .i64 s.a),.d (.int .i64 s.l),.d (.cr .u8 s.b),.d (.str s.nm),.d (.str s.fL),v]
end
section
def fB.Fi {w w':bQ} {s:d3} {e:Int} (Z:s.kd=0) (h:fB w s e w'):e=(fu w.z w.L w.aX s.a s.b).e/\w'=h3 w s.a ((s.b.length:Int)/16) (fu w.z w.L w.aX s.a s.b):=by
 cases h with
 |write h=>exact⟨rfl,rfl⟩
 |_=>omega
def fB.amK {w w':bQ} {s:d3} {e:Int} (Z:s.kd=7) (h:fB w s e w'):(oM w.bL=false/\e=143/\w'=w)\/(w.bL= .no/\Nd w s e w'):=by
 cases h with
 |busy h V=>exact .inl ⟨V,rfl,rfl⟩
 |push h V aw=>exact .inr ⟨V,aw⟩
 |_=>omega
def fB.Nl {w w':bQ} {s:d3} {e:Int} (Z:s.kd=8) (h:fB w s e w'):(w.bL= .no/\e=1/\w'=w)\/(∃top base l,w.bL= .dv top base l false/\e=(eY w.z w.L top base l false).e/\w'={w with L:=(eY w.z w.L top base l false).L,bL:=if(eY w.z w.L top base l false).over=true then .no else .dv top base (eY w.z w.L top base l false).l (eY w.z w.L top base l false).over})\/
  (∃top base,w.bL= .pl top base false/\e=(hH w.z w.L top base false).e/\w'={w with L:=(hH w.z w.L top base false).L,bL:=if(hH w.z w.L top base false).over=true then .no else .pl top base (hH w.z w.L top base false).over})\/
  ∃nm n rm l g,w.bL= .pu nm n rm l g false false/\Hb w nm n rm l g e w':=by
 cases h with
 |zY h V=>exact .inl ⟨V,rfl,rfl⟩
 |AI h V=>exact .inr (.inl ⟨_,_,_,V,rfl,rfl⟩)
 |AJ h V=>exact .inr (.inr (.inl ⟨_,_,V,rfl,rfl⟩))
 |AK h V aw=>exact .inr (.inr (.inr ⟨_,_,_,_,_,V,aw⟩))
 |_=>omega
abbrev gq (z R:Nat) (size:Int) (p:aF8) (db lb:Nat):bQ:=⟨z,R,mB z R size p,hd,db,[],[],[],lb,[],0,.no,amF⟩
def Nm {z R:Nat} {size:Int} (G:lM z size R=true) (p:aF8):dk (mB z R size p) hd=some ⟨hd,[],p.1,p.2,f' z size.toNat R,none⟩:=by
 have e:mB z R size p=ky [] hd [] p.1 p.2 (f' z size.toNat R):=by
  show(h0 z R [] hd size [] p).L=_;unfold h0;rw[mu (by rw[G];decide),mu az8,mu az8,mu az8]
 rw[e,xI];rfl
def VR {z R:Nat} {size:Int} (G:lM z size R=true) (p:aF8):b6 (mB z R size p) hd=size.toNat:=by unfold b6;rw[Nm G];exact aq7
def pr.nil:pr [] [] []:=⟨List.Pairwise.nil,fun p h=>aA7,⟨fun p h=>aA7,av1,av1,fun p h=>aA7,fun p h=>aA7⟩,fun p h=>aA7,.inl ⟨rfl,rfl⟩⟩
def re.nil:re []:=⟨⟨az8,fun b h=>aA7,fun k b h=>aA7⟩,q'.nil⟩
def Nn {z R:Nat} {size:Int} (G:lM z size R=true) {p:aF8} (dM:cc z R (mB z R size p)) (db lb:Nat):eQ (gq z R size p db lb):=
 eQ.no ⟨dM,by show(dk (mB z R size p) hd).isSome=true;rw[Nm G];rfl,e'.nil,fun e U=>(by cases U),re.nil,pr.nil,fun p ao=>(by cases ao)⟩ rfl
abbrev VS:d3:=⟨0,0,0,Dr 97,[],[],[]⟩
abbrev No:d3:=⟨7,0,9,[],[120],[],[]⟩
abbrev VT:d3:=⟨8,0,0,[],[],[],[]⟩
def rl.of {s:d3} (E:s.b.length<=1000000) (G:s.nm.length<=1000000) (ag:s.l<=9223372036854775807) (aS:s.ks=[]):rl s:=⟨E,G,ag,by rw[aS];decide,by rw[aS];exact fun k h=>aA7⟩
def amL {w:bQ} {g:aD6} {e:Int} {t:Ha} (h:uU w g e (AG w g t)) (eR:gy w.Q (gH w.bO g)=0) (a2:rh (gQ w.Q (gH w.bO g))=0):t.2.2.2.2=gQ w.Q (gH w.bO g)/\e=0:=by
 have key: ∀dK,yg {w with bO:=pt w.bO g} (gQ w.Q (gH w.bO g)) e dK->dK.Q=gQ w.Q (gH w.bO g)/\e=0:=fun dK G=>by
  obtain⟨U,b,_,⟨_,lb,rfl⟩ |⟨h,_⟩⟩:=G
  .exact⟨Eq.refl _,U.trans a2⟩
  .exact ap0 a2 h
 rcases h with⟨h,_⟩ |⟨_,dK,G,⟨_,ag⟩ |⟨_,jT,bF,g2,ef,x,a,b,_,_,_,ag⟩⟩
 .exact ap0 eR h
 .have:=key dK G;exact⟨(ap1 bQ.Q ag).trans this.1,this.2⟩
 .have:=key dK G;exact⟨(ap1 bQ.Q ag).trans this.1,this.2⟩
end
section
abbrev amM (s:d3):List aN:=[ap 1401,.c (.agg (amJ s .dc))]
abbrev VU (s:d3):List aN:=[ap 1401,.c (.agg [.d (.int .i64 s.kd),.d (.int .i64 s.a),.d (.int .i64 s.l),.dc,.d (.str s.nm),.d (.str s.fL),.dc])]
end
section
abbrev wo (w:bQ):av:=lA w.z w.R w.L w.es w.M w.aX w.db w.lb (wg w.bL) (ra w.b w.bL) (AA w.b w.bL) (we w.b w.bL) w.bO
def amN (w:bQ):Fn prog 58 [ap 1401] (wo w) [] (ab (wg w.bL)) (wo w):=alq
def VV (w:bQ):Fn prog 11 [ap 1401] (wo w) [] (ap 1001) (wo w):=alr
def VW (w:bQ):Fn prog 25 [ap 1401] (wo w) [] (di w.lb) (wo w):=als
def amO (w:bQ) (h:cc w.z w.R w.L) (a l:Int):Fn prog 22 [ap 1401,ab a,ab l] (wo w) [] (.cm [.one (.d (.cr .u8 (rV w.z w.L w.aX a l).1)),dJ (rV w.z w.L w.aX a l).2]) (wo w):=alt h a l
end
section
structure qe (w w':bQ):Prop where
 bi:w'.z=w.z
 nF:w'.R=w.R
 aR:b6 w'.L w'.aX=b6 w.L w.aX
def qe.refl (w:bQ):qe w w:=⟨rfl,rfl,rfl⟩
def qe.si (w:bQ) (a aT:Int) (r:m0) (ak:iD w.L w.aX r.L):qe w (h3 w a aT r):=by
 unfold h3
 split
 .exact⟨rfl,rfl,(ak.aR w.aX).1⟩
 .exact⟨rfl,rfl,(ak.aR w.aX).1⟩
def qe.wn {w w':bQ} {Q:aE6} {e:Int} (h:yg w Q e w'):qe w w':=by rw[yi h];exact⟨rfl,rfl,rfl⟩
def fB.l1 {w w':bQ} (aq:eQ w) {s:d3} {e:Int} (aw:fB w s e w'):qe w w':=by
 cases aw with
 |write h=>exact qe.si w _ _ _ (vL aq.cs _ _ _)
 |zero h=>exact qe.si w _ _ _ (FM aq.cs _ _ _)
 |Hd h aD=>exact qe.si w _ _ _ (ut aq.cs _ _ _)
 |over h V aw=>
  obtain⟨p,dM,U,⟨au,rfl⟩ |⟨au,rfl⟩⟩:=aw
  .obtain⟨bR,_,b'⟩:=AL.1 (U.symm.trans au);refine⟨rfl,rfl,?_⟩;show b6 (h0 w.z w.R w.L s.nm ((dV w:Nat):Int) w.aX p).L s.nm=_;rw[b'];have H:=xI (L:=w.L) (nm:=s.nm) (back:=w.aX) (ad:=p.1) (am:=p.2) (im:=f' w.z ((dV w:Nat):Int).toNat w.R) s.nm;rw[bR,vj rfl] at H;unfold b6;rw[H];exact aq7
  .rw[AL.2 (fun h=>au (U.trans h))];exact qe.refl w
 |merge h V aw=>obtain⟨_,⟨_,b,rfl⟩ |⟨_,rfl⟩⟩:=aw <;>exact⟨rfl,rfl,rfl⟩
 |pull h V aw=>obtain⟨_,⟨_,b,rfl⟩ |⟨_,rfl⟩⟩:=aw <;>exact⟨rfl,rfl,rfl⟩
 |push h V aw=>
  rcases aw with⟨_,_,rfl⟩ |⟨hn,⟨_,⟨_,_,rfl⟩ |⟨_,_,b,rfl⟩⟩ |⟨_,_,_,rfl⟩ |⟨_,x,hx,⟨_,_,rfl⟩ |⟨_,⟨_,_,rfl⟩ |⟨_,_,b,jT,rfl⟩⟩⟩⟩ <;>exact⟨rfl,rfl,rfl⟩
 | @AI h top base l V=>
  obtain⟨t,ak⟩:=VK aq.cs top base l false;exact⟨rfl,rfl,(ak.aR w.aX).1⟩
 | @AJ h top base V=>exact⟨rfl,rfl,((VJ aq.cs top base false).2 w.aX).1⟩
 | @AK h nm n rm l g V e w' aw=>
  rcases aw with⟨rfl,t,aw,rfl⟩ |⟨ak,rfl,rfl⟩ <;>exact⟨rfl,rfl,rfl⟩
 |drop h aw=>
  rcases aw with⟨_,_,rfl⟩ |⟨_,J⟩
  .exact qe.refl _
  .exact qe.wn J
 |_=>exact⟨rfl,rfl,rfl⟩
end
section
def amP {z R:Nat} {L:aD5} (dM:cc z R L) {nm:aD2} {bN:aL} (au:dk L nm=some bN) (a n j:Nat) (V:j < n):kA (jw z L nm (cf L nm) a n) j=ji z L nm (cf L nm) (a+j):=by
 have bZ:=fun m=>Cf dM.tomZ au (dM.bY nm).1 a m
 induction n with
 |zero=>omega
 |succ n bl=>
  have e:jw z L nm (cf L nm) a (n+1)=jw z L nm (cf L nm) a n++ji z L nm (cf L nm) (a+n):=rfl;rw[e];unfold kA
  by_cases amQ:j < n
  .rw[List.take_append_of_le_length (by rw[bZ];omega)];exact bl amQ
  .have:j=n:=aA5
   subst this;have E:=bZ (j+1);rw[e,ap3,bZ] at E;rw[au0 (by rw[ap3,bZ];omega),show j*16=(jw z L nm (cf L nm) a j).length by rw[bZ];omega,List.drop_left]
def VX {x y:aD2} {n:Nat} (hx:x.length=16*n) (aC:y.length=16*n) (h: ∀j,j < n->kA x j=kA y j):x=y:=by
 apply aw5;intro i
 by_cases aG:i < 16*n
 .have E:=ap1 (fun aF:aD2=>aF[i % 16]?) (h (i/16) az7);simp only[rW] at E;rw[vj (Nat.mod_lt _ az8),vj (Nat.mod_lt _ az8),show i/16*16+i % 16=i by omega] at E;exact E
 .rw[av7 az7,av7 az7]
def amR (X:aD2) (off n:Nat) {ys:aD2} (h:ys.length<=n):laid X off n ys=laid X off ys.length ys:=by unfold laid;rw[au0 h,ar2]
def amS {X ys:aD2} {off:Nat} (h:off+ys.length<=X.length):(laid X off ys.length ys).length=X.length:=by unfold laid;rw[ar2,ap3,ap3,aq0,au8];omega
def amT {X ys:aD2} {f m:Nat} (nM:16*f+16*m<=X.length) (aC:ys.length=16*m) (j:Nat):kA (laid X (16*f) ys.length ys) j=if f<=j/\j < f+m then kA ys (j - f) else kA X j:=by
 apply aw5;intro i;rw[rW];have ak:=fun aF=>La (X:=X) (off:=16*f) (n:=ys.length) (ys:=ys) az7 rfl aF
 by_cases aG:i < 16
 .rw[vj aG,ak]
  by_cases dW:f<=j/\j < f+m
  .rw[vj dW,mu az7,vj az7,rW,vj aG]
   congr 1
   omega
  .rw[mu dW,rW,vj aG]
   by_cases E:j*16+i < 16*f
   .rw[vj E]
   .rw[mu E,mu az7]
 .rw[mu aG]
  split
  .rw[rW,mu aG]
  .rw[rW,mu aG]
end
section
section
variable {z R:Nat} {L uW:aD5}
def amU (Z: ∀n d,dk L n=some d->dk uW n=some d) (g8: ∀d,d∈L->d.back≠[]-> ∃e,dk L d.back=some e) {n:aD2} {k:Nat} (h:d9 L n k) (au: ∃d,dk L n=some d):c6 uW k n=c6 L k n:=by
 induction h with
 |gone h=>obtain⟨d,H⟩:=au;rw[h] at H;cases H
 |base h O=>rfl
 |step h O ax bl=>
  unfold c6;rw[h,Z _ _ h];simp only;rw[bl (g8 _ (cO h).1 O)]
def VY {c:Nat} (Z: ∀n d,dk L n=some d->dk uW n=some d): ∀(ns:aF4) (i:Nat),(∀n,n∈ns-> ∃d,dk L n=some d)->g7 z uW c ns i=g7 z L c ns i
 | [],_,_=>rfl
 |n::ns,i,h=>by
  obtain⟨d,H⟩:=h n (aq4 ..);unfold g7;rw[H,Z _ _ H];simp only;rw[VY Z ns (i+1) fun n hn=>h n (ap4 _ hn)]
def amV (h:cc z R L) (Z: ∀n d,dk L n=some d->dk uW n=some d) {n:aD2} {d:aL} (H:dk L n=some d) (c:Nat):fe z uW n (cf uW n) c=fe z L n (cf L n) c:=by have cx:=(h.bY n).1;have iw:=(h.bY n).2;have Nf:=RU (L':=uW) (fun n d H=>⟨d,Z n d H,rfl⟩) h.h9 cx ⟨d,H⟩;have e:cf uW n=cf L n:=qU Nf az7;unfold fe;rw[e,amU Z h.h9 cx ⟨d,H⟩,VY Z _ _ (h.K6 ⟨d,H⟩)]
def amW {nm aX:aD2} {ad am:Nat} {d:aL} (h:cc z R L) (H:dk L aX=some d) (au:dk L nm=none) (G:cc z R (ky L nm aX ad am (f' z d.im.t.length R))):kB z (ky L nm aX ad am (f' z d.im.t.length R)) nm=kB z L aX:=by
 have Z: ∀n e,dk L n=some e->dk (ky L nm aX ad am (f' z d.im.t.length R)) n=some e:=fun n e U=>by rw[xI,U];rfl
 have Hf:dk (ky L nm aX ad am (f' z d.im.t.length R)) nm=some ⟨nm,aX,ad,am,f' z d.im.t.length R,none⟩:=by rw[xI,au,vj rfl];rfl
 have ix:aX≠[]:=Cs h ⟨d,H⟩;have e1:=K7 G Hf ix;have e1:cf (ky L nm aX ad am (f' z d.im.t.length R)) nm=cf (ky L nm aX ad am (f' z d.im.t.length R)) aX+1:=e1;have ak:(f' z d.im.t.length R).t.length=d.im.t.length:=aq7;unfold kB;rw[Hf,H];simp only;rw[ak];refine RX (N:=d.im.t.length) (fun c J=>?_) _ (ao9 _);rw[xJ Hf (fun bf=>bf.2 (by show((List.replicate d.im.t.length b7).getD c b7).1=0;rw[ap2,ax0];split <;>rfl)),e1,K5 Hf];exact amV h Z H c
def VZ {nm:aD2} {a l:Int} (U:(j5 L nm a l).e≠0):(j5 L nm a l).L=L:=by
 unfold j5 at U⊢
 split at U
 .rfl
 .split at U
  .rename_i c;rw[vj c]
  .exact ap0 rfl U
def iD.V0 {L':aD5} {t top base:aD2} (h:cc z R L) (ak:iD L t L'):hs L' top base=hs L top base:=by
 rcases ak with rfl |⟨d,im,H,ax,rfl⟩
 .rfl
 .exact(afW h H ax).2
end
def kb (w:bQ):Prop:=match w.bL with
 | .dv top base l _=>kQ w.z w.R w.L top base l/\q1 w.z w.L top base l
 | .pl top base _=>hs w.L top base=true
 |_=>True
abbrev gp (w:bQ):aD2:=kB w.z w.L w.aX
def Np (w:bQ) (a aT:Int) (r:m0):gp (h3 w a aT r)=kB w.z r.L w.aX:=by
 unfold h3
 split <;>rfl
def kb.no {w:bQ} (h:w.bL= .no):kb w:=by
 unfold kb;rw[h]
 trivial
def kb.si {w:bQ} (aq:eQ w) (ah:kb w) {a aT:Int} {r:m0} (k2:iD w.L w.aX r.L) (amX:r.e≠0->r.L=w.L)
  (hw:r.e=0->M7 w.bL=true-> ∃a' N:Nat,a=a'/\aT=N/\ ∀s,¬(a'<=s/\s < a'+N)->ga w.z r.L w.aX s=ga w.z w.L w.aX s):kb (h3 w a aT r):=by
 have hF:=aq.bL;have fZ:=aq.cs;obtain⟨z,R,L,aX,db,ds,es,M,lb,Q,b,bL,bO⟩:=w;unfold h3
 cases bL with
 |no=>split <;>exact kb.no rfl
 |pu nm n rm l g over done=>
  unfold rc
  split
  .simp only
   split
   .trivial
   .trivial
  .simp only
   split
   .trivial
   .trivial
 |pl top base over=>
  have ah:hs L top base=true:=ah;have O:hs r.L top base=true:=by rw[k2.V0 fZ];exact ah
  split <;>exact O
 |dv top base l over=>
  obtain⟨rfl,rfl,_⟩:=hF;obtain⟨cT,w5⟩:kQ z R L top base l/\q1 z L top base l:=ah
  by_cases U:r.e=0
  .rw[vj U];obtain⟨a',N,rfl,rfl,ax⟩:=hw U rfl;exact⟨(cT.q0 k2).wr false _ _,agu cT w5 k2 ax⟩
  .rw[mu U];show kQ z R r.L top base l/\q1 z r.L top base l;rw[amX U];exact⟨cT,w5⟩
def kb.step {w w':bQ} (aq:eQ w) (ah:kb w) {s:d3} {e:Int} (aw:fB w s e w'):kb w':=by
 cases aw with
 |write h=>
  refine ah.si aq (vL aq.cs _ _ _) (fSz aq.cs) fun U _=>?_
  obtain⟨_,_,_,ha,_⟩:=FP U;refine⟨s.a.toNat,s.b.length/16,ha,az7,fun t cq=>?_⟩;show ji _ _ _ _ _=ji _ _ _ _ _;rw[FQ aq.cs U t,mu cq]
 |zero h=>
  refine ah.si aq (FM aq.cs _ _ _) (Le aq.cs) fun U _=>?_
  obtain⟨_,_,ha,ak,_⟩:=R7 U;refine⟨s.a.toNat,s.l.toNat,ha,ak,fun t cq=>?_⟩;show ji _ _ _ _ _=ji _ _ _ _ _;rw[R8 aq.cs U t,mu cq]
 |Hd h aD=>exact ah.si aq (ut aq.cs _ _ _) VZ fun _ aV=>by rw[aD] at aV;cases aV
 |over h V aw=>obtain⟨_,_,_,⟨_,rfl⟩ |⟨_,rfl⟩⟩:=aw <;>exact kb.no V
 |merge h V aw=>
  obtain⟨U,⟨au,b,rfl⟩ |⟨_,rfl⟩⟩:=aw
  .rw[au] at U;exact⟨kQ.F3 aq.cs U.symm,agr aq.cs U.symm⟩
  .exact ah
 |pull h V aw=>
  obtain⟨U,⟨au,b,rfl⟩ |⟨_,rfl⟩⟩:=aw
  .rw[au] at U;show hs w.L w.aX s.fL=true;unfold s8 at U
   split at U
   .exact ap0 U az8
   .split at U
    .exact ap0 U az8
    .rename_i hn;exact at0 fun O=>hn (.inl (aw6.2 O))
  .exact ah
 |push h V aw=>
  rcases aw with⟨_,_,rfl⟩ |⟨hn,⟨_,⟨_,_,rfl⟩ |⟨_,_,b,rfl⟩⟩ |⟨_,_,_,rfl⟩ |⟨_,x,hx,⟨_,_,rfl⟩ |⟨_,⟨_,_,rfl⟩ |⟨_,_,b,jT,rfl⟩⟩⟩⟩
  all_goals first |exact ah |trivial
 | @AI h top base l V=>
  have hF:=aq.bL;unfold kb at ah;rw[V] at hF ah;obtain⟨cT,w5⟩:=ah
  split
  .exact kb.no rfl
  .exact⟨(cT.step false).1,(Sy cT w5).1⟩
 | @AJ h top base V=>
  unfold kb at ah;rw[V] at ah;have ah:hs w.L top base=true:=ah;have hF:=aq.bL;rw[V] at hF;obtain⟨rfl,_⟩:=hF
  split
  .exact kb.no rfl
  .rename_i ai;show hs (hH w.z w.L w.aX base false).L w.aX base=true;obtain⟨d,H⟩:=as5.1 aq.kd;unfold hH at ai⊢;rw[mu (by rw[aq.kd];decide)] at ai⊢
   cases hn:nN w.L w.aX base with
   |some k=>
    show hs (fu w.z w.L w.aX ((k*2 ^w.z:Nat):Int) (gm w.z w.L w.aX (k:Int))).L w.aX base=true;rw[(vL aq.cs _ _ _).V0 aq.cs];exact ah
   |none=>
    rw[hn] at ai;exact ap0 (show decide ((hV w.L w.aX base).e=0)=true by rw[Lq aq.cs H ah];rfl) ai
 | @AK h nm n rm l g V e w' aw=>
  rcases aw with⟨rfl,t,aw,rfl⟩ |⟨ak,rfl,rfl⟩
  .exact kb.no rfl
  .split
   .exact kb.no rfl
   .trivial
 |Nj h V=>exact kb.no rfl
 |He h t=>exact kb.no rfl
 |drop h aw=>
  rcases aw with⟨_,_,rfl⟩ |⟨_,J⟩
  .exact ah
  .rw[yi J];exact ah
 |_=>exact ah
def V1 {w w':bQ} (aq:eQ w) (ah:kb w) {s:d3} {e:Int} (aw:fB w s e w') (hn:e≠0\/s.kd < 0\/2 < s.kd):gp w'=gp w:=by
 obtain⟨d,H⟩:=as5.1 aq.kd
 cases aw with
 |write h=>rw[Np,fSz aq.cs az7]
 |zero h=>rw[Np,Le aq.cs az7]
 |Hd h aD=>rw[Np,VZ az7]
 |over h V aw=>
  obtain⟨p,dM,U,⟨au,rfl⟩ |⟨au,rfl⟩⟩:=aw
  .obtain⟨bR,_,b'⟩:=AL.1 (U.symm.trans au);show kB w.z (h0 w.z w.R w.L s.nm ((dV w:Nat):Int) w.aX p).L s.nm=_;rw[b'] at dM⊢
   have aO:((dV w:Nat):Int).toNat=d.im.t.length:=by
    show dV w=_;unfold dV b6;rw[H]
   rw[aO] at dM⊢;exact amW aq.cs H bR dM
  .rw[AL.2 (fun h=>au (U.trans h))]
 |merge h V aw=>obtain⟨_,⟨_,b,rfl⟩ |⟨_,rfl⟩⟩:=aw <;>rfl
 |pull h V aw=>obtain⟨_,⟨_,b,rfl⟩ |⟨_,rfl⟩⟩:=aw <;>rfl
 |push h V aw=>
  rcases aw with⟨_,_,rfl⟩ |⟨hn,⟨_,⟨_,_,rfl⟩ |⟨_,_,b,rfl⟩⟩ |⟨_,_,_,rfl⟩ |⟨_,x,hx,⟨_,_,rfl⟩ |⟨_,⟨_,_,rfl⟩ |⟨_,_,b,jT,rfl⟩⟩⟩⟩ <;>rfl
 | @AI h top base l V=>
  have hF:=aq.bL;unfold kb at ah;rw[V] at hF ah;obtain⟨rfl,_⟩:=hF;exact(Sy ah.1 ah.2).2
 | @AJ h top base V=>
  unfold kb at ah;rw[V] at ah;have ah:hs w.L top base=true:=ah;have hF:=aq.bL;rw[V] at hF;obtain⟨rfl,_⟩:=hF;show kB w.z (hH w.z w.L w.aX base false).L w.aX=_;unfold hH;rw[mu (by rw[aq.kd];decide)]
  cases ao:nN w.L w.aX base with
  |some k=>
   show kB w.z (fu w.z w.L w.aX ((k*2 ^w.z:Nat):Int) (gm w.z w.L w.aX (k:Int))).L w.aX=_;have Z:=(Sp ao).2.1;have aO:b6 w.L w.aX=d.im.t.length:=aB2
   exact afG aq.cs H az7
  |none=>
   show kB w.z (hV w.L w.aX base).L w.aX=_;rw[Lq aq.cs H ah];exact(afX aq.cs H ah ao).2
 | @AK h nm n rm l g V e w' aw=>
  rcases aw with⟨rfl,t,aw,rfl⟩ |⟨ak,rfl,rfl⟩ <;>rfl
 |drop h aw=>
  rcases aw with⟨_,_,rfl⟩ |⟨_,J⟩
  .rfl
  .rw[yi J]
 |_=>rfl
def Hg {w:bQ} (aq:eQ w):(gp w).length=16*(b6 w.L w.aX*2 ^w.z):=by obtain⟨d,H⟩:=as5.1 aq.kd;unfold gp kB b6;rw[H];exact Cf aq.cs.tomZ H (aq.cs.bY _).1 0 _
def Nq {w:bQ} (aq:eQ w) {j:Nat} (V:j < b6 w.L w.aX*2 ^w.z):kA (gp w) j=ga w.z w.L w.aX j:=by obtain⟨d,H⟩:=as5.1 aq.kd;unfold gp kB ga;unfold b6 at V;rw[H] at V⊢;have:=amP aq.cs H 0 _ j V;rw[at5] at this;exact this
def amY {w:bQ} (aq:eQ w):rV w.z w.L w.aX 0 ((b6 w.L w.aX*2 ^w.z:Nat):Int)=(gp w,0):=by
 obtain⟨d,H⟩:=as5.1 aq.kd;have aO:b6 w.L w.aX=d.im.t.length:=aB2
 rw[afv aq.cs H (by rw[Ct aq.cs H,aO];exact ao9 _)];unfold gp kB;rw[H,aO]
end
section
def amZ (w:bQ) (a aT:Int) (r:m0) (j:Nat):ga (h3 w a aT r).z (h3 w a aT r).L (h3 w a aT r).aX j=ga w.z r.L w.aX j:=by
 unfold h3
 split <;>rfl
def am0 {w w':bQ} (aq:eQ w) {s:d3} {e:Int} (aw:fB w s e w') (Z:s.kd=0) (U:e=0): ∃a m:Nat,s.a=a/\s.b.length=16*m/\a+m<=b6 w.L w.aX*2 ^w.z/\gp w'=laid (gp w) (16*a) s.b.length s.b:=by
 have Hh:=aq.step aw;have cT:=aw.l1 aq;obtain⟨E,G⟩:=aw.Fi Z;rw[U] at E;obtain⟨d,H,ak,ha,dW,_⟩:=FP E.symm;have aO:b6 w.L w.aX=d.im.t.length:=aB2
 have dA:=oz dW;rw[Ct aq.cs H,<-aO] at dA;have nM:=Hg aq;refine⟨s.a.toNat,s.b.length/16,ha,ak,dA,VX (n:=b6 w.L w.aX*2 ^w.z) ?_ ?_ fun j V=>?_⟩
 .rw[Hg Hh,cT.aR,cT.bi]
 .rw[amS az7,nM]
 .rw[Nq Hh (by rw[cT.aR,cT.bi];exact V),amT (m:=s.b.length/16) az7 ak,Nq aq V,G,amZ];exact FQ aq.cs E.symm j
def am1 {z R:Nat} {size:Int} (G:lM z size R=true) {p:aF8} (dM:cc z R (mB z R size p)) (db lb:Nat):gp (gq z R size p db lb)=List.replicate (16*(size.toNat*2 ^z)) 0:=by
 have H:=Nm G p;have au:cf (mB z R size p) hd=0:=qU (.base H rfl) az7;have aq:=Nn G dM db lb;have aO:=VR G p;refine VX (n:=size.toNat*2 ^z) ?_ aq7 fun j V=>?_
 .rw[Hg aq];show 16*(b6 (mB z R size p) hd*2 ^z)=_;rw[aO]
 rw[Nq aq (by show j < b6 (mB z R size p) hd*2 ^z;rw[aO];exact V)];show ji z (mB z R size p) hd (cf (mB z R size p) hd) j=_;rw[qV,xJ H (fun bf=>bf.2 (by show((List.replicate size.toNat b7).getD (j/2 ^z) b7).1=0;rw[ap2,ax0];split <;>rfl)),au];show kA (List.replicate (16*2 ^z) 0) (j % 2 ^z)=_;have:=Nat.mod_lt j (Nat.two_pow_pos z);rw[FO _ _ az7,FO _ _ az7]
end
section
def am2 (l:aE5) (ak:l.length<=1000000):Fn prog 167 [eX 1001] [(1001,.row 3 aj l)] [1002] (eX 1002) [(1001,.row 3 aj l),(1002,.row 3 aj l)]:=by
 refine aU [1] func167 ?_;refine bB.hP eC aA0 ⟨_,PY (c:=1001) rfl rfl rfl underlying42,fun v e h=>?_⟩;obtain⟨b,O,rfl,rfl⟩:=h
 cases b
 .refine⟨rfl,?_⟩;have m1:([]:aE5).length+l.length<=4294967296:=aB1
  exact⟨m1,rfl,_,_,_,ac.a7 7 1002 rfl,rfl,rfl,aE,rfl⟩
 .have O:=O rfl;subst O;exact⟨_,_,_,ac.nil 2 1002 3 aj rfl rfl,rfl,rfl,aE,rfl⟩
section
variable {ids:aD3} {K:aW} {B:av}
end
def am3 (l:aE5) (ak:l.length<=1000000):Fn prog 100 [ap 1001] (lq l) [2001] (ap 2001) (lq l++[(2001,.aA (ju l))]):=by refine aU [] func100 ?_;refine az (Fn.a7 [(1001,1002),(1002,2002)] (am2 l ak)) ⟨rfl,_,_,_,(ac.a7 9 2001 rfl).trans (ac.close 2001 [(2001,.cells [.own 2002]),(2002,.row 3 aj l)] (o:=ju l) aE rfl fun _ _ _ _ h=>j1.a7 [(2001,1001),(2002,1002)] h),rfl,rfl,aE,rfl⟩
def am4 (l:aE5) (ak:l.length<=1000000):Fn prog 100 [ap 1001] [(1001,.aA (ju l))] [2001] (ap 2001) [(1001,.aA (ju l)),(2001,.aA (ju l))]:=
 Fn.close [1002] (am3 l ak) (fun _ _ _ _ h=>h) (fun _ _ _ _ h=>h) rfl rfl
abbrev am5:=Nat×(aa aj×aa .dd)
abbrev cT (e:am5):Int:=e.2.1
end
section
def iu (l:aE5) (q:d7):List Int:=if q.1=1 then l.set q.2.1.toNat ((l[q.2.1.toNat]?).getD 0+1) else l
def Ds (s:bA):List Int:=s.t.foldl iu (List.replicate s.l.length 0)
open Classical in
def Hi {s:bA} (h:e6 s): ∀n,n<=s.t.length->((s.t.take n).foldl iu (List.replicate s.l.length 0)).length=s.l.length/\ ∀k,k < s.l.length->((s.t.take n).foldl iu (List.replicate s.l.length 0))[k]? =some (if∃c,c < n/\s.t[c]? =some ((1:Int),(k:Int),true) then 1 else 0)
 |0,_=>by
  refine⟨aq7,fun k Z=>?_⟩;rw[mu (fun⟨c,J,_⟩=>ap0 J (ay8 c))];show(List.replicate s.l.length (0:Int))[k]? =some 0;rw[ax0,vj Z]
 |n+1,hn=>by
  obtain⟨i1,i2⟩:=Hi h n az7;have aV:s.t[n]? =some s.t[n]:=ao7 az7;rw[ax3,aV];show(((s.t.take n)++[s.t[n]]).foldl iu _).length=_/\ ∀k,k < s.l.length->(((s.t.take n)++[s.t[n]]).foldl iu _)[k]? =_;rw[ax4];show(iu _ s.t[n]).length=_/\ ∀k,k < s.l.length->(iu _ s.t[n])[k]? =_;generalize(s.t.take n).foldl iu (List.replicate s.l.length 0)=r at i1 i2;generalize s.t[n]=q at aV
  have fx:q.1≠1->(iu r q).length=s.l.length/\ ∀k,k < s.l.length->(iu r q)[k]? =some (if∃c,c < n+1/\s.t[c]? =some ((1:Int),(k:Int),true) then 1 else 0):=fun aY=>by
   have e:iu r q=r:=mu aY;rw[e];refine⟨i1,fun k Z=>?_⟩;rw[i2 k Z]
   congr 1
   have:(∃c,c < n/\s.t[c]? =some ((1:Int),(k:Int),true))↔ ∃c,c < n+1/\s.t[c]? =some ((1:Int),(k:Int),true):=by
    constructor
    .rintro⟨c,E,G⟩;exact⟨c,az7,G⟩
    .rintro⟨c,E,G⟩
     by_cases al:c=n
     .subst al;rw[aV] at G;injection G with G
      exact ap0 (by rw[G]) aY
     .exact⟨c,az7,G⟩
   simp only[this]
  rcases h.slot n q aV with rfl |rfl |⟨x,rfl,hx,_⟩
  .exact fx az8
  .exact fx az8
  .have tM:=(ap6.1 hx).1;have e:iu r ((1:Int),(x:Int),true)=r.set x ((r[x]?).getD 0+1):=vj rfl;rw[e];refine⟨by rw[at7];exact i1,fun k Z=>?_⟩
   by_cases dy:k=x
   .subst dy;rw[au1 az7,vj ⟨n,Nat.lt_succ_self n,aV⟩];have:=i2 k Z;rw[mu (fun⟨c,E,G⟩=>by have:=h.inj c n _ G aV;omega)] at this;rw[this];rfl
   .rw[as6 (fun e=>dy e.symm),i2 k Z]
    congr 1
    have:(∃c,c < n/\s.t[c]? =some ((1:Int),(k:Int),true))↔ ∃c,c < n+1/\s.t[c]? =some ((1:Int),(k:Int),true):=by
     constructor
     .rintro⟨c,E,G⟩;exact⟨c,az7,G⟩
     .rintro⟨c,E,G⟩
      by_cases al:c=n
      .subst al;rw[aV] at G;injection G with G
       injection G with _ G
       injection G with G _
       omega
      .exact⟨c,az7,G⟩
    simp only[this]
def am6 {s:bA} (h:e6 s):Ds s=s.l:=by
 obtain⟨E,G⟩:=Hi h s.t.length (ao9 _);rw[ar2] at E G;apply aw5;intro k
 by_cases Z:k < s.l.length
 .have ak:s.l[k]? =some s.l[k]:=ao7 Z;show(s.t.foldl iu _)[k]? =_;rw[G k Z];rcases h.B8 k _ ak with e |e
  .rw[ak,e,mu];rintro⟨c,J,ag⟩;rcases h.slot c _ ag with aS |aS |⟨x,aS,bG,_⟩
   .cases aS
   .cases aS
   .injection aS with _ aS
    injection aS with aS _
    have:k=x:=aA5
    subst this;rw[ak,e] at bG
    cases bG
  .rw[ak,e];have pB:=ak;rw[e] at pB;obtain⟨c,J⟩:=h.B9 k pB;rw[vj ⟨c,(ap6.1 J).1,J⟩]
 .rw[av7 (by show _<=k;unfold Ds;omega),av7 az7]
end
end Go.Proofs.YtgclhiekndohdaaGreat
