/-
A part of the proof of this claim: lemmas, with no condition beyond what each says.
-/
import Derived.Test.YtgclhiekndohdaaGreatZu5
set_option linter.all false
set_option maxRecDepth 100000
set_option maxHeartbeats 0
namespace Go.Proofs.YtgclhiekndohdaaGreat
open Go.RowKit Go.Proofs _root_.Go.Proofs.Tryz Tryz
section
section
variable {z R:Nat} {L:aH6} {aU:aH3} {db lb:Nat} {kd:Int} {gq:aI8} {dt pu:aI4} {m:Made} {es:gR} {M:fo}
abbrev kH (z R:Nat) (L:aH6) (es:gR) (M:fo) (aU:aH3) (db lb:Nat) (kd:Int) (gq:aI8) (dt pu:aI4) (m:Made):ay:=[hR z R L,xQ es M,(1401,.cells (IT z aU db lb kd gq dt pu m))]
def xS:Fn prog 88 [ap 1401] (kH z R L es M aU db lb kd gq dt pu m) [] g' (kH z R L es M aU db lb 0 .nilIface none none m):=by refine aP [] func88 ?_;exact⟨_,_,_,ac.trans (ac.Cb 1401 8 rfl rfl) (ac.Cb 1401 9 rfl rfl),rfl,trivial,aA,rfl⟩
def IV (k:Int) (T:Nat) (p:aI8):Fn prog 77 [ap 1401,ab k,.c (.one (.bK (.iface T p)))] (kH z R L es M aU db lb kd gq dt pu m) [] (ab 0) (kH z R L es M aU db lb k (.iface T p) dt pu m):=by refine aP [] func77 ?_;exact bb
def aob:Fn prog 18 [ap 1401] (kH z R L es M aU db lb kd gq dt pu m) [] (bN aU) (kH z R L es M aU db lb kd gq dt pu m):=by refine aP [] func18 ?_;exact bb
def aoc:Fn prog 58 [ap 1401] (kH z R L es M aU db lb kd gq dt pu m) [] (ab kd) (kH z R L es M aU db lb kd gq dt pu m):=by refine aP [] func58 ?_;exact bb
def aod:Fn prog 11 [ap 1401] (kH z R L es M aU db lb kd gq dt pu m) [] (ap 1001) (kH z R L es M aU db lb kd gq dt pu m):=by refine aP [] func11 ?_;exact bb
def aoe:Fn prog 25 [ap 1401] (kH z R L es M aU db lb kd gq dt pu m) [] (dd lb) (kH z R L es M aU db lb kd gq dt pu m):=by refine aP [] func25 ?_;exact bb
def aof:Fn prog 19 [ap 1401] (kH z R L es M aU db lb kd gq dt pu m) [] (dd db) (kH z R L es M aU db lb kd gq dt pu m):=by refine aP [] func19 ?_;exact bb
def aog (h:b6 z R L) (a l:Int):Fn prog 22 [ap 1401,ab a,ab l] (kH z R L es M aU db lb kd gq dt pu m) [] (.b4 [.one (.d (.b' .u8 (mH z L aU a l).1)),dw (mH z L aU a l).2]) (kH z R L es M aU db lb kd gq dt pu m):=by refine aP [] func22 ?_;exact av ((T5 h aU a l).ch) ⟨eG aE0,bb⟩
def Xv (q:Nat) (ch:a8) (B:ay) (h:ae B q=none) (c:Nat):ae (B++[(q,ch)]) c=ae ((q,ch)::B) c:=by
 simp only[h9,co]
 by_cases e:q=c
 .subst e;simp[h]
 .simp only[mu e]
  cases ae B c <;>rfl
def aoh {f:aI9} {args:List aN} {res:aN} (h:Fn prog f args [(1004,.az (.bt (gQ L)))] [] res [(1004,.az (.bt (gQ L)))]) (E:om 1001 [1002,1003,1004] args (bP z R L) [] [] []=true:=by first |rfl |decide)
  (G:oo 1001 (m8 [1002,1003,1004] [] []) res (bP z R L) []=true:=by first |rfl |decide):Fn prog f args [hR z R L] [] res [hR z R L]:=
 Fn.ch (Fn.Ce (Fn.qI [(1001,.cells (uw z R)),(1002,.map .str .aL (cW L)),(1003,.az (.bt (jU L)))] h rfl rfl) (fun c=>Xv 1004 _ [_,_,_] rfl c) (fun c=>Xv 1004 _ [_,_,_] rfl c)) E G
def O2 (h:b6 z R L) {d:aI} (H:dk L aU=some d):Fn prog 73 [ap 1401] (kH z R L es M aU db lb kd gq dt pu m) [] (ab (d.im.t.length:Nat)) (kH z R L es M aU db lb kd gq dt pu m):=by have ak:=h.toiI.M (cP H).1;refine aP [] func73 ?_;exact av ((jV _ _ L h.toiI aU d H).ch) <| av (aoh (h1 (nc d.im) ak rfl rfl rfl rfl)) ⟨eG aE0,bb⟩
structure d1 where
 kd:Int
 a:Int
 l:Int
 b:aH3
 nm:aH3
 gj:aH3
 ks:List WO
abbrev Xw (s:d1):List bA:=[.d (.int .i64 s.kd),.d (.int .i64 s.a),.d (.int .i64 s.l),.d (.b' .u8 s.b),.d (.str s.nm),.d (.str s.gj),.d (.b' WN s.ks)]
abbrev k8 (s:d1):aN:=.c (.agg (Xw s))
abbrev sl (s:d1):ay:=[(2,.cells [.ptr 1401 0]),(3,.cells (Xw s))]
abbrev IW (z R:Nat) (L:aH6) (es:gR) (M:fo) (aU:aH3) (db lb:Nat) (kd:Int) (gq:aI8) (dt pu:aI4) (m:Made) (s:d1):ay:=kH z R L es M aU db lb kd gq dt pu m++sl s
def aoi (h:b6 z R L) (s:d1) (O:s.b.length<=1000000000):Fn prog 67 [ap 2,ap 3] (IW z R L es M aU db lb kd gq dt pu m s) [] (ab (fw z L aU s.a s.b).e) (IW z R (fw z L aU s.a s.b).L es M aU db lb kd gq dt pu m s):=by refine aP [] func67 ?_;exact av ((MP h aU s.a s.b O).ch) ⟨eG aE0,bb⟩
end
end
section
abbrev j2 (z R:Nat) (L:aH6) (b:Nat) (j:lA):ay:=[hR z R L,(1501,.b5 1001 (Xo z b j))]
def Fn.q6 {f:aI9} {args:List aN} {z R:Nat} {L L':aH6} {res:aN} {b:Nat} {bq dI:ay} (h:Fn prog f (.c (.one (.ptr 2001 0))::args) (bP z R L++bq) [] res (bP z R L'++dI)) (Z:Lv 2001 1001 1501 args (bP z R L) bq res (bP z R L') dI=true)
  (E:om 1001 [1002,1003,1004] (.c (.one (.d (.aL (some b))))::args) (bP z R L) [(1501,.b5 1001 (ox b 2001 1001 bq))] [] []=true) (G:oo 1001 (m8 [1002,1003,1004] [] []) res (bP z R L') [(1501,.b5 1001 (ox b 2001 1001 dI))]=true):
  Fn prog f (.c (.one (.d (.aL (some b))))::args) [hR z R L,(1501,.b5 1001 (ox b 2001 1001 bq))] [] res [hR z R L',(1501,.b5 1001 (ox b 2001 1001 dI))]:=
 Fn.xR (h.aeL Z) E G
section
variable {z R:Nat} {L:aH6} {top base nm:aH3} {l:aH4} {over done:Bool} {b:Nat} {n rm:Int} {g:aH8}
def aoj (h:lO z R L top l):Fn prog 321 [dd b] (j2 z R L b (.dt top base l over)) [] (.b4 [.one (.d (.bool (e' z L top base l over).done)),dw (e' z L top base l over).e]) (j2 z R (e' z L top base l over).L b (.dt top base (e' z L top base l over).l (e' z L top base l over).over)):=
 Fn.q6 (bq:=tA ..) (dI:=tA ..) (h.Ns base over) rfl rfl rfl
def IX:Fn prog 320 [dd b] (j2 z R L b (.dt top base l over)) [] (gb over) (j2 z R L b (.dt top base l over)):=
 Fn.q6 (bq:=tA ..) (dI:=tA ..) (aiK z R L top base l over) rfl rfl rfl
def aok:Fn prog 319 [dd b] (j2 z R L b (.dt top base l over)) [] g' (j2 z R L b (.dt top base [] true)):=
 Fn.q6 (bq:=tA ..) (dI:=tA ..) (aiL z R L top base l over) rfl rfl rfl
def aol (h:b6 z R L) (a aX:Int) (vY:aX<=9223372036854775807) {d:aI} (H:dk L top=some d):Fn prog 122 [dd b,ab a,ab aX] (j2 z R L b (.dt top base l over)) [] g' (j2 z R L b (.dt top base (qS z L top l over a aX) over)):=
 Fn.q6 (bq:=tA ..) (dI:=tA ..) (aiV h base l over a aX vY H) rfl rfl rfl
def aom (h:b6 z R L) {d:aI} (H:dk L top=some d):Fn prog 332 [dd b] (j2 z R L b (.pl top base over)) [] (.b4 [.one (.d (.bool (h2 z L top base over).done)),dw (h2 z L top base over).e]) (j2 z R (h2 z L top base over).L b (.pl top base (h2 z L top base over).over)):=
 Fn.q6 (bq:=wt ..) (dI:=wt ..) (aka h base over H) rfl rfl rfl
def IY:Fn prog 331 [dd b] (j2 z R L b (.pl top base over)) [] (gb over) (j2 z R L b (.pl top base over)):=
 Fn.q6 (bq:=wt ..) (dI:=wt ..) (ajZ z R L top base over) rfl rfl rfl
def aon:Fn prog 330 [dd b] (j2 z R L b (.pl top base over)) [] g' (j2 z R L b (.pl top base true)):=
 Fn.q6 (bq:=wt ..) (dI:=wt ..) (aj0 z R L top base over) rfl rfl rfl
def aoo (h:f2 z R L nm l g):Fn prog 328 [dd b] (j2 z R L b (.pu nm n rm l g over done)) [] (.b4 [.one (.d (.bool (kf z L nm rm l g over done).ux)),dw (kf z L nm rm l g over done).e])
  (j2 z R L b (.pu nm n rm (kf z L nm rm l g over done).l (kf z L nm rm l g over done).g (kf z L nm rm l g over done).over (kf z L nm rm l g over done).done)):=
 Fn.q6 (bq:=nV ..) (dI:=nV ..) (h.Ns n rm over done) rfl rfl rfl
def O3:Fn prog 327 [dd b] (j2 z R L b (.pu nm n rm l g over done)) [] (gb over) (j2 z R L b (.pu nm n rm l g over done)):=
 Fn.q6 (bq:=nV ..) (dI:=nV ..) (ajr z R L nm n rm l g over done) rfl rfl rfl
def Xx:Fn prog 86 [dd b] (j2 z R L b (.pu nm n rm l g over done)) [] (gb done) (j2 z R L b (.pu nm n rm l g over done)):=
 Fn.q6 (bq:=nV ..) (dI:=nV ..) (ajs z R L nm n rm l g over done) rfl rfl rfl
def aop:Fn prog 235 [dd b] (j2 z R L b (.pu nm n rm l g over done)) [] g' (j2 z R L b (.pu nm n rm [] g true done)):=
 Fn.q6 (bq:=nV ..) (dI:=nV ..) (US z R L nm n rm l g over done) rfl rfl rfl
def aoq (h:f2 z R L nm l g) (a aX:Int) (G:aX<=9223372036854775807):Fn prog 120 [dd b,ab a,ab aX] (j2 z R L b (.pu nm n rm l g over done)) [] (ab (kg z L nm rm a aX l g over).e)
  (j2 z R L b (.pu nm n rm (kg z L nm rm a aX l g over).l (kg z L nm rm a aX l g over).g (kg z L nm rm a aX l g over).over done)):=
 Fn.q6 (bq:=nV ..) (dI:=nV ..) (h.ajN n rm over done a aX G) rfl rfl rfl
def Xy (h:f2 z R L nm l g):Fn prog 142 [dd b] (j2 z R L b (.pu nm n rm l g over true)) [] (.b4 [.one (.d (.b' uC (oE g))),.one (.d (.int .i64 n)),.one (.d (.bool true))]) (j2 z R L b (.pu nm n rm l g over true)):=
 Fn.q6 (bq:=nV ..) (dI:=nV ..) (h.ajO n rm over) rfl rfl rfl
end
end
section
def sm (z:Nat) (L:aH6) (a aX:Int):lA->lA
 | .pu nm n rm l g over done=>if(kg z L nm rm a aX l g over).e=0 then .pu nm n rm (kg z L nm rm a aX l g over).l (kg z L nm rm a aX l g over).g (kg z L nm rm a aX l g over).over done else .no
 |j=>j
def E1 (z:Nat) (L:aH6) (a aX:Int):lA->lA
 | .dt top base l over=>.dt top base (qS z L top l over a aX) over
 |j=>j
def E2 (a aX:Int) (j:lA) (en:Option (Nat×E0)):Option (Nat×E0):=match xO 0 j with
 |none=>en
 |some _=>en.map fun p=>(p.1,p.2.1,p.2.2.1,lP p.2.1 p.2.2.1 p.2.2.2 a aX)
def hz (w:bQ) (a aX:Int) (r:nK):bQ:=if r.e=0 then {w with L:=r.L,ds:=w.ds.map (j1 a aX),bO:=E1 w.z r.L a aX (sm w.z w.L a aX w.bO),bS:={w.bS with en:=E2 a aX (sm w.z w.L a aX w.bO) w.bS.en}} else {w with L:=r.L,bO:=sm w.z w.L a aX w.bO}
def xT (z R:Nat) (L:aH6) (aU:aH3):lA->Prop
 | .no=>True
 | .dt top base l over=>top=aU/\over=false/\lO z R L top l
 | .pl top base over=>top=aU/\over=false
 | .pu nm n rm l g over done=>nm=aU/\over=false/\done=false/\n=((b7 L aU:Nat):Int)/\f2 z R L nm l g
def aor (q b:Nat) (s g:Int) (es:aH5) (a aX:Int) (aw:0<=s/\s<=4096) (aV:1<=g/\g<=64):Fn prog 123 [dd b,ab a,ab aX] [(1601,.az (.bt [(b,fi s g es)]))] [] (ab (if v1 s a aX then 0 else 1)) [(1601,.az (.bt [(b,fi s g (lP s g es a aX))]))]:=
 Fn.ow [1002] 1601 (Nx s g es a aX aw aV)
abbrev IZ (w:bQ) (s:d1) (f:Nat) (r:nK):Prop:= ∀(kd:Int) (gq:aI8) (dt pu:aI4),Fn prog f [ap 2,ap 3] (IW w.z w.R w.L w.es w.M w.aU w.db w.lb kd gq dt pu w.bS s) [] (ab r.e) (IW w.z w.R r.L w.es w.M w.aU w.db w.lb kd gq dt pu w.bS s)
def Xz (w:bQ) (s:d1) (f:Nat) (a aX:Int) (r:nK) (V:w.bO= .no\/ ∃top base over,w.bO= .pl top base over) (jw:eA w.ds) (hf:IZ w s f r):
  Fn prog 66 [ap 1401,ab a,ab aX,.c (.one (.c2 f [.p 2 0,.p 3 0]))] (cV w++sl s) [] (ab r.e) (cV (hz w a aX r)++sl s):=by
 obtain⟨z,R,L,aU,db,ds,es,M,lb,Q,b,bO,bS⟩:=w;simp only at V jw;have hw:=Fn.ow (b:=db) [1002,1003,1004] 1101 (OZ jw a aX);have af:Cc b bO=none:=by rcases V with rfl |⟨_,_,_,rfl⟩ <;>rfl
 have ao:xO b bO=none:=by rcases V with rfl |⟨_,_,_,rfl⟩ <;>rfl
 have br:sm z L a aX bO=bO:=by rcases V with rfl |⟨_,_,_,rfl⟩ <;>rfl
 have c0:E1 z r.L a aX bO=bO:=by rcases V with rfl |⟨_,_,_,rfl⟩ <;>rfl
 have ft:E2 a aX bO bS.en=bS.en:=by rcases V with rfl |⟨_,_,_,rfl⟩ <;>rfl
 have hf:=hf (xP bO) (sk b bO) (Cc b bO) (xO b bO)
 by_cases U:r.e=0
 .have o7:hz ⟨z,R,L,aU,db,ds,es,M,lb,Q,b,bO,bS⟩ a aX r=⟨z,R,r.L,aU,db,ds.map (j1 a aX),es,M,lb,Q,b,bO,bS⟩:=by
   unfold hz;simp only[br,c0,ft,vj U]
  rw[o7];refine aP [] func66 ?_;refine⟨fun _ h=>(by rw[ao] at h;cases h),fun _=>av hf ⟨fun h=>at1 h aG8,fun h=>av hw ?_⟩⟩;refine⟨fun _ h=>(by rw[af] at h;cases h),fun _=>?_⟩;exact⟨fun _ h=>(by rw[ao] at h;cases h),fun _=>ea bn rfl U.symm⟩
 .have o7:hz ⟨z,R,L,aU,db,ds,es,M,lb,Q,b,bO,bS⟩ a aX r=⟨z,R,r.L,aU,db,ds,es,M,lb,Q,b,bO,bS⟩:=by
   unfold hz;simp only[br,mu U]
  rw[o7];refine aP [] func66 ?_;exact⟨fun _ h=>(by rw[ao] at h;cases h),fun _=>av hf ⟨fun h=>bb,fun h=>at1 h aG8⟩⟩
def aos (w:bQ) (s:d1) (f:Nat) (a aX:Int) (r:nK) {top base:aH3} {l:aH4} {over:Bool} (V:w.bO= .dt top base l over) (jw:eA w.ds) (fC:b6 w.z w.R r.L) {d:aI} (H:dk r.L top=some d) (vY:aX<=9223372036854775807) (hf:IZ w s f r):
  Fn prog 66 [ap 1401,ab a,ab aX,.c (.one (.c2 f [.p 2 0,.p 3 0]))] (cV w++sl s) [] (ab r.e) (cV (hz w a aX r)++sl s):=by
 obtain⟨z,R,L,aU,db,ds,es,M,lb,Q,b,bO,bS⟩:=w;simp only at V jw fC;subst V;have hw:=Fn.ow (b:=db) [1002,1003,1004] 1101 (OZ jw a aX);have aC:=aol (b:=b) (base:=base) (l:=l) (over:=over) fC a aX vY H;have hf:=hf 1 (sk b (.dt top base l over)) (some b) none
 by_cases U:r.e=0
 .have o7:hz ⟨z,R,L,aU,db,ds,es,M,lb,Q,b,.dt top base l over,bS⟩ a aX r=⟨z,R,r.L,aU,db,ds.map (j1 a aX),es,M,lb,Q,b,.dt top base (qS z r.L top l over a aX) over,bS⟩:=by
   unfold hz;simp only[vj U,sm,E1,E2,xO]
  rw[o7];refine aP [] func66 ?_;exact⟨fun _ h=>aE7,fun _=>av hf ⟨fun h=>at1 h aG8,fun h=>av hw ⟨fun _ _=>av aC ⟨fun _ h=>aE7,fun _=>ea bn rfl U.symm⟩,fun h=>aE7⟩⟩⟩
 .have o7:hz ⟨z,R,L,aU,db,ds,es,M,lb,Q,b,.dt top base l over,bS⟩ a aX r=⟨z,R,r.L,aU,db,ds,es,M,lb,Q,b,.dt top base l over,bS⟩:=by
   unfold hz;simp only[mu U,sm]
  rw[o7];refine aP [] func66 ?_;exact⟨fun _ h=>aE7,fun _=>av hf ⟨fun h=>bb,fun h=>at1 h aG8⟩⟩
def aot (w:bQ) (s:d1) (f:Nat) (a aX:Int) (r:nK) {nm:aH3} {n rm:Int} {l:aH4} {g:aH8} {over done:Bool} (V:w.bO= .pu nm n rm l g over done) (jw:eA w.ds) (ag:f2 w.z w.R w.L nm l g) (vY:aX<=9223372036854775807)
  (zs: ∀p,w.bS.en=some p->(0<=p.2.1/\p.2.1<=4096)/\1<=p.2.2.1/\p.2.2.1<=64) (hf:IZ w s f r):
  Fn prog 66 [ap 1401,ab a,ab aX,.c (.one (.c2 f [.p 2 0,.p 3 0]))] (cV w++sl s) [] (ab r.e) (cV (hz w a aX r)++sl s):=by
 obtain⟨z,R,L,aU,db,ds,es,M,lb,Q,b,bO,bS⟩:=w;simp only at V jw ag zs;subst V;have hw:=Fn.ow (b:=db) [1002,1003,1004] 1101 (OZ jw a aX);have O:=aoq (b:=b) (n:=n) (rm:=rm) (over:=over) (done:=done) ag a aX vY;have K5:sm z L a aX (.pu nm n rm l g over done)=if(kg z L nm rm a aX l g over).e=0 then .pu nm n rm (kg z L nm rm a aX l g over).l (kg z L nm rm a aX l g over).g (kg z L nm rm a aX l g over).over done else .no:=rfl
 unfold hz;simp only[K5];generalize kg z L nm rm a aX l g over=y at*
 by_cases aD:y.e=0
 .have hf:=hf 3 (sk b (.pu nm n rm l g over done)) none (some b);simp only[vj aD]
  by_cases U:r.e=0
  .simp only[vj U];obtain⟨f0,eK,en⟩:=bS
   cases en with
   |none=>
    show Fn _ _ _ _ _ _ (cV ⟨z,R,r.L,aU,db,ds.map (j1 a aX),es,M,lb,Q,b,.pu nm n rm y.l y.g y.over done,⟨f0,eK,none⟩⟩++sl s);refine aP [] func66 ?_;exact⟨fun _ _=>av O ⟨fun h=>at1 h (by simp[aD]),fun _=>av hf ⟨fun h=>at1 h aG8,fun h=>av hw ⟨fun _ h=>aE7,fun _=>⟨fun _ _=>⟨fun _ h=>aE7,fun _=>ea bn rfl U.symm⟩,fun h=>aE7⟩⟩⟩⟩,fun h=>aE7⟩
   |some p=>
    obtain⟨kk,aR,O4,XA⟩:=p;obtain⟨cl,cY⟩:=zs _ rfl;have aw:=aor 1601 kk aR O4 XA a aX cl cY;show Fn _ _ _ _ _ _ (cV ⟨z,R,r.L,aU,db,ds.map (j1 a aX),es,M,lb,Q,b,.pu nm n rm y.l y.g y.over done,⟨f0,eK,some (kk,aR,O4,lP aR O4 XA a aX)⟩⟩++sl s);refine aP [] func66 ?_;exact⟨fun _ _=>av O ⟨fun h=>at1 h (by simp[aD]),fun _=>av hf ⟨fun h=>at1 h aG8,fun h=>av hw ⟨fun _ h=>aE7,fun _=>⟨fun _ _=>⟨fun _ _=>av aw <| ea bn rfl U.symm,fun h=>aE7⟩,fun h=>aE7⟩⟩⟩⟩,fun h=>aE7⟩
  .simp only[mu U];refine aP [] func66 ?_;exact⟨fun _ _=>av O ⟨fun h=>at1 h (by simp[aD]),fun _=>av hf ⟨fun h=>bb,fun h=>at1 h aG8⟩⟩,fun h=>aE7⟩
 .have hf:=hf 0 .nilIface none none;have aV:=xS (z:=z) (R:=R) (L:=L) (aU:=aU) (db:=db) (lb:=lb) (kd:=3) (gq:=sk b (.pu nm n rm l g over done)) (dt:=none) (pu:=some b) (m:=bS) (es:=es) (M:=M);simp only[mu aD]
  by_cases U:r.e=0
  .simp only[vj U];show Fn _ _ _ _ _ _ (cV ⟨z,R,r.L,aU,db,ds.map (j1 a aX),es,M,lb,Q,b,.no,bS⟩++sl s);refine aP [3] func66 ?_;exact⟨fun _ _=>av O ⟨fun _=>av aV <| bw [] (ac.tz 1501 1001 rfl) <| av hf ⟨fun h=>at1 h aG8,fun h=>av hw ⟨fun _ h=>aE7,fun _=>⟨fun _ h=>aE7,fun _=>ea bn rfl U.symm⟩⟩⟩,fun h=>at1 h (by simp[aD])⟩,fun h=>aE7⟩
  .simp only[mu U];refine aP [3] func66 ?_;exact⟨fun _ _=>av O ⟨fun _=>av aV <| bw [] (ac.tz 1501 1001 rfl) <| av hf ⟨fun h=>bb,fun h=>at1 h aG8⟩,fun h=>at1 h (by simp[aD])⟩,fun h=>aE7⟩
end
section
structure sn (L:aI5):Prop extends oK L where
 O5:sj L
end
section
def I0 (es:gR) (k:aH3) (a:aI4):iY (mN es k a) k=a/\ ∀j,j≠k->iY (mN es k a) j=iY es j:=by
 obtain⟨E,G⟩:=yR (aF:=.str) (aJ:=.aL) qD (k:aa .str) (a:aa .aL) es;refine⟨?_,fun j V=>?_⟩
 .show((bX (aF:=.str) (aJ:=.aL) (dp (aF:=.str) (aJ:=.aL) es k a) k).getD (cO .aL))=a;rw[E];rfl
 .show((bX (aF:=.str) (aJ:=.aL) (dp (aF:=.str) (aJ:=.aL) es k a) j).getD (cO .aL))=_;rw[G j V];rfl
def XB {es:gR} (h:ff es) (k:aH3):iY (j0 es k) k=none/\ ∀j,j≠k->iY (j0 es k) j=iY es j:=by
 obtain⟨E,G⟩:=DB (aF:=.str) (aJ:=.aL) qD (k:aa .str) es h;refine⟨?_,fun j V=>?_⟩
 .show((bX (aF:=.str) (aJ:=.aL) (gN (aF:=.str) (aJ:=.aL) es k) k).getD (cO .aL))=none;rw[E];rfl
 .show((bX (aF:=.str) (aJ:=.aL) (gN (aF:=.str) (aJ:=.aL) es k) j).getD (cO .aL))=_;rw[G j V];rfl
def aou {es:gR} (h:ff es) (G: ∀p,p∈es->wk p=uK\/wk p=gB):es.length<=2:=by
 match es,h,G with
 | [],_,_=>exact at6 _
 | [_],_,_=>exact Nat.le_succ 1
 | [_,_],_,_=>exact at0 _
 |x::y::aH::l,h,G=>
  exfalso
  have ne: ∀{p q:aa .str×aa .aL},fT .str p.1 q.1=false->wk p≠wk q:=fun {p q} e bd=>by
   have:fT .str p.1 q.1=true:=(qD p.1 q.1).2 bd;rw[e] at this
   cases this
  obtain⟨bM,bU⟩:=List.pairwise_cons.1 h;obtain⟨b1,b2⟩:=List.pairwise_cons.1 bU;have cC:=ne (bM y aD9);have dg:=ne (bM aH aD9);have jd:=ne (b1 aH aD9);rcases G x aD9 with af |af <;>rcases G y aD9 with ao |ao <;>rcases G aH aD9 with br |br <;>simp_all
structure qh (es:gR) (M:fo) (Q:aI5):Prop where
 iw:ff es
 two: ∀p,p∈es->wk p=uK\/wk p=gB
 bt:uI es M 0
 aov: ∀p,p∈M->p.2.jy=[]/\p.2.we=p.2.ca
 b':(iY es uK=none/\Q=[])\/ ∃a m,iY es uK=some a/\jZ M a=some m/\W7 m 512 4096 (kF Q)/\((kF Q).length:Int)<=dU 512*16
def XC:(uK:aH3)≠gB:=by decide
def aow {M:fo} {a:Nat} {m:cN} (h:jZ M a=some m):a∈M.map (·.1):=aw1 (f:=fun p:Nat×cN=>p.1) (WP h)
def qh.aox {es:gR} {M:fo} {Q:aI5} (h:qh es M Q):iY (j0 es gB) gB=none/\(j0 es gB).length < 16/\ ∀b,iY (mN (j0 es gB) gB (some b)) gB=some b:=by
 have G:(j0 es gB).length<=2:=aou (ff.nC h.iw) fun p ag=>h.two p (yS ag)
 exact⟨(XB h.iw gB).1,aD7,fun b=>(I0 _ _ _).1⟩
def qh.aoy {es:gR} {M:fo} {Q Q':aI5} (h:qh es M Q) {b:Nat} (O:b∉M.map (·.1)):qh (wo 512 es Q' b) ((b,uL 512 4096 Q' b)::M) (if xM 512 Q'=0 then Q' else Q):=by
 have cl:ff (j0 es gB):=ff.nC h.iw;have cY:ff (mN (j0 es gB) gB (some b)):=ff.put qD cl
 have q7: ∀p,p∈mN (j0 es gB) gB (some b)->wk p=uK\/wk p=gB:=fun p ag=>by
  rcases EX ag with rfl |ag
  .exact .inr rfl
  .exact h.two p (yS ag)
 have hf: ∀m,(m=uL 512 4096 Q' b)-> ∀p,p∈((b,m)::M:fo)->m.jy=[]/\m.we=m.ca->p.2.jy=[]/\p.2.we=p.2.ca:=fun m _ p ag aC=>by
  rcases at7.1 ag with rfl |ag
  .exact aC
  .exact h.aov p ag
 by_cases J:((kF Q').length:Int)<=dU 512*16
 .have pF:=anG (n:=512) (R:=4096) rfl aD8 aD8 J;have af:xM 512 Q'=0:=vj J;have ao:wo 512 es Q' b=_:=vj J;have br:uL 512 4096 Q' b=_:=vj J;have ag:=(h.bt.nC gB).add (k:=gB) (m:=wn 512 4096 (kF Q')) O pF.ok (by rw[pF.lo];exact at0 _);have g1:=(I0 (j0 es gB) gB (some b)).1;rw[af,vj rfl,ao,br];refine⟨ff.put qD (ff.nC cY),fun p ag=>?_,ag.aT g1,fun p ag=>hf _ br.symm p ag ⟨pF.lo,pF.anF⟩,.inr ⟨b,_,(I0 _ _ _).1,vj rfl,pF,J⟩⟩;rcases EX ag with rfl |ag
  .exact .inl rfl
  .exact q7 p (yS ag)
 .have af:xM 512 Q'=1:=mu J;have ao:wo 512 es Q' b=_:=mu J;have br:uL 512 4096 Q' b=_:=mu J;have ag:=(h.bt.nC gB).add (k:=gB) (m:=k6 512 4096) O (hQ.new rfl) (at0 _);rw[af,mu aD8,ao,br];refine⟨cY,q7,ag,fun p ag=>hf _ br.symm p ag ⟨rfl,rfl⟩,?_⟩;have g1:iY (mN (j0 es gB) gB (some b)) uK=iY es uK:=((I0 _ _ _).2 _ XC).trans ((XB h.iw _).2 _ XC);rw[g1];rcases h.b' with E |⟨a,m,E,G,ah⟩
  .exact .inl E
  .refine .inr ⟨a,m,E,?_,ah⟩;rw[zJ,mu (fun e=>O (by have e:b=a:=e;rw[e];exact aow G))];exact G
def tB:lA->Bool
 | .pu .. =>true
 |_=>false
structure lU (w:bQ):Prop where
 cs:b6 w.z w.R w.L
 kd:(dk w.L w.aU).isSome=true
 ds:eA w.ds
 d9: ∀e,e∈w.ds->xH e/\e.s=((b7 w.L w.aU*2 ^w.z:Nat):Int)
 q:sn w.Q
 qi:qh w.es w.M w.Q
 en: ∀p,w.bS.en=some p->p.2.1=((b7 w.L w.aU*2 ^w.z:Nat):Int)/\p.2.2.1=1/\ff p.2.2.2
structure eU (w:bQ):Prop extends lU w where
 bO:xT w.z w.R w.L w.aU w.bO
 r9:tB w.bO=true->gZ (er w.bS.f0)=true
end
section
def aoz (w:bQ) (ax:eU w) (s:d1) (f:Nat) (a aX:Int) (r:nK) (al:iV w.L w.aU r.L) (vY:aX<=9223372036854775807) (hf:IZ w s f r):
  Fn prog 66 [ap 1401,ab a,ab aX,.c (.one (.c2 f [.p 2 0,.p 3 0]))] (cV w++sl s) [] (ab r.e) (cV (hz w a aX r)++sl s):=by
 have V:=ax.bO
 cases h:w.bO with
 |no=>exact Xz w s f a aX r (.inl h) ax.ds hf
 |pl t b o=>exact Xz w s f a aX r (.inr ⟨t,b,o,h⟩) ax.ds hf
 |dt t b l o=>
  rw[h] at V;obtain⟨E,G,ah⟩:=V;obtain⟨d,H⟩:=aw9.1 (show(dk r.L t).isSome=true by rw[(al.aR t).2];exact ah.iw);exact aos w s f a aX r h ax.ds (al.cs ax.cs) H vY hf
 |pu nm n rm l g o ux=>
  rw[h] at V;obtain⟨E,G,ah,aS,bB⟩:=V
  exact aot w s f a aX r h ax.ds bB vY (fun p ag=>by
   obtain⟨cl,cY,_⟩:=ax.en p ag;have O:=ax.cs.b3;obtain⟨d,H⟩:=aw9.1 ax.kd;have aoA:=(ax.cs.fK d (cP H).1).1.ez;have aw:b7 w.L w.aU=d.im.t.length:=aF1
   have h6:2 ^w.z<=2 ^3:=aB0 aD8 O;have aC:b7 w.L w.aU*2 ^w.z<=256*8:=ay8 aD7 h6;rw[cl,cY];omega) hf
def aoB (w:bQ) (ax:eU w) (s:d1) (O:s.b.length<=1000000):Fn prog 28 [ap 1401,k8 s] (cV w) [] (ab (fw w.z w.L w.aU s.a s.b).e) (cV (hz w s.a ((s.b.length:Int)/16) (fw w.z w.L w.aU s.a s.b))):=by
 have J:=aoz w ax s 67 s.a ((s.b.length:Int)/16) (fw w.z w.L w.aU s.a s.b) (xm ax.cs _ _ _) aD7 (fun _ _ _ _=>aoi ax.cs s aD7);generalize fw w.z w.L w.aU s.a s.b=r at J⊢;generalize hz w s.a ((s.b.length:Int)/16) r=w' at J⊢;generalize r.e=e at J⊢;refine aP [] func28 ?_;refine⟨rfl,rfl,?_⟩;have cr:0<=((s.b.length:Nat):Int)/\(0:Int) < 16:=aE5
 have cv: -9223372036854775808<=((s.b.length:Nat):Int)/16/\((s.b.length:Nat):Int)/16<=9223372036854775807:=aE5
 exact⟨cr,cv,av J bb⟩
def O6:lA->Bool
 | .dt .. =>true
 |_=>false
end
section
def py:lA->Bool
 | .no=>true
 |_=>false
def I1 {j:lA} (h:py j=false) (b:Nat): ∃T,sk b j=IS T b:=by cases j <;>first |(cases h;done) |exact⟨_,rfl⟩
def d2 (w:bQ):Nat:=b7 w.L w.aU
def lU.dk {w:bQ} (h:lU w): ∃d,Go.Proofs.YtgclhiekndohdaaGreat.dk w.L w.aU=some d/\d.im.t.length=d2 w:=by obtain⟨d,H⟩:=aw9.1 h.kd;exact⟨d,H,by unfold d2 b7;rw[H]⟩
def eU.dk {w:bQ} (h:eU w): ∃d,Go.Proofs.YtgclhiekndohdaaGreat.dk w.L w.aU=some d/\d.im.t.length=d2 w:=h.tolU.dk
def aoC (w:bQ) (s:d1) (V:py w.bO=false):Fn prog 31 [ap 1401,k8 s] (cV w) [] (ab 143) (cV w):=by obtain⟨T,bR⟩:=I1 V w.b;refine aP [] func31 ?_;refine⟨rfl,bm (fun N=>GY rfl underlying79 (by exact at2 (fun v=>aN.c (.one (.bK v))) bR) N) ?_⟩;exact bb
def XD (z R:Nat) (L:aH6) (nm:aH3) (size:Int) (back:aH3) (p:aJ9):(ij z R L nm size back p).e=(ij z R L nm size back (0,0)).e:=by
 unfold ij
 repeat' split
 all_goals rfl
def XE {z R:Nat} {L:aH6} (h:b6 z R L) (nm:aH3) (size:Int) (back:aH3) (al:nm.length<=4294967296):
  Fn prog 62 [ap 1001,bN nm,ab size,bN back] [hR z R L] [] (ab (ij z R L nm size back (0,0)).e) [(1001,.az (.jk fun p:{p:Nat×Nat//b6 z R (ij z R L nm size back p).L}=>IU z R (ij z R L nm size back p.1).L))]:=by
 have E:=aic h nm size back al;simp only[XD] at E;exact cD.jk (aO:=[]) (cD.Xt (aK:=[]) (aO:=fun _=>[]) (by simp only[av2];exact E) rfl fun _=>rfl)
abbrev nW (bo:Int->bQ->Prop):Type:={p:Int×bQ//bo p.1 p.2}
def XF (w:bQ) (s:d1) (e:Int) (w':bQ):Prop:= ∃p:Nat×Nat,b6 w.z w.R (ij w.z w.R w.L s.nm ((d2 w:Nat):Int) w.aU p).L/\e=(ij w.z w.R w.L s.nm ((d2 w:Nat):Int) w.aU p).e/\
 ((e=0/\w'={w with L:=(ij w.z w.R w.L s.nm ((d2 w:Nat):Int) w.aU p).L,aU:=s.nm})\/(e≠0/\w'={w with L:=(ij w.z w.R w.L s.nm ((d2 w:Nat):Int) w.aU p).L}))
def aoD (w:bQ) (ax:eU w) (s:d1) (V:w.bO= .no) (al:s.nm.length<=1000000):cD prog 31 [ap 1401,k8 s] (cV w) [] (X:=nW (XF w s)) (fun p=>ab p.1.1) (fun p=>cV p.1.2):=by
 obtain⟨d,H,aM⟩:=ax.dk;have cA:=O2 (db:=w.db) (lb:=w.lb) (kd:=xP w.bO) (gq:=sk w.b w.bO) (dt:=Cc w.b w.bO) (pu:=xO w.b w.bO) (m:=w.bS) (es:=w.es) (M:=w.M) ax.cs H;rw[aM] at cA;have zQ:=XE ax.cs s.nm ((d2 w:Nat):Int) w.aU aD7;have bR:sk w.b w.bO= .nilIface:=by rw[V];rfl
 refine ia [3,4] func31 ?_;refine⟨rfl,bm (fun N=>qE rfl underlying79 (by exact at2 (fun v=>aN.c (.one (.bK v))) bR) N) ?_⟩;refine bG.nB 73 aD8 <| bw [4] (bn) <| w2 rfl rfl rfl cA <| av zQ ⟨eG aE0,bG.fW (dF.jk 1001 rfl) fun g=>?_⟩;obtain⟨p,ag⟩:=g;have IQ:=XD w.z w.R w.L s.nm ((d2 w:Nat):Int) w.aU p;refine bw [] (bn) ⟨fun h=>?_,fun h=>?_⟩
 .have h:=gd h;exact⟨⟨(_,{w with L:=(ij w.z w.R w.L s.nm ((d2 w:Nat):Int) w.aU p).L,aU:=s.nm}),p,ag,IQ.symm,.inl ⟨h,rfl⟩⟩,_,_,_,bn,rfl,rfl,aA,rfl⟩
 .have h:=oj h;exact⟨⟨(_,{w with L:=(ij w.z w.R w.L s.nm ((d2 w:Nat):Int) w.aU p).L}),p,ag,IQ.symm,.inr ⟨h,rfl⟩⟩,_,_,_,bn,rfl,rfl,aA,rfl⟩
def aoE (w:bQ) (s:d1) (V:py w.bO=false):Fn prog 33 [ap 1401,k8 s] (cV w) [] (ab 143) (cV w):=by obtain⟨T,bR⟩:=I1 V w.b;refine aP [] func33 ?_;refine⟨rfl,bm (fun N=>GY rfl underlying79 (by exact at2 (fun v=>aN.c (.one (.bK v))) bR) N) ?_⟩;exact bb
def aoF (w:bQ) (s:d1) (V:py w.bO=false):Fn prog 34 [ap 1401,k8 s] (cV w) [] (ab 143) (cV w):=by obtain⟨T,bR⟩:=I1 V w.b;refine aP [] func34 ?_;refine⟨rfl,bm (fun N=>GY rfl underlying79 (by exact at2 (fun v=>aN.c (.one (.bK v))) bR) N) ?_⟩;exact bb
def aoG (w:bQ) (s:d1) (V:py w.bO=false):Fn prog 35 [ap 1401,k8 s] (cV w) [] (ab 143) (cV w):=by obtain⟨T,bR⟩:=I1 V w.b;refine aP [] func35 ?_;refine⟨rfl,bm (fun N=>GY rfl underlying79 (by exact at2 (fun v=>aN.c (.one (.bK v))) bR) N) ?_⟩;exact bb
def XG (w:bQ) (e:Int) (w':bQ):Prop:=e=oD w.L w.aU/\((e=0/\ ∃b,w'={w with b:=b,bO:=.dt w.aU (fh w.L w.aU).1 (uA w.L w.aU) false})\/(e≠0/\w'=w))
def aoH (w:bQ) (ax:eU w) (s:d1) (V:w.bO= .no):cD prog 33 [ap 1401,k8 s] (cV w) [] (X:=nW (XG w)) (fun p=>ab p.1.1) (fun p=>cV p.1.2):=by
 have fC:=ax.cs;obtain⟨z,R,L,aU,db,ds,es,M,lb,Q,eF,bO,bS⟩:=w;simp only at V fC;subst V
 by_cases U:oD L aU=0
 .have O:=Fn.xR (aK:=[]) (aO:=tA aU (fh L aU).1 (uA L aU) false) (aiP fC aU U) rfl rfl;refine ia [6] func33 ?_;refine⟨rfl,bm (qE rfl underlying79 rfl) ?_⟩;refine av O ⟨eG aE0,dh <| bG.fW (dF.mark 2001 2009 rfl aD8) fun b=>bG.le (ac.GW 5 2001 2009 b rfl rfl) <| bw [] (ac.IR 1501 2001 1001 2009 b (tA aU (fh L aU).1 (uA L aU) false) rfl rfl aA rfl) <| bm (GX rfl underlying80 rfl) ?_⟩;exact av (IV (z:=z) (R:=R) (L:=L) (aU:=aU) (db:=db) (lb:=lb) (kd:=0) (gq:=.nilIface) (dt:=some b) (pu:=none) (m:=bS) (es:=es) (M:=M) 1 80 (.pointer (some ⟨b,0,none⟩))) ⟨⟨(0,⟨z,R,L,aU,db,ds,es,M,lb,Q,b,.dt aU (fh L aU).1 (uA L aU) false,bS⟩),U.symm,.inl ⟨rfl,b,rfl⟩⟩,_,_,_,bn,rfl,rfl,aA,rfl⟩
 .have O:=Fn.ch (aiM fC aU U);refine ia [] func33 ?_;refine⟨rfl,bm (qE rfl underlying79 rfl) ?_⟩;exact av O ⟨eG aE0,fun h=>⟨⟨(oD L aU,⟨z,R,L,aU,db,ds,es,M,lb,Q,eF,.no,bS⟩),rfl,.inr ⟨U,rfl⟩⟩,_,_,_,bn,rfl,rfl,aA,rfl⟩,fun h=>at1 h aG8⟩
def XH (w:bQ) (s:d1) (e:Int) (w':bQ):Prop:=e=uD w.L w.aU s.gj/\((e=0/\ ∃b,w'={w with b:=b,bO:=.pl w.aU s.gj false})\/(e≠0/\w'=w))
def aoI (w:bQ) (ax:eU w) (s:d1) (V:w.bO= .no):cD prog 34 [ap 1401,k8 s] (cV w) [] (X:=nW (XH w s)) (fun p=>ab p.1.1) (fun p=>cV p.1.2):=by
 have fC:=ax.cs;obtain⟨z,R,L,aU,db,ds,es,M,lb,Q,eF,bO,bS⟩:=w;simp only at V fC;subst V
 by_cases U:uD L aU s.gj=0
 .have O:=Fn.xR (aK:=[]) (aO:=wt aU s.gj false) (ajY fC aU s.gj U) rfl rfl;refine ia [6] func34 ?_;refine⟨rfl,bm (qE rfl underlying79 rfl) ?_⟩;refine av O ⟨eG aE0,dh <| bG.fW (dF.mark 2001 2009 rfl aD8) fun b=>bG.le (ac.GW 5 2001 2009 b rfl rfl) <| bw [] (ac.IR 1501 2001 1001 2009 b (wt aU s.gj false) rfl rfl aA rfl) <| bm (GX rfl underlying143 rfl) ?_⟩;exact av (IV (z:=z) (R:=R) (L:=L) (aU:=aU) (db:=db) (lb:=lb) (kd:=0) (gq:=.nilIface) (dt:=none) (pu:=none) (m:=bS) (es:=es) (M:=M) 2 143 (.pointer (some ⟨b,0,none⟩))) ⟨⟨(0,⟨z,R,L,aU,db,ds,es,M,lb,Q,b,.pl aU s.gj false,bS⟩),U.symm,.inl ⟨rfl,b,rfl⟩⟩,_,_,_,bn,rfl,rfl,aA,rfl⟩
 .have O:=Fn.ch (ajW fC aU s.gj U);refine ia [] func34 ?_;refine⟨rfl,bm (qE rfl underlying79 rfl) ?_⟩;exact av O ⟨eG aE0,fun h=>⟨⟨(uD L aU s.gj,⟨z,R,L,aU,db,ds,es,M,lb,Q,eF,.no,bS⟩),rfl,.inr ⟨U,rfl⟩⟩,_,_,_,bn,rfl,rfl,aA,rfl⟩,fun h=>at1 h aG8⟩
end
section
def so (l:aI1) (nm:aH3):Int:=if gZ nm=false then 1 else if(dE l nm).isSome=true\/8<=l.length then 111 else 0
def Cf (l:aI1) (nm:aH3) (on us:Bool) (s g:Int) (es:aH5) (l':aI1):Prop:=eA l'/\((so l nm=0/\gZ nm=true/\dE l nm=none/\l.length < 8/\ ∃a b,l'=l++[⟨nm,a,b,on,us,s,g,es⟩])\/(so l nm≠0/\l'=l))
def XI {l:aI1} (h:eA l) (db:Nat) (nm:aH3) (hn:nm.length<=4294967296) (s g:Int) (es:aH5) (bu:(0<=s/\s<=4096)/\(1<=g/\g<=64)/\ff es):
  Fn prog 75 [dd db,bN nm,ap 2001] ((1101,.az (.bt [(db,i0 l)]))::iA 2001 2002 s g es) [] (ab (so l nm)) ((1101,.az (.jk fun p:{l':List bh//Cf l nm true true s g es l'}=>.bt [(db,i0 p.1)]))::iA 2001 2002 s g es):=by
 refine cD.jk (cD.ow [1002,1003,1004] 1101 (?_:cD prog 75 [ap 1001,bN nm,ap 2001] (eT l++iA 2001 2002 s g es) [] (fun _=>ab (so l nm)) (fun p:{l':List bh//Cf l nm true true s g es l'}=>eT p.1++iA 2001 2002 s g es)) rfl (fun _=>rfl) rfl ⟨rfl,rfl⟩ rfl (fun _=>rfl))
 cases aj:gZ nm with
 |false=>
  have e:so l nm=1:=vj aj;exact(alk nm hn aj s g es).x.to (fun _=>⟨l,h,.inr ⟨by rw[e];decide,rfl⟩⟩) (fun _=>by rw[e]) fun _=>rfl
 |true=>
  by_cases ar:(dE l nm).isSome=true\/8<=l.length
  .have e:so l nm=111:=(mu (by rw[aj];decide)).trans (vj ar);exact(alm nm hn aj ar s g es).x.to (fun _=>⟨l,h,.inr ⟨by rw[e];decide,rfl⟩⟩) (fun _=>by rw[e]) fun _=>rfl
  .have e:so l nm=0:=(mu (by rw[aj];decide)).trans (mu ar)
   have E:dE l nm=none:=by
    cases Z:dE l nm with
    |none=>rfl
    |some x=>exact at1 (.inl (by rw[Z];rfl)) ar
   have G:l.length < 8:=by
    have: ¬8<=l.length:=fun bd=>ar (.inr bd)
    omega
   exact(alg h nm hn aj E G s g es bu).to (fun p=>⟨_,p.2,.inl ⟨e,aj,E,G,_,_,rfl⟩⟩) (fun _=>by rw[e]) fun _=>rfl
def O7 {z R:Nat} {L:aH6} (h:b6 z R L) {aU:aH3} {d:aI} (H:dk L aU=some d):b7 L aU*2 ^z<=2048:=by
 have aoA:=(h.fK d (cP H).1).1.ez;have aw:b7 L aU=d.im.t.length:=aF1
 have h6:2 ^z<=2 ^3:=aB0 aD8 h.b3;have aC:b7 L aU*2 ^z<=256*8:=ay8 aD7 h6;omega
def Cg (w:bQ) (s:d1):Int:=if nh ((d2 w*2 ^w.z:Nat):Int) s.a=true then so w.ds s.nm else 1
abbrev O8 (w:bQ) (s:d1):bc:=.jk fun p:{l':List bh//(nh ((d2 w*2 ^w.z:Nat):Int) s.a=true/\Cf w.ds s.nm true true ((d2 w*2 ^w.z:Nat):Int) s.a [] l')\/(nh ((d2 w*2 ^w.z:Nat):Int) s.a=false/\l'=w.ds)}=>.bt [(w.db,i0 p.1)]
abbrev aoJ (w:bQ):ay:=[hR w.z w.R w.L,xQ w.es w.M,Xs w,Xp w,Xq w,Xr w]
def aoK (w:bQ) (ax:eU w) (s:d1) (hn:s.nm.length<=1000000):Fn prog 32 [ap 1401,k8 s] (cV w) [] (ab (Cg w s)) ((1101,.az (O8 w s))::aoJ w):=by
 obtain⟨d,H,aM⟩:=ax.dk;have aC:d2 w*2 ^w.z<=2048:=O7 ax.cs H;have cA:=O2 (db:=w.db) (lb:=w.lb) (kd:=xP w.bO) (gq:=sk w.b w.bO) (dt:=Cc w.b w.bO) (pu:=xO w.b w.bO) (m:=w.bS) (es:=w.es) (M:=w.M) ax.cs H;rw[aM] at cA;have xt:=ax.cs.b3;have xU:((d2 w:Nat):Int)*((2 ^((w.z:Nat):Int).toNat:Nat):Int)=((d2 w*2 ^w.z:Nat):Int):=by rw[az8,aB3]
 cases Z:nh ((d2 w*2 ^w.z:Nat):Int) s.a with
 |false=>
  have U:Cg w s=1:=mu (by rw[Z];decide);have nu:=ajh (((d2 w:Nat):Int)*((2 ^((w.z:Nat):Int).toNat:Nat):Int)) s.a (by rw[xU];exact Z);refine aP [1] func32 ?_;refine⟨rfl,bG.nB 73 aD8 <| bw [] (bn) <| w2 rfl rfl rfl cA ?_⟩;exact⟨⟨aD7,aD7,aD7⟩,⟨by rw[xU];omega,by rw[xU];omega⟩,av nu ⟨eG aE0,fR ⟨_,_,_,ac.az 1101 (o':=O8 w s) rfl fun I F x p h=>⟨⟨w.ds,.inr ⟨Z,rfl⟩⟩,h⟩,rfl,U.symm,aA,rfl⟩⟩⟩
 |true=>
  have U:Cg w s=so w.ds s.nm:=vj Z;have nu:=UN (((d2 w:Nat):Int)*((2 ^((w.z:Nat):Int).toNat:Nat):Int)) s.a (by rw[xU];exact Z);obtain⟨cl,cY⟩:=Nv Z;have zQ:=XI ax.ds w.db s.nm aD7 ((d2 w*2 ^w.z:Nat):Int) s.a [] ⟨cl,cY,List.Pairwise.nil⟩;rw[<-U,<-xU] at zQ;refine aP [1] func32 ?_;refine⟨rfl,bG.nB 73 aD8 <| bw [] (bn) <| w2 rfl rfl rfl cA ?_⟩;refine⟨⟨aD7,aD7,aD7⟩,⟨by rw[xU];omega,by rw[xU];omega⟩,av nu ⟨eG aE0,dh <| av zQ ⟨eG aE0,?_⟩⟩⟩
  exact⟨_,_,_,ac.az 1101 (o':=O8 w s) rfl fun I F x p h=>(by
   obtain⟨g,h⟩:=h;exact⟨⟨g.1,.inl ⟨Z,by rw[<-xU];exact g.2⟩⟩,h⟩),rfl,rfl,aA,rfl⟩
end
section
def aoL {Q:aI5} (h:oK Q):(kF Q).length<=100000000:=by
 have E:=EJ kE 35000 Q fun b O=>Wb (Iu h O)
 have G:=h.len;unfold kF;rw[as9,qY];omega
def XJ {Q:aI5} (h:oK Q) (lb:Nat):Fn prog 94 [dd lb] [(1301,.az (.bt [(lb,uM Q)]))] [] (bE .u8 (kF Q)) [(1301,.az (.bt [(lb,uM Q)]))]:=
 Fn.ow [1002] 1301 (We Q (by have:=h.len;omega) fun b O=>Iu h O)
def XK {Q:aI5} (h:sn Q):Fn prog 93 [bE .u8 (kF Q)] [] [3001,3002] (.b4 [.one (.ptr 3001 0),dw 0]) (pw 3001 3002 Q):=by have H:=amw (kF Q) (aoL h.tooK) (some (Q.map xL)) (anQ h.O5 (fun b O=>Iu h.tooK O) h.len);simp only[Xa] at H;exact Fn.aT [(1001,3001),(1002,3002)] H
def aoM (n:Int) (iOz:2<=n) (hn:se n=true) (aj:n<=4096) {Q:aI5} (h:oK Q) {es:gR} {M:fo} {O9:aI5} (hf:qh es M O9):
  Fn prog 163 [ap 3001,ap 1201,ab n] (xQ es M::pw 3001 3002 Q) [] (ab (xM n Q)) ((1201,.az (.jk fun b:{b:Nat//b∉M.map (·.1)}=>zP (wo n es Q b.1) ((b.1,uL n 4096 Q b.1)::M)))::pw 3001 3002 Q):=by
 obtain⟨E,G,ah⟩:=hf.aox;have J:=cD.aT [(1001,1201),(1002,1202),(1003,1203)] (anX 4096 n iOz hn aj es (M:=M) E G ah (Q:=Q) (by have:=h.len;omega) fun b O=>Iu h O);exact cD.jk (cD.close (c:=1201) (bq:=EP 1201 1202 1203 4096 es M) (o':=fun b:{b:Nat//b∉M.map (·.1)}=>zP (wo n es Q b.1) ((b.1,uL n 4096 Q b.1)::M)) [1202,1203] J (fun _ _ _ _ h=>h) (fun _ _ _ _ _ h=>h) rfl fun _=>rfl)
def sq (Q:aI5):Int:=xM 512 Q
def tC (es:gR) (Q:aI5) (b:Nat):gR:=wo 512 es Q b
def tD (Q:aI5) (b:Nat):cN:=uL 512 4096 Q b
def aoN {Q:aI5} (h:oK Q) {es:gR} {M:fo} {O9:aI5} (hf:qh es M O9):Fn prog 163 [ap 3001,ap 1201,ab 512] (xQ es M::pw 3001 3002 Q) [] (ab (sq Q)) ((1201,.az (.jk fun b:{b:Nat//b∉M.map (·.1)}=>zP (tC es Q b.1) ((b.1,tD Q b.1)::M)))::pw 3001 3002 Q):=aoM 512 aD8 rfl aD8 h hf
def zR (w:bQ) (Q:aI5) (e:Int) (w':bQ):Prop:=e=sq Q/\ ∃b,b∉w.M.map (·.1)/\((sq Q=0/\ ∃lb,w'={w with es:=tC w.es Q b,M:=(b,tD Q b)::w.M,lb:=lb,Q:=Q})\/(sq Q≠0/\w'={w with es:=tC w.es Q b,M:=(b,tD Q b)::w.M}))
def aoO (w:bQ) {Q:aI5} {F:Nat->gR} {S:Nat->cN}
  (J:Fn prog 163 [ap 3001,ap 1201,ab 512] (xQ w.es w.M::pw 3001 3002 Q) [] (ab 0) ((1201,.az (.jk fun b:{b:Nat//b∉w.M.map (·.1)}=>zP (F b.1) ((b.1,S b.1)::w.M)))::pw 3001 3002 Q)):
  cD prog 96 [ap 1401,ap 3001] (cV w++pw 3001 3002 Q) [] (X:={b:Nat//b∉w.M.map (·.1)}×Nat) (fun _=>ab 0) (fun p=>cV {w with es:=F p.1.1,M:=(p.1.1,S p.1.1)::w.M,lb:=p.2,Q:=Q}):=by
 refine ia [2,3] func96 ?_;exact av J <| bG.fW (dF.jk 1201 rfl) fun b=>bw [3] (bn) <| fR <| bG.le (ac.close 3001 (pw 3001 3002 Q) (o:=uM Q) aA rfl fun I F x p h=>j8.aT [(3001,1001),(3002,1002)] h) <| bG.fW (dF.name 1 3001 rfl rfl) fun lb=>bw [] (ac.trans (ac.put 1301 3001 aD8 rfl rfl) (ac.an6 1301 rfl)) ⟨(b,lb),_,_,_,bn,rfl,rfl,aA,rfl⟩
def aoP (w:bQ) {Q:aI5} {e:Int} (U:e≠0) {F:Nat->gR} {S:Nat->cN}
  (J:Fn prog 163 [ap 3001,ap 1201,ab 512] (xQ w.es w.M::pw 3001 3002 Q) [] (ab e) ((1201,.az (.jk fun b:{b:Nat//b∉w.M.map (·.1)}=>zP (F b.1) ((b.1,S b.1)::w.M)))::pw 3001 3002 Q)):
  cD prog 96 [ap 1401,ap 3001] (cV w++pw 3001 3002 Q) [] (X:={b:Nat//b∉w.M.map (·.1)}) (fun _=>ab e) (fun p=>cV {w with es:=F p.1,M:=(p.1,S p.1)::w.M}):=by
 refine ia [2] func96 ?_;exact av J <| bG.fW (dF.jk 1201 rfl) fun b=>bw [] (bn) ⟨fun h=>at1 (gd h) U,fun _=>⟨b,_,_,_,bn,rfl,rfl,aA,rfl⟩⟩
def aoQ (w:bQ) (s:d1) (e:Int) (w':bQ):Prop:=(BW w.Q s.nm≠0/\e=BW w.Q s.nm/\w'=w)\/(BW w.Q s.nm=0/\zR w (BX w.Q s.nm) e w')
end
section
def O' {l:aI1} (h:eA l) (db:Nat) {nm:aH3} {e:bh} (U:dE l nm=some e):Fn prog 139 [dd db,bN nm] [(1101,.az (.bt [(db,i0 l)]))] [5001,5002] (.b4 [.agg (g8 e.nm e.on e.us),dw 0]) ((1101,.az (.bt [(db,i0 l)]))::iA 5001 5002 e.s e.g e.es):=
 (cD.ow (X:=Unit) (bq:=eT l) (aK:=[]) (dI:=fun _=>eT l) (aO:=fun _=>iA 5001 5002 e.s e.g e.es) (res:=fun _=>.b4 [.agg (g8 e.nm e.on e.us),dw 0]) [1002,1003,1004] 1101 (by rw[av2];exact(VC h U).x) rfl (fun _=>rfl) rfl ⟨rfl,rfl⟩ rfl fun _=>rfl).fn
def XL {l:aI1} (db:Nat) {nm:aH3} (U:dE l nm=none):Fn prog 139 [dd db,bN nm] [(1101,.az (.bt [(db,i0 l)]))] [] (.b4 [.agg [.d (.str []),.d (.lit false),.d (.lit false),.bK (.pointer none)],dw 112]) [(1101,.az (.bt [(db,i0 l)]))]:=
 Fn.ow [1002,1003,1004] 1101 (alD U)
def Pa {Q:aI5} (h:oK Q) (lb:Nat):Fn prog 84 [dd lb] [(1301,.az (.bt [(lb,uM Q)]))] [] (bN (uE Q)) [(1301,.az (.bt [(lb,uM Q)]))]:=
 Fn.ow [1002] 1301 (alK Q (by have:=h.len;omega))
def aoR {Q:aI5} (h:oK Q) (lb:Nat):Fn prog 81 [dd lb] [(1301,.az (.bt [(lb,uM Q)]))] [] (bE .str (Q.map er)) [(1301,.az (.bt [(lb,uM Q)]))]:=
 Fn.ow [1002] 1301 (al9 Q (by have:=h.len;omega))
def eU.aoS {w:bQ} (h:eU w):dE w.ds []=none:=by
 cases Z:dE w.ds [] with
 |none=>rfl
 |some e=>
  obtain⟨E,G⟩:=lR Z;have ah:=(h.d9 e E).1.nm;rw[G] at ah
  cases ah
def aoT (w:bQ) (ax:eU w) (s:d1) (ar:s.gj=[]):Fn prog 82 [ap 1401,k8 s] (cV w) [] (.b4 [pL,dw 0]) (cV w):=by have aV:=XL w.db ax.aoS;rw[<-ar] at aV;refine aP [] func82 ?_;exact⟨rfl,av aV ⟨rfl,eG aE0,fun _=>bb,fun h=>at1 h (by simp[ar])⟩⟩
def aoU (w:bQ) (ax:eU w) (s:d1) (ar:s.gj≠[]) (Z:dE w.ds s.gj=none):Fn prog 82 [ap 1401,k8 s] (cV w) [] (.b4 [pL,dw 112]) (cV w):=by have aV:=XL w.db Z;refine aP [] func82 ?_;exact⟨rfl,av aV ⟨rfl,eG aE0,fun h=>at1 h (by simp[ar]),fun _=>fR bb⟩⟩
def q8 (w:bQ) (e:bh):Int:=if e.us=false then 110 else if uE w.Q=[] then 181 else 0
def aoV (w:bQ) (ax:eU w) (s:d1) (ar:s.gj≠[]) {e:bh} (Z:dE w.ds s.gj=some e) (aY:q8 w e≠0):Fn prog 82 [ap 1401,k8 s] (cV w) [] (.b4 [pL,dw (q8 w e)]) (cV w):=by
 have aV:=O' ax.ds w.db Z;have al:=Pa ax.q.tooK w.lb
 cases aZ:e.us with
 |false=>
  have U:q8 w e=110:=vj aZ;rw[U];refine aP [] func82 ?_;exact⟨rfl,av aV ⟨rfl,eG aE0,fun h=>at1 h (by simp[ar]),fun _=>dh ⟨fun _=>bb,fun h=>at1 h (by simp[aZ])⟩⟩⟩
 |true=>
  have U:q8 w e=181:=by
   unfold q8 at aY⊢;rw[mu (by rw[aZ];decide)] at aY⊢
   split
   .rfl
   .rename_i h;rw[mu h] at aY;exact at1 rfl aY
  have a2:uE w.Q=[]:=by
   unfold q8 at U;rw[mu (by rw[aZ];decide)] at U
   split at U
   .assumption
   .cases U
  rw[U];refine aP [] func82 ?_;exact⟨rfl,av aV ⟨rfl,eG aE0,fun h=>at1 h (by simp[ar]),fun _=>dh ⟨fun h=>at1 h (by simp[aZ]),fun _=>av al ⟨fun _=>bb,fun h=>at1 h (by simp[a2])⟩⟩⟩⟩
def aoW (w:bQ) (ax:eU w) (s:d1) (ar:s.gj≠[]) {e:bh} (Z:dE w.ds s.gj=some e) (aY:q8 w e=0):Fn prog 82 [ap 1401,k8 s] (cV w) [5001,5002] (.b4 [.one (.ptr 5001 0),dw 0]) (cV w++iA 5001 5002 e.s e.g e.es):=by
 have aV:=O' ax.ds w.db Z;have al:=Pa ax.q.tooK w.lb
 have aZ:e.us=true:=by
  unfold q8 at aY
  cases aZ:e.us with
  |true=>rfl
  |false=>rw[vj aZ] at aY;cases aY
 have a2:uE w.Q≠[]:=fun a2=>by
  unfold q8 at aY;rw[mu (by rw[aZ];decide),vj a2] at aY
  cases aY
 refine aP [] func82 ?_;exact⟨rfl,av aV ⟨rfl,eG aE0,fun h=>at1 h (by simp[ar]),fun _=>dh ⟨fun h=>at1 h (by simp[aZ]),fun _=>av al ⟨fun h=>at1 h (by simp[a2]),fun _=>bb⟩⟩⟩⟩
def ac.Pb {ids:aH4} {K:aW} {B:ay} (c j d m b:Nat) {l:List bA} (J:ae B c=some (.cells l)) (V:l[j]? =some (.ptr d 0)) (aC:ae B m=some (.b5 d (e7 b))):ac ids K B K ((c,.cells (l.set j (.d (.aL (some b)))))::B):=by
 rintro N C a w ⟨hn,H,ρ,F,ak,au⟩;have O:=pN (N:=N) (a:=a) ak aC
 obtain⟨bH,aY⟩:=ak.hT (w':=w) (ch:=.cells (l.set j (.d (.aL (some b))))) J (cU.refl _ _) fun I a7=>by
  obtain⟨E,aE,T,G,ah⟩:=ak.holds c _ J;refine⟨E,aE,T,G,cf.set (s:=.ptr d 0) (t:=.d (.aL (some b))) (fun v h=>?_) V (cf.mono a7 _ _ (fun _ _=>rfl) ah)⟩;have h:v= .pointer (some ⟨(ρ d).bf,0,none⟩):=h;rw[O] at h;exact h
 exact⟨hn,H,ρ,F,bH,au.mono aY fun _ _ _=>rfl⟩
def ac.Pc {ids:aH4} {K:aW} {B:ay} (c m b:Nat) {o:bc} (J:ae B c=some (.az o)) (aC:ae B m=some (.b5 c (e7 b))):ac ids K B K ((c,.az (o.at b))::B):=by
 rintro N C a w ⟨hn,H,ρ,F,ak,au⟩;have O:=pN (N:=N) (a:=a) ak aC;obtain⟨bH,aY⟩:=ak.hT (w':=w) (ch:=.az (o.at b)) J (cU.refl _ _) fun I a7=>⟨O,o.cj _ _ _ _ _ _ (ak.holds c _ J) a7 (fun _ _=>rfl) (at0 _)⟩
 exact⟨hn,H,ρ,F,bH,au.mono aY fun _ _ _=>rfl⟩
abbrev uN (nm pa:aH3) (bi aR:Int) (gj:aH3) (en:Option (Nat×E0)):Made:=⟨(nm,pa,bi,aR,([]:List kD)),gj,en⟩
def sr (w:bQ) (s:d1):Bool:= !gZ s.nm||(w.Q.map er).contains s.nm
def Pd (w:bQ) (s:d1) (e:Int) (w':bQ):Prop:=
 (sr w s=true/\e=1/\w'=w)\/(sr w s=false/\
  (
   (s.gj=[]/\((s.l < 0/\e=1/\w'=w)\/(0<=s.l/\e=0/\ ∃b,w'={w with b:=b,bO:=.pu w.aU ((d2 w:Nat):Int) s.l (ik (fun _=>true) w.z (d2 w*2 ^w.z)) [] false false,bS:=uN s.nm [] w.z ((d2 w:Nat):Int) s.gj none})))\/
   (s.gj≠[]/\dE w.ds s.gj=none/\e=112/\w'=w)\/
   (s.gj≠[]/\ ∃x,dE w.ds s.gj=some x/\((q8 w x≠0/\e=q8 w x/\w'=w)\/(q8 w x=0/\((s.l < 0/\e=1/\w'=w)\/(0<=s.l/\e=0/\ ∃b kk,w'={w with b:=b,bO:=.pu w.aU ((d2 w:Nat):Int) s.l (ik (ke x.g x.es) w.z (d2 w*2 ^w.z)) [] false false,bS:=uN s.nm (uE w.Q) w.z ((d2 w:Nat):Int) s.gj (some (kk,((d2 w*2 ^w.z:Nat):Int),1,[]))})))))))
def aoX {s:Int} (ar:0<=s) (E:s<=4096):nh s 1=true:=by unfold nh;simp[ar,E]
def aoY (w:bQ) (ax:eU w) (s:d1) (V:w.bO= .no) (hn:s.nm.length<=1000000):cD prog 35 [ap 1401,k8 s] (cV w) [] (X:=nW (Pd w s)) (fun p=>ab p.1.1) (fun p=>cV p.1.2):=by
 obtain⟨d,H,aM⟩:=ax.dk;have fC:=ax.cs;have al:=aoR ax.q.tooK w.lb;have Ex:=Pa ax.q.tooK w.lb;have aj:=qO s.nm aD7;have zS:=MB (w.Q.map er) s.nm (by rw[au3];have:=ax.q.len;omega);have aoZ:=fun ar=>aoT w ax s ar
 have LG:=fun ar Z=>aoU w ax s ar Z
 have Pe:=fun ar e (Z:dE w.ds s.gj=some e) aY=>aoV w ax s ar Z aY
 have ao0:=fun ar e (Z:dE w.ds s.gj=some e) aY=>aoW w ax s ar Z aY
 have cA:=fun(gq:aI8) (dt pu:aI4)=>O2 (db:=w.db) (lb:=w.lb) (kd:=0) (gq:=gq) (dt:=dt) (pu:=pu) (m:=w.bS) (es:=w.es) (M:=w.M) ax.cs H
 have zD:=fun e (Z:dE w.ds s.gj=some e)=>ax.d9 e (lR Z).1
 have aC:d2 w*2 ^w.z<=2048:=O7 ax.cs H;have ao1:b7 w.L w.aU=d2 w:=rfl;rw[aM] at cA;rw[ao1] at zD
 cases kT:gZ s.nm with
 |false=>
  have zF:sr w s=true:=by unfold sr;rw[kT];rfl
  obtain⟨z,R,L,aU,db,ds,es,M,lb,Q,eF,bO,bS⟩:=w;simp only at V;subst V;refine ia [] func35 ?_;refine⟨rfl,bm (qE rfl underlying79 rfl) ?_⟩;exact av aj ⟨fun _=>⟨eG aE0,⟨(1,_),.inl ⟨zF,rfl,rfl⟩⟩,_,_,_,bn,rfl,rfl,aA,rfl⟩,fun h=>at1 h (by simp[kT])⟩
 |true=>
 cases hI:(w.Q.map er).contains s.nm with
 |true=>
  have zF:sr w s=true:=by unfold sr;rw[kT,hI];rfl
  obtain⟨z,R,L,aU,db,ds,es,M,lb,Q,eF,bO,bS⟩:=w;simp only at V;subst V;refine ia [] func35 ?_;refine⟨rfl,bm (qE rfl underlying79 rfl) ?_⟩;exact av aj ⟨fun h=>at1 h (by simp[kT]),fun _=>av al <| av zS ⟨eG aE0,fun _=>⟨⟨(1,_),.inl ⟨zF,rfl,rfl⟩⟩,_,_,_,bn,rfl,rfl,aA,rfl⟩,fun h=>at1 (hI.symm.trans h) aD8⟩⟩
 |false=>
 have Ch:sr w s=false:=by unfold sr;rw[kT,hI];rfl
 by_cases ar:s.gj=[]
 .have cw:=aoZ ar
  by_cases tE:s.l < 0
  .have O:=Fn.ch (ajy fC H s.l tE);obtain⟨z,R,L,aU,db,ds,es,M,lb,Q,eF,bO,bS⟩:=w;simp only at V;subst V;refine ia [] func35 ?_;refine⟨rfl,bm (qE rfl underlying79 rfl) ?_⟩;exact av aj ⟨fun h=>at1 h (by simp[kT]),fun _=>av al <| av zS ⟨eG aE0,fun h=>at1 (hI.symm.trans h) aD8,fun _=>av cw <| dh <| av O ⟨eG aE0,fR ⟨⟨(1,_),.inr ⟨Ch,.inl ⟨ar,.inl ⟨tE,rfl,rfl⟩⟩⟩⟩,_,_,_,bn,rfl,rfl,aA,rfl⟩⟩⟩⟩
  .have tE:0<=s.l:=aE5
   have O:=Fn.xR (aK:=[]) (aO:=nV w.z w.aU (d.im.t.length:Nat) s.l (ik (fun _=>true) w.z (d.im.t.length*2 ^w.z)) [] false false) (ajA fC H s.l tE) rfl rfl;rw[aM] at O;obtain⟨z,R,L,aU,db,ds,es,M,lb,Q,eF,bO,bS⟩:=w;simp only at V;subst V;refine ia [11,12,15] func35 ?_;refine⟨rfl,bm (qE rfl underlying79 rfl) ?_⟩;refine av aj ⟨fun h=>at1 h (by simp[kT]),fun _=>av al <| av zS ⟨eG aE0,fun h=>at1 (hI.symm.trans h) aD8,fun _=>av cw <| dh <| av O ⟨eG aE0,dh <| bG.nB 73 aD8 <| bw [12,15] (bn) <| w2 rfl rfl rfl (cA .nilIface none none) ⟨eG aE0,bw [15] (ac.trans (ac.Cb 1401 16 rfl rfl) (ac.trans (ac.th 1401 (l':=IT z aU db lb 0 .nilIface none none (uN s.nm [] z ((d2 ⟨z,R,L,aU,db,ds,es,M,lb,Q,eF,.no,bS⟩:Nat):Int) s.gj none)) rfl aA) (ac.Xn 1601 rfl))) <| bG.fW (dF.mark 2001 2009 rfl aD8) fun b=>bG.le (ac.GW 7 2001 2009 b rfl rfl) <| bw [] (ac.IR 1501 2001 1001 2009 b (nV z aU ((d2 ⟨z,R,L,aU,db,ds,es,M,lb,Q,eF,.no,bS⟩:Nat):Int) s.l (ik (fun _=>true) z (d2 ⟨z,R,L,aU,db,ds,es,M,lb,Q,eF,.no,bS⟩*2 ^z)) [] false false) rfl rfl aA rfl) <| bm (GX rfl underlying81 rfl) ?_⟩⟩⟩⟩;exact av (IV (z:=z) (R:=R) (L:=L) (aU:=aU) (db:=db) (lb:=lb) (kd:=0) (gq:=.nilIface) (dt:=none) (pu:=some b) (m:=(uN s.nm [] z ((d2 ⟨z,R,L,aU,db,ds,es,M,lb,Q,eF,.no,bS⟩:Nat):Int) s.gj none)) (es:=es) (M:=M) 3 81 (.pointer (some ⟨b,0,none⟩))) ⟨⟨(0,⟨z,R,L,aU,db,ds,es,M,lb,Q,b,.pu aU ((d2 ⟨z,R,L,aU,db,ds,es,M,lb,Q,eF,.no,bS⟩:Nat):Int) s.l (ik (fun _=>true) z (d2 ⟨z,R,L,aU,db,ds,es,M,lb,Q,eF,.no,bS⟩*2 ^z)) [] false false,(uN s.nm [] z ((d2 ⟨z,R,L,aU,db,ds,es,M,lb,Q,eF,.no,bS⟩:Nat):Int) s.gj none)⟩),.inr ⟨Ch,.inl ⟨ar,.inr ⟨tE,rfl,b,rfl⟩⟩⟩⟩,_,_,_,bn,rfl,rfl,aA,rfl⟩
 .cases Z:dE w.ds s.gj with
  |none=>
   have cw:=LG ar Z;obtain⟨z,R,L,aU,db,ds,es,M,lb,Q,eF,bO,bS⟩:=w;simp only at V;subst V;refine ia [] func35 ?_;refine⟨rfl,bm (qE rfl underlying79 rfl) ?_⟩;exact av aj ⟨fun h=>at1 h (by simp[kT]),fun _=>av al <| av zS ⟨eG aE0,fun h=>at1 (hI.symm.trans h) aD8,fun _=>av cw <| fR ⟨⟨(112,_),.inr ⟨Ch,.inr (.inl ⟨ar,Z,rfl,rfl⟩)⟩⟩,_,_,_,bn,rfl,rfl,aA,rfl⟩⟩⟩
  |some x=>
   by_cases aY:q8 w x=0
   .have cw:=ao0 ar x Z aY;obtain⟨hx,sU⟩:=zD x Z;obtain⟨g1,g2⟩:=Nv hx.ok
    by_cases tE:s.l < 0
    .have O:=Fn.xR (aK:=zr x.s x.g x.es) (aO:=zr x.s x.g x.es) (ajC fC H s.l tE x.s x.g x.es) rfl rfl;obtain⟨z,R,L,aU,db,ds,es,M,lb,Q,eF,bO,bS⟩:=w;simp only at V;subst V;refine ia [] func35 ?_;refine⟨rfl,bm (qE rfl underlying79 rfl) ?_⟩;exact av aj ⟨fun h=>at1 h (by simp[kT]),fun _=>av al <| av zS ⟨eG aE0,fun h=>at1 (hI.symm.trans h) aD8,fun _=>av cw <| dh <| av O ⟨eG aE0,fR ⟨⟨(1,_),.inr ⟨Ch,.inr (.inr ⟨ar,x,Z,.inr ⟨aY,.inl ⟨tE,rfl,rfl⟩⟩⟩)⟩⟩,_,_,_,bn,rfl,rfl,aA,rfl⟩⟩⟩⟩
    .have tE:0<=s.l:=aE5
     have O:=Fn.xR (aK:=zr ((d.im.t.length*2 ^w.z:Nat):Int) x.g x.es) (aO:=nV w.z w.aU (d.im.t.length:Nat) s.l (ik (ke x.g x.es) w.z (d.im.t.length*2 ^w.z)) [] false false++zr ((d.im.t.length*2 ^w.z:Nat):Int) x.g x.es) (ajE fC H s.l tE x.g x.es g2.1) rfl rfl;rw[aM] at O;rw[sU] at cw;have EW:=Nw ((d2 w*2 ^w.z:Nat):Int) x.g x.es;have Na:=UN ((d2 w*2 ^w.z:Nat):Int) 1 (aoX aD7 aD7);obtain⟨z,R,L,aU,db,ds,es,M,lb,Q,eF,bO,bS⟩:=w;simp only at V;subst V;refine ia [11,12,15] func35 ?_;refine⟨rfl,bm (qE rfl underlying79 rfl) ?_⟩;refine av aj ⟨fun h=>at1 h (by simp[kT]),fun _=>av al <| av zS ⟨eG aE0,fun h=>at1 (hI.symm.trans h) aD8,fun _=>av cw <| dh <| av O ⟨eG aE0,dh <| bG.nB 73 aD8 <| bw [12,15] (bn) <| w2 rfl rfl rfl (cA .nilIface none none) ⟨eG aE0,bw [15] (ac.trans (ac.th 1401 (l':=(IT z aU db lb 0 .nilIface none none (uN s.nm [] z ((d2 ⟨z,R,L,aU,db,ds,es,M,lb,Q,eF,.no,bS⟩:Nat):Int) s.gj none)).set 16 (.bK (.pointer none))) rfl aA) (ac.Xn 1601 rfl)) <| av Ex <| av (Fn.aT [(1001,5001),(1002,5002)] EW) <| av (Fn.aT [(2001,6001),(2002,6002)] Na) <| bG.fW (dF.mark 6001 6009 rfl aD8) fun kk=>bG.fW (dF.mark 2001 2009 rfl aD8) fun b=>bG.le (ac.Pb 1401 16 6001 6009 kk rfl rfl rfl) <| bG.le (ac.close 6001 (iA 6001 6002 ((d2 ⟨z,R,L,aU,db,ds,es,M,lb,Q,eF,.no,bS⟩*2 ^z:Nat):Int) 1 []) (o:=fi ((d2 ⟨z,R,L,aU,db,ds,es,M,lb,Q,eF,.no,bS⟩*2 ^z:Nat):Int) 1 []) aA rfl fun I F x p h=>j8.aT [(6001,1001),(6002,1002)] h) <| bG.le (ac.trans (ac.Pc 6001 6009 kk rfl rfl) (ac.put 1601 6001 aD8 rfl rfl)) <| bG.le (ac.GW 7 2001 2009 b rfl rfl) <| bw [] (ac.IR 1501 2001 1001 2009 b (nV z aU ((d2 ⟨z,R,L,aU,db,ds,es,M,lb,Q,eF,.no,bS⟩:Nat):Int) s.l (ik (ke x.g x.es) z (d2 ⟨z,R,L,aU,db,ds,es,M,lb,Q,eF,.no,bS⟩*2 ^z)) [] false false) rfl rfl aA rfl) <| bm (GX rfl underlying81 rfl) ?_⟩⟩⟩⟩;exact av (IV (z:=z) (R:=R) (L:=L) (aU:=aU) (db:=db) (lb:=lb) (kd:=0) (gq:=.nilIface) (dt:=none) (pu:=some b) (m:=(uN s.nm (uE Q) z ((d2 ⟨z,R,L,aU,db,ds,es,M,lb,Q,eF,.no,bS⟩:Nat):Int) s.gj (some (kk,((d2 ⟨z,R,L,aU,db,ds,es,M,lb,Q,eF,.no,bS⟩*2 ^z:Nat):Int),1,[])))) (es:=es) (M:=M) 3 81 (.pointer (some ⟨b,0,none⟩))) ⟨⟨(0,⟨z,R,L,aU,db,ds,es,M,lb,Q,b,.pu aU ((d2 ⟨z,R,L,aU,db,ds,es,M,lb,Q,eF,.no,bS⟩:Nat):Int) s.l (ik (ke x.g x.es) z (d2 ⟨z,R,L,aU,db,ds,es,M,lb,Q,eF,.no,bS⟩*2 ^z)) [] false false,(uN s.nm (uE Q) z ((d2 ⟨z,R,L,aU,db,ds,es,M,lb,Q,eF,.no,bS⟩:Nat):Int) s.gj (some (kk,((d2 ⟨z,R,L,aU,db,ds,es,M,lb,Q,eF,.no,bS⟩*2 ^z:Nat):Int),1,[])))⟩),.inr ⟨Ch,.inr (.inr ⟨ar,x,Z,.inr ⟨aY,.inr ⟨tE,rfl,b,kk,rfl⟩⟩⟩)⟩⟩,_,_,_,bn,rfl,rfl,aA,rfl⟩
   .have cw:=Pe ar x Z aY;obtain⟨z,R,L,aU,db,ds,es,M,lb,Q,eF,bO,bS⟩:=w;simp only at V;subst V;refine ia [] func35 ?_;refine⟨rfl,bm (qE rfl underlying79 rfl) ?_⟩;exact av aj ⟨fun h=>at1 h (by simp[kT]),fun _=>av al <| av zS ⟨eG aE0,fun h=>at1 (hI.symm.trans h) aD8,fun _=>av cw ⟨fun _=>⟨⟨(_,_),.inr ⟨Ch,.inr (.inr ⟨ar,x,Z,.inl ⟨aY,rfl,rfl⟩⟩)⟩⟩,_,_,_,bn,rfl,rfl,aA,rfl⟩,fun h=>at1 h (by simp[aY])⟩⟩⟩
end
section
def XM (A B:ay) (h:((ck A).all fun d=>(ae B d).isNone)=true) (c:Nat):ae (B++A) c=ae (A++B) c:=by
 rw[h9,h9]
 cases ha:ae A c with
 |none=>cases ae B c <;>rfl
 |some x=>
  have:=av4.1 h c (gf.2 ⟨x,ha⟩);rw[aC8.1 this]
def Fn.swap {P:aI0} {f:aI9} {args:List aN} {A B A' B':ay} {ba:aH4} {res:aN} (h:Fn P f args (A++B) ba res (A'++B')) (E:((ck A).all fun d=>(ae B d).isNone)=true) (G:((ck A').all fun d=>(ae B' d).isNone)=true):Fn P f args (B++A) ba res (B'++A'):=
 Fn.Ce h (XM A B E) (XM A' B' G)
def ao2 {s g bD g2:Int} {es eC ei:aH5} {b:Nat} {r:Int} (h:Fn prog 145 [ap 1001,ap 3001] (H9 s g es bD g2 ei) [] (ab r) (H9 s g eC bD g2 ei)):
  Fn prog 145 [ap 1001,dd b] (iA 1001 1002 s g es++[(1601,.az (.bt [(b,fi bD g2 ei)]))]) [] (ab r) (iA 1001 1002 s g eC++[(1601,.az (.bt [(b,fi bD g2 ei)]))]):=by
 have cu:Fn prog 145 [ap 1001,ap 3001] ((3001,.az (fi bD g2 ei))::iA 1001 1002 s g es) [] (ab r) ((3001,.az (fi bD g2 ei))::iA 1001 1002 s g eC):=
  Fn.close (bq:=iA 3001 3002 bD g2 ei) (dI:=iA 3001 3002 bD g2 ei) [3002] (Fn.swap (A:=iA 1001 1002 s g es) (A':=iA 1001 1002 s g eC) h rfl rfl) (fun _ _ _ _ h=>j8.aT [(1001,3001),(1002,3002)] h) (fun _ _ _ _ h=>j8.aT [(3001,1001),(3002,1002)] h) rfl rfl
 have cp:Fn prog 145 [ap 1001,ap 3001] ((3001,.az ((fi bD g2 ei).at b))::iA 1001 1002 s g es) [] (ab r) ((3001,.az ((fi bD g2 ei).at b))::iA 1001 1002 s g eC):=Fn.Xu (b:=b) cu rfl
 refine Fn.via (X:=Unit) (args':=fun _=>[ap 1001,ap 3001]) (uh:=fun _=>(3001,.az ((fi bD g2 ei).at b))::(1601,.az (.bt (jS [(b,fi bD g2 ei)] b)))::iA 1001 1002 s g es) (m0:=fun _=>(3001,.az ((fi bD g2 ei).at b))::iA 1001 1002 s g es) (iR:=fun _=>[]) (res':=fun _=>ab r) (nA:=fun _=>(3001,.az ((fi bD g2 ei).at b))::iA 1001 1002 s g eC) cp.1 2 rfl ?_ (fun _=>cp) (fun _=>aA) (fun _=>rfl) (fun _=>rfl)
  (fun _=>⟨ab r,iA 1001 1002 s g eC++[(1601,.az (.bt (fX [(b,fi bD g2 ei)] b (fi bD g2 ei))))],?_,rfl,⟨rfl,rfl,?_,trivial⟩,rfl⟩)
 .rintro N C a w aw
  have gD:ac (ck (iA 1001 1002 s g es++[(1601,.az (.bt [(b,fi bD g2 ei)]))])) (nx 0 [ap 1001,dd b]) (iA 1001 1002 s g es++[(1601,.az (.bt [(b,fi bD g2 ei)]))]) (nx 0 [ap 1001,ap 3001]) ((3001,.az ((fi bD g2 ei).at b))::(1601,.az (.bt (jS [(b,fi bD g2 ei)] b)))::iA 1001 1002 s g es):=
   ac.trans (ac.AV 1601 3001 b rfl (vj rfl) rfl) (ac.trans (ac.Lq 1 3001 b rfl rfl) (ac.sub aA aA))
  exact⟨(),gD N C a w aw⟩
 .exact ac.trans (ac.Lt (o:=fi bD g2 ei) (L:=[(b,fi bD g2 ei)]) 1601 3001 b rfl rfl (vj rfl) aD8) (ac.sub aA aA)
 .show some (a8.az (.bt (fX [(b,fi bD g2 ei)] b (fi bD g2 ei))))=_;rw[show fX [(b,fi bD g2 ei)] b (fi bD g2 ei)=[(b,fi bD g2 ei)] from vj rfl]
def XN {nm:aH3} {u:bh->bh} (aZ: ∀x,(u x).nm=x.nm): ∀{l:aI1} {e:bh},dE l nm=some e->dE (mG l nm u) nm=some (u e)
 | [],_,h=>by cases h
 |d::l,e,h=>by
  rw[v8] at h;show dE ((if d.nm=nm then u d else d)::mG l nm u) nm=_;rw[v8]
  by_cases c:d.nm=nm
  .rw[vj c] at h;injection h with h
   subst h;rw[vj c,vj ((aZ d).trans c)]
  .rw[mu c] at h;rw[mu c,mu c];exact XN aZ h
def XO {nm:aH3}: ∀{l:aI1} {e:bh},(l.map (·.nm)).Nodup->dE l nm=some e->dE (ls l nm) nm=none/\(ls l nm).length < l.length
 | [],_,_,h=>by cases h
 |d::l,e,hn,h=>by
  rw[au9,aw6] at hn;rw[v8] at h;unfold ls
  by_cases c:d.nm=nm
  .rw[vj c];refine⟨?_,Nat.lt_succ_self _⟩
   cases Z:dE l nm with
   |none=>rfl
   |some x=>
    obtain⟨cl,cY⟩:=lR Z;exact at1 (by rw[c,<-cY];exact aw1 cl) hn.1
  .rw[mu c] at h⊢;obtain⟨cl,cY⟩:=XO hn.2 h;exact⟨by rw[v8,mu c];exact cl,by simp only[aw7];omega⟩
abbrev gS (m:Made) (g:aH8):cb:=(er m.f0,dx m.f0,c7 m.f0,eB m.f0,oE g)
abbrev qj (m:Made) (g:aH8):Made:=⟨gS m g,m.eK,m.en⟩
def I2 (ds:aI1) (eK:aH3) (x:bh) (bD g2:Int) (ei:aH5) (a b:Nat):List bh:=mG (ls (mG ds eK oG) eK++[⟨eK,a,b,true,true,x.s,x.g,BO x.s x.g (oG x).es (kh bD g2 ei)⟩]) eK fun e=>{e with on:=x.on}
def wu (w:bQ) (g:aH8) (e:Int) (w':bQ):Prop:=(gJ w.Q (gS w.bS g)≠0/\e=gJ w.Q (gS w.bS g)/\w'={w with bS:=qj w.bS g})\/
 (gJ w.Q (gS w.bS g)=0/\ ∃eH,zR {w with bS:=qj w.bS g} (g5 w.Q (gS w.bS g)) e eH/\
  (((e≠0\/w.bS.en=none\/dE w.ds w.bS.eK=none)/\w'=eH)\/(e=0/\ ∃kk bD g2 ei x a b,w.bS.en=some (kk,bD,g2,ei)/\dE w.ds w.bS.eK=some x/\eA (I2 w.ds w.bS.eK x bD g2 ei a b)/\w'={eH with ds:=I2 w.ds w.bS.eK x bD g2 ei a b})))
def XP {z R:Nat} {L:aH6} {nm:aH3} {l:aH4} {g:aH8} (ag:f2 z R L nm l g) (m:Made) (p:kD) (h:p∈cE (gS m g)):(mL p).length<=4294967296:=by
 obtain⟨k,_,rfl⟩:=av7.1 (show p∈oE g from h)
 exact NA k g fun q a2=>by
  have E:=(ag.gt q a2).2;have G:2 ^z<=2 ^3:=aB0 aD8 ag.cs.b3;omega
def ao3 (w:bQ) (ax:lU w) {nm:aH3} {n rm:Int} {l:aH4} {g:aH8} {over:Bool} (V:w.bO= .pu nm n rm l g over true) (ag:f2 w.z w.R w.L nm l g) (qC:gZ (er w.bS.f0)=true) (dO:gJ w.Q (gS w.bS g)≠0):
  cD prog 87 [ap 1401] (cV w) [] (X:=nW (wu w g)) (fun p=>ab p.1.1) (fun p=>cV p.1.2):=by
 have jt:=Xy (b:=w.b) (n:=n) (rm:=rm) (over:=over) ag;have U:=XJ ax.q.tooK w.lb;have H:=XK ax.q;have UW:=ag.NE;have qW:=N5 w.Q (gS w.bS g) (by have:=ax.q.len;omega) (by have:=D9 qC;show(er w.bS.f0).length<=_;omega) (by show(oE g).length<=_;rw[Nz];omega) (XP ag w.bS);obtain⟨z,R,L,aU,db,ds,es,M,lb,Q,eF,bO,bS⟩:=w;simp only at V;subst V;refine ia [] func87 ?_;refine av jt <| av U <| av H <| av (Fn.aT [(1001,3001),(1002,3002),(1003,3003)] qW) ⟨fun h=>at1 (gd h) dO,fun _=>?_⟩;exact⟨fun _=>⟨eG aE0,⟨(_,⟨z,R,L,aU,db,ds,es,M,lb,Q,eF,.pu nm n rm l g over true,qj bS g⟩),.inl ⟨dO,rfl,rfl⟩⟩,_,_,_,bn,rfl,rfl,aA,rfl⟩,fun h=>at1 h (by simp only at dO;simp[dO])⟩
def ao4 {w:bQ} {g:aH8} (dO:gJ w.Q (gS w.bS g)=0) (aY:sq (g5 w.Q (gS w.bS g))=0) {b lb:Nat} (O:b∉w.M.map (·.1)) {kk:Nat} {bD g2:Int} {ei:aH5} {x:bh} (aw:w.bS.en=some (kk,bD,g2,ei)) (Z:dE w.ds w.bS.eK=some x) {l':aI1}
  (xi:so (ls (mG w.ds w.bS.eK oG) w.bS.eK) w.bS.eK=0) (al:Cf (ls (mG w.ds w.bS.eK oG) w.bS.eK) w.bS.eK true true x.s x.g (BO x.s x.g (oG x).es (kh bD g2 ei)) l'):
  wu w g 0 {w with bS:=qj w.bS g,es:=tC w.es (g5 w.Q (gS w.bS g)) b,M:=(b,tD (g5 w.Q (gS w.bS g)) b)::w.M,lb:=lb,Q:=g5 w.Q (gS w.bS g),ds:=mG l' w.bS.eK fun e=>{e with on:=x.on}}:=by
 rcases al.2 with⟨_,_,_,_,a,d5,rfl⟩ |⟨h,_⟩
 .refine .inr ⟨dO,{w with bS:=qj w.bS g,es:=tC w.es (g5 w.Q (gS w.bS g)) b,M:=(b,tD (g5 w.Q (gS w.bS g)) b)::w.M,lb:=lb,Q:=g5 w.Q (gS w.bS g)},⟨aY.symm,b,O,.inl ⟨aY,lb,?_⟩⟩,.inr ⟨rfl,kk,bD,g2,ei,x,a,d5,aw,Z,al.1.Vz (fun e=>{e with on:=x.on}) w.bS.eK (fun _=>⟨rfl,rfl,rfl⟩) fun _ h=>h,?_⟩⟩
  .with_reducible rfl
  .unfold I2
   with_reducible rfl
 .exact at1 xi h
def ao5 (w:bQ) (ax:lU w) {nm:aH3} {n rm:Int} {l:aH4} {g:aH8} {over:Bool} (V:w.bO= .pu nm n rm l g over true) (ag:f2 w.z w.R w.L nm l g) (qC:gZ (er w.bS.f0)=true) (dO:gJ w.Q (gS w.bS g)=0):
  cD prog 87 [ap 1401] (cV w) [] (X:=nW (wu w g)) (fun p=>ab p.1.1) (fun p=>cV p.1.2):=by
 have jt:=Xy (b:=w.b) (n:=n) (rm:=rm) (over:=over) ag;have U:=XJ ax.q.tooK w.lb;have H:=XK ax.q;have UW:=ag.NE;have qW:=N5 w.Q (gS w.bS g) (by have:=ax.q.len;omega) (by have:=D9 qC;show(er w.bS.f0).length<=_;omega) (by show(oE g).length<=_;rw[Nz];omega) (XP ag w.bS);rw[dO] at qW;have J:=aoN (ax.q.tooK.add (gS w.bS g)) ax.qi;have dR:=Fn.ow (b:=w.db) [1002,1003,1004] 1101 (alw ax.ds w.bS.eK);have Ci:eA (mG w.ds w.bS.eK oG):=ax.ds.Vz oG w.bS.eK (fun _=>⟨rfl,rfl,rfl⟩) fun e k=>⟨k.1,k.2.1,H' k.2.2 _ _⟩
 have zD:=ax.d9;have zs:=ax.en;have gY:=ax.ds;obtain⟨asX,ao6,_⟩:=ax.dk;have aC:=O7 ax.cs ao6;obtain⟨z,R,L,aU,db,ds,es,M,lb,Q,eF,bO,bS⟩:=w;obtain⟨f0,eK,en⟩:=bS;simp only at V dO zD zs Ci gY aC;subst V
 by_cases aY:sq (g5 Q (gS ⟨f0,eK,en⟩ g))=0
 .simp only[aY] at J;have J:=aoO ⟨z,R,L,aU,db,ds,es,M,lb,Q,eF,.pu nm n rm l g over true,qj ⟨f0,eK,en⟩ g⟩ (F:=tC es (g5 Q (gS ⟨f0,eK,en⟩ g))) (S:=tD (g5 Q (gS ⟨f0,eK,en⟩ g))) J
  cases en with
  |none=>
   refine ia [5,6] func87 ?_;refine av jt <| av U <| av H <| av (Fn.aT [(1001,3001),(1002,3002),(1003,3003)] qW) <| fR <| bG.iF eY aE0 ⟨_,_,_,fun g=>_,fun g=>_,cD.aT [(3002,3003)] J,aA,rfl,fun _=>rfl,fun x=>?_⟩;obtain⟨⟨b,O⟩,E3⟩:=x;exact bw [] (bn) <| dh ⟨fun _ h=>aE7,fun _=>⟨eG aE0,⟨(0,_),.inr ⟨dO,_,⟨aY.symm,b,O,.inl ⟨aY,E3,rfl⟩⟩,.inl ⟨.inr (.inl rfl),rfl⟩⟩⟩,_,_,_,bn,rfl,rfl,aA,rfl⟩⟩
  |some p=>
   obtain⟨kk,bD,g2,ei⟩:=p;obtain⟨cl,cY,ek⟩:=zs _ rfl;have cl:bD=((b7 L aU*2 ^z:Nat):Int):=cl;have cY:g2=1:=cY
   cases Z:dE ds eK with
   |none=>
    simp only[Ig Z,Ie Z] at dR;refine ia [5,6] func87 ?_;refine av jt <| av U <| av H <| av (Fn.aT [(1001,3001),(1002,3002),(1003,3003)] qW) <| fR <| bG.iF eY aE0 ⟨_,_,_,fun g=>_,fun g=>_,cD.aT [(3002,3003)] J,aA,rfl,fun _=>rfl,fun y=>?_⟩;obtain⟨⟨b,O⟩,E3⟩:=y;exact bw [] (bn) <| dh ⟨fun _ _=>av dR ⟨eG aE0,fR ⟨⟨(0,_),.inr ⟨dO,_,⟨aY.symm,b,O,.inl ⟨aY,E3,rfl⟩⟩,.inl ⟨.inr (.inr Z),rfl⟩⟩⟩,_,_,_,bn,rfl,rfl,aA,rfl⟩⟩,fun h=>aE7⟩
   |some x=>
    simp only[If Z] at dR;obtain⟨yt,sU⟩:=zD x (lR Z).1;obtain⟨cr,cv,dm,eu⟩:=gY.ok x (lR Z).1;have GR:eK.length<=64:=(lR Z).2▸eu;have bu:gZ eK=true:=(lR Z).2▸yt.nm;have cd:=XN (u:=oG) (fun _=>rfl) Z;have aV:=O' Ci db cd;have zn:=ao2 (b:=kk) (akN x.s x.g (oG x).es bD g2 ei cr cv aD7 aD7 aD7);have ao7:=Fn.ow (b:=db) [1002,1003,1004] 1101 (aly Ci eK);obtain⟨ey,bv⟩:=XO Ci.kb cd;have zQ:=XI (Ci.nC eK) db eK aD7 x.s x.g (BO x.s x.g (oG x).es (kh bD g2 ei)) ⟨cr,cv,akR (H' dm _ _) _ _⟩
    have xi:so (ls (mG ds eK oG) eK) eK=0:=(mu (by rw[bu];decide)).trans (mu (by
     have:=Ci.len;rw[ey];rintro(h |h)
     .cases h
     .omega))
    simp only[xi] at zQ;refine ia [5,6,12] func87 ?_;refine av jt <| av U <| av H <| av (Fn.aT [(1001,3001),(1002,3002),(1003,3003)] qW) <| fR <| bG.iF eY aE0 ⟨_,_,_,fun g=>_,fun g=>_,cD.aT [(3002,3003)] J,aA,rfl,fun _=>rfl,fun y=>?_⟩;obtain⟨⟨b,O⟩,E3⟩:=y;refine bw [12] (bn) <| dh ⟨fun _ _=>av dR ⟨eG aE0,dh <| av aV ⟨rfl,eG aE0,av (Fn.aT [(1001,5001),(1002,5002)] zn) ⟨eG aE0,av ao7 ⟨eG aE0,av (Fn.aT [(2001,5001),(2002,5002)] zQ) ⟨eG aE0,bG.fW (dF.jk 1101 rfl) fun aH=>?_⟩⟩⟩⟩⟩,fun h=>aE7⟩;obtain⟨l',fG⟩:=aH;have ao8:=Fn.ow (b:=db) [1002,1003,1004] 1101 (alv fG.1 eK x.on);exact bw [] (bn) <| av ao8 ⟨eG aE0,⟨(0,_),ao4 (w:=⟨z,R,L,aU,db,ds,es,M,lb,Q,eF,.pu nm n rm l g over true,⟨f0,eK,some (kk,bD,g2,ei)⟩⟩) (lb:=E3) dO aY O (Eq.refl _) Z xi fG⟩,_,_,_,bn,rfl,rfl,aA,rfl⟩
 .have h0: ∀b:{b:Nat//b∉M.map (·.1)},zR ⟨z,R,L,aU,db,ds,es,M,lb,Q,eF,.pu nm n rm l g over true,qj ⟨f0,eK,en⟩ g⟩ (g5 Q (gS ⟨f0,eK,en⟩ g)) (sq (g5 Q (gS ⟨f0,eK,en⟩ g))) ⟨z,R,L,aU,db,ds,tC es (g5 Q (gS ⟨f0,eK,en⟩ g)) b.1,(b.1,tD (g5 Q (gS ⟨f0,eK,en⟩ g)) b.1)::M,lb,Q,eF,.pu nm n rm l g over true,qj ⟨f0,eK,en⟩ g⟩:=fun b=>⟨Eq.refl _,b.1,b.2,.inr ⟨aY,Eq.refl _⟩⟩
  have J:=aoP ⟨z,R,L,aU,db,ds,es,M,lb,Q,eF,.pu nm n rm l g over true,qj ⟨f0,eK,en⟩ g⟩ aY (F:=tC es (g5 Q (gS ⟨f0,eK,en⟩ g))) (S:=tD (g5 Q (gS ⟨f0,eK,en⟩ g))) J;generalize sq (g5 Q (gS ⟨f0,eK,en⟩ g))=e at h0 aY J;refine ia [5,6] func87 ?_;exact av jt <| av U <| av H <| av (Fn.aT [(1001,3001),(1002,3002),(1003,3003)] qW) <| fR <| bG.iF eY aE0 ⟨_,_,_,fun g=>_,fun g=>_,cD.aT [(3002,3003)] J,aA,rfl,fun _=>rfl,fun x=>bw [] (bn) ⟨fun _=>⟨eG aE0,⟨(e,_),.inr ⟨dO,_,h0 x,.inl ⟨.inl aY,rfl⟩⟩⟩,_,_,_,bn,rfl,rfl,aA,rfl⟩,fun h=>at1 h (by simp[aY])⟩⟩
abbrev I3:Type:=List bh×gR×fo×Nat×List cb
abbrev Cj (w:bQ) (g:aH8) (t:I3):bQ:={w with bS:=qj w.bS g,ds:=t.1,es:=t.2.1,M:=t.2.2.1,lb:=t.2.2.2.1,Q:=t.2.2.2.2}
def zT {w w':bQ} {Q:aI5} {e:Int} (h:zR w Q e w'):w'={w with es:=w'.es,M:=w'.M,lb:=w'.lb,Q:=w'.Q}:=by
 obtain⟨_,b,_,⟨_,lb,rfl⟩ |⟨_,rfl⟩⟩:=h
 .with_reducible rfl
 .with_reducible rfl
def XQ {w w':bQ} {g:aH8} {e:Int} (h:wu w g e w'):w'=Cj w g (w'.ds,w'.es,w'.M,w'.lb,w'.Q):=by
 rcases h with⟨_,_,rfl⟩ |⟨_,eH,G,⟨_,rfl⟩ |⟨_,kk,bD,g2,ei,x,a,b,_,_,_,rfl⟩⟩
 .with_reducible rfl
 .have ah:=zT G;rw[ah]
 .have ah:=zT G;rw[ah]
def ao9 (w:bQ) (ax:lU w) {nm:aH3} {n rm:Int} {l:aH4} {g:aH8} {over:Bool} (V:w.bO= .pu nm n rm l g over true) (ag:f2 w.z w.R w.L nm l g) (qC:gZ (er w.bS.f0)=true):
  cD prog 87 [ap 1401] (cV w) [] (X:={p:Int×I3//wu w g p.1 (Cj w g p.2)}) (fun p=>ab p.1.1) (fun p=>cV (Cj w g p.1.2)):=by
 have h:cD prog 87 [ap 1401] (cV w) [] (X:=nW (wu w g)) (fun p=>ab p.1.1) (fun p=>cV p.1.2):=by
  by_cases dO:gJ w.Q (gS w.bS g)=0
  .exact ao5 w ax V ag qC dO
  .exact ao3 w ax V ag qC dO
 exact h.to (fun x=>⟨(x.1.1,x.1.2.ds,x.1.2.es,x.1.2.M,x.1.2.lb,x.1.2.Q),XQ x.2▸x.2⟩) (fun _=>rfl) fun x=>at2 cV (XQ x.2)
end
section
section
variable {P:aI0} {ids:aH4} {K:aW} {B:ay} {o:Oper}
abbrev ss (f b:Nat):Value:=.func (.func f) #[.pointer (some ⟨b,0,none⟩)] #[]
def xV (b:Nat):Nat->aH4->List MapEntry->Prop
 |_,[],es=>es=[]
 |i,f::fs,es=> ∃e r,es=e::r/\e.key= .int .i64 (i:Int)/\e.val=ss f b/\xV b (i+1) fs r
def xV.B6 {b f:Nat}: ∀{fs:aH4} {i:Nat} {es:aJ1} {e:MapEntry},xV b i fs es->e.key= .int .i64 ((i+fs.length:Nat):Int)->e.val=ss f b->xV b i (fs++[f]) (es++[e])
 | [],i,es,e,h,E,G=>by rw[show es=[] from h];exact⟨e,[],rfl,E,G,rfl⟩
 |x::fs,i,_,e,⟨cc,r,h,bM,bU,a3⟩,E,G=>by
  rw[h];exact⟨cc,r++[e],rfl,bM,bU,xV.B6 a3 (by rw[E,aw7,show i+(fs.length+1)=i+1+fs.length by omega]) G⟩
def Pf {b:Nat} {k:Int}: ∀{fs:aH4} {i:Nat} {es:aJ1} (j:Nat),xV b i fs es->
  ((k < (i:Int)\/((i+fs.length:Nat):Int)<=k)->Instr.findNow (.int .i64) (.int .i64 k) es j=some none)/\(∀(m:Nat) (aC:m < fs.length),k=((i+m:Nat):Int)->Instr.findNow (.int .i64) (.int .i64 k) es j=some (some (j+m,ss fs[m] b)))
 | [],i,es,j,h=>by
  rw[show es=[] from h];exact⟨fun _=>rfl,fun m aC=>at1 aC (aC7 _)⟩
 |f::fs,i,_,j,⟨e,r,h,bM,bU,a3⟩=>by
  subst h;obtain⟨aH,aM,rs⟩:=MapKept.sameNow_of_keys (sE (aF:=aq) (d:=.int .i64) rfl k) (sE (aF:=aq) (d:=.int .i64) rfl ((i:Nat):Int));have aM:Instr.sameNow (.int .i64) (.int .i64 k) e.key=some aH:=by rw[bM];exact aM
  obtain⟨r1,r2⟩:=Pf (k:=k) (j+1) a3
  by_cases Z:k=(i:Int)
  .have ao':aH=true:=rs.2 (by rw[Z]);subst ao';refine⟨fun bd=>?_,fun m aC bd=>?_⟩
   .rw[aw7] at bd;omega
   .obtain rfl:m=0:=aE5
    simp[Instr.findNow,aM,bU]
  .have apa:aH=false:=by
    cases aH with
    |false=>rfl
    |true=>
     have:=rs.1 rfl;injection this with _ G
     exact at1 G Z
   subst apa;refine⟨fun bd=>?_,fun m aC bd=>?_⟩
   .simp only[Instr.findNow,aM];exact r1 (by rw[aw7] at bd;omega)
   .cases m with
    |zero=>exact at1 bd Z
    |succ m=>
     have:=r2 m (by simpa using aC) (by rw[bd];omega);simp only[Instr.findNow,aM];simp only[List.getElem_cons_succ];rw[show j+(m+1)=j+1+m by omega];exact this
def E4 (b:Nat) (fs:aH4):bc where
 bo:=fun _ F w p=>(∀x,F x↔x=p.bf)/\ ∃bT bY,w.heap[p.bf]? =some (.map (List.toArray bT) bY)/\xV b 0 fs bT/\mm bT bY
 cj:=fun _ F w _ w' p ⟨E,bT,bY,G,ah⟩ _ bg _=>⟨E,bT,bY,(bg _ ((E _).2 rfl)).trans G,ah⟩
def Pg (b:Nat) (fs:aH4) (ch:a8):Prop:=(fs=[]/\ch= .map aq .fn [])\/ch= .az (E4 b fs)
def Pg.holds {b:Nat} {fs:aH4} {ch:a8} (h:Pg b fs ch) {ρ:Nat->bp} {I F:Nat->Prop} {w:aH9} {p:bp} (bd:Holds ρ I F w p ch):(E4 b fs).bo I F w p:=by
 rcases h with⟨rfl,rfl⟩ |rfl
 .obtain⟨E,bT,bY,G,ah,aS⟩:=bd;exact⟨E,bT,bY,G,ah,aS⟩
 .exact bd
def su {T kt et:aI3} {x i v:aI2} {c f b:Nat} (ai:o.op= .insert T x i v) (bR:P.underlying T=some (.map kt et)) (jQ:P.underlying kt=some (.int .i64)) {fs:aH4} {ch:a8} (hx:a1 K x= .c (.one (.mp c))) (Z:a1 K i= .c (.one (.d (.int .i64 (fs.length:Nat)))))
  (aB:a1 K v=zq f b) (J:ae B c=some ch) (hw:Pg b fs ch) (N:Nat):bx P N ids o K B .undef ⟨[c],[],[(c,some (.az (E4 b (fs++[f]))))]⟩:=by
 have cC:x∈o.op.operands:=aE4
 have dg:i∈o.op.operands:=aE4
 have jd:v∈o.op.operands:=aE4
 refine bx.Nh J fun K' B' g1 g2 C ρ F a w ak au fG=>?_
 obtain⟨bg,bT,bY,O,aC,de⟩:=hw.holds (ak.holds c _ fG);have af:=au.mp ((g1 x cC).trans hx);have ao:a.eval i= .int .i64 ((fs.length:Nat):Int):=au.int ((g1 i dg).trans Z);have br:a.eval v=ss f b:=au.ev ((g1 v jd).trans aB);have qQ:=fun e=>MapKept.run_checkKey (P:=P) (w:=w) jQ (sE (aF:=aq) (d:=.int .i64) rfl ((fs.length:Nat):Int)) e 9999
 have ed:=fun o=>MapKept.run_setObj_map (P:=P) o O
 have hf:=MapKept.run_findKey (P:=P) (w:=w) jQ ((Pf 0 aC).1 (.inr (by rw[ax6];exact Int.le_refl _)));have bv:=ml O;simp only[gM] at qQ
 have aj:(Instr.mapUpdate T (.map (some (ρ c).bf)) (.int .i64 ((fs.length:Nat):Int)) (ss f b)).run P w= .ok () {w with heap:=w.heap.setIfInBounds (ρ c).bf (.map (List.toArray (bT++[⟨.int .i64 ((fs.length:Nat):Int),ss f b,bY⟩])) (bY+1))}:=by
  simp[Instr.mapUpdate,run_underlying bR,az1 O,qQ,hf,ed,Result.andThen]
 refine⟨{w with heap:=w.heap.setIfInBounds (ρ c).bf (.map (List.toArray (bT++[⟨.int .i64 ((fs.length:Nat):Int),ss f b,bY⟩])) (bY+1))},?_,t6 ((bg _).2 rfl),fun I aY=>⟨bg,bT++[⟨.int .i64 ((fs.length:Nat):Int),ss f b,bY⟩],bY+1,by simp[bv],xV.B6 aC (by rw[ax6]) rfl,P7 de _ _⟩⟩;simp only[execOp,ai,aw3,af,ao,br,aj,au6,ax1]
def apb {aQ:df} (bl:d6 P aQ) {T kt et:aI3} {x i:aI2} {c b:Nat} (ai:o.op= .lookup T x i true) (bR:P.underlying T=some (.map kt et)) (jQ:P.underlying kt=some (.int .i64)) {ti:b8} (gW:aQ.find et=some ti) {fs:aH4} (hx:a1 K x= .c (.one (.mp c))) {key:Int} (Z:a1 K i= .c (.one (.d (.int .i64 key))))
  (J:ae B c=some (.az (E4 b fs))) {m:Nat} {f:Nat} (aC:fs[m]? =some f) (apc:key=(m:Int)) (N:Nat):bx P N ids o K B (.b4 [.one (.bK (ss f b)),.one (.d (.lit true))]) ⟨[c],[],[]⟩:=by
 have cC:x∈o.op.operands:=aE4
 have dg:i∈o.op.operands:=aE4
 obtain⟨G2,d,bu⟩:=bl.at_ gW;obtain⟨aH,aM,o4⟩:=bu.zero;refine bx.val fun K' B' g1 g2 C ρ F a w ak au=>?_
 obtain⟨bg,bT,bY,O,Ln,de⟩:(E4 b fs).bo _ _ w _:=ak.holds c _ ((g2 c aD9).trans J);have af:=au.mp ((g1 x cC).trans hx);have ao:a.eval i= .int .i64 key:=au.int ((g1 i dg).trans Z);have qQ:=fun e=>MapKept.run_checkKey (P:=P) (w:=w) jQ (sE (aF:=aq) (d:=.int .i64) rfl key) e 9999
 obtain⟨al,U⟩:=au0.1 aC;have hf:=MapKept.run_findKey (P:=P) (w:=w) jQ ((Pf (k:=key) 0 Ln).2 m al (by rw[ax6];exact apc));rw[U] at hf;refine⟨.tuple #[ss f b,.bool true],?_,⟨[ss f b,.bool true],rfl,_,_,rfl,rfl,_,_,rfl,rfl,rfl⟩⟩
 have aj:(Instr.lookup T (.map (some (ρ c).bf)) (.int .i64 key) true).run P w= .ok (.tuple #[ss f b,.bool true]) w:=by
  simp only[gM] at qQ hf;simp[Instr.lookup,run_underlying bR,az1 O,qQ,hf,Result.andThen]
 simp only[execOp,ai,aw3,af,ao,aj,au6,ax1]
end
def cD.mk {P:aI0} {f:aI9} {c m b:Nat} {args:List aN} {aK:ay} {ba:aH4} {X:Type} {res:X->aN} {aO:X->ay} (h:cD P f (.c (.one (.ptr c 0))::args) aK ba res aO) (E:((ae aK m).isNone&& !ba.contains c&& !ba.contains m)=true) (G: ∀g,(ae (aO g) m).isNone=true):
  cD P f (.c (.one (.d (.aL (some b))))::args) (aK++[(m,.b5 c (e7 b))]) ba res (fun g=>aO g++[(m,.b5 c (e7 b))]):=by
 obtain⟨fP,h⟩:=h;simp only[as8,av3,aC8] at E G;obtain⟨⟨bM,bU⟩,a3⟩:=E;have bU:=w0 bU;have hL: ∀(B:ay) {e:Nat} {ch:a8},ae B e=some ch->ae (B++[(m,.b5 c (e7 b))]) e=some ch:=fun B {e ch} U=>by rw[h9,U]
 have one: ∀(B:ay),ae B m=none->ae (B++[(m,.b5 c (e7 b))]) m=some (.b5 c (e7 b)):=fun B hn=>by rw[h9,hn];simp[ae]
 have uj: ∀(B:ay) {e:Nat} {ch:a8},ae (B++[(m,.b5 c (e7 b))]) e=some ch->(ae B e=some ch)\/(ae B e=none/\e=m/\ch= .b5 c (e7 b)):=fun B {e ch} U=>by
  rw[h9] at U
  cases bd:ae B e with
  |some y=>rw[bd] at U;exact .inl U
  |none=>
   rw[bd] at U;simp only[co] at U
   split at U
   .rename_i ao;injection U with U;exact .inr ⟨rfl,ao.symm,U.symm⟩
   .cases U
 refine⟨fP,fun ρ F I w b0 a7 c' bg eE bW dG=>?_⟩;have aC:(ρ c).bf=b/\ ∀x,¬F m x:=c' m _ (one aK bM);have m7: ∀y,(∃e ch,ae aK e=some ch/\F e y)-> ∃e ch,ae (aK++[(m,a8.b5 c (e7 b))]) e=some ch/\F e y:=fun y ⟨e,ch,U,aD⟩=>⟨e,ch,hL _ U,aD⟩
 match b0,bW with
 |v0::b0,bW=>
 have yL:v0= .pointer (some ⟨b,0,none⟩):=dG 0 _ v0 rfl rfl;refine(h ρ F I w (v0::b0) a7 (fun e ch U=>c' e ch (hL _ U)) (fun e ch U=>bg e ch (hL _ U)) (fun e cc ch ch' x U hH=>eE e cc ch ch' x (hL _ U) (hL _ hH)) (by simpa using bW) ?_).mono ?_
 .intro i v x aB hx
  match i with
  |0=>
   simp only[au4,at5] at aB hx;subst aB hx;show v0=_;rw[aC.1];exact yL
  |i+1=>exact dG (i+1) v x aG0 hx
 .rintro e w' ⟨g,x,ρ',F',rfl,cF,dl,I',jq,gG,lC,ax,hU,sY⟩;have a6: ∀{e ch},ae (aO g) e=some ch->e≠m:=fun {e ch} U ao=>by rw[ao,G g] at U;cases U
  refine⟨g,x,ρ',fun e=>if e=m then(fun _=>False) else F' e,rfl,cF.mono fun y _ aD=>m7 y aD,dl,I',jq,fun y aD=>⟨(gG y aD).1,?_⟩,?_,?_,?_,sY⟩
  .rcases(gG y aD).2 with h |h |h
   .exact .inl h
   .exact .inr (.inl (m7 y h))
   .exact .inr (.inr h)
  .intro e ch U;rcases uj _ U with U |⟨_,rfl,rfl⟩
   .simp only[mu (a6 U)];exact lC e ch U
   .simp only[if_true];exact⟨by rw[dl c bU];exact aC.1,fun _ h=>h⟩
  .intro e ch U y aD;rcases uj _ U with U |⟨_,rfl,rfl⟩
   .simp only[mu (a6 U)] at aD;obtain⟨cu,cp,fD⟩:=ax e ch U y aD;exact⟨cu,cp,fD.imp (m7 y) id⟩
   .simp only[if_true] at aD
  .intro e cc ch ch' y U hH hn aD d';rcases uj _ U with cl |⟨_,rfl,rfl⟩
   .rcases uj _ hH with cY |⟨_,rfl,rfl⟩
    .simp only[mu (a6 cl)] at aD;simp only[mu (a6 cY)] at d';exact hU e cc ch ch' y cl cY hn aD d'
    .simp only[if_true] at d'
   .simp only[if_true] at aD
def apd {P:aI0} {T:Nat} {name:String} {f:Nat} (h:((P.info? T).bind fun i=>(i.methods.find? (·.name == name)).map fun m=>(m.path.isEmpty,m.func))=some (true,some (f,true))): ∃c9 m,P.info? T=some c9/\c9.methods.find? (·.name == name)=some m/\m.path= #[]/\m.func=some (f,true):=by
 cases E:P.info? T with
 |none=>rw[E] at h;cases h
 |some c9=>
  rw[E] at h
  cases G:c9.methods.find? (·.name == name) with
  |none=>simp only[Option.bind_some,G,Option.map_none] at h;cases h
  |some m=>
   simp only[Option.bind_some,G,az3,at5,az0] at h;exact⟨c9,m,rfl,G,Array.isEmpty_iff.1 h.1,h.2⟩
def kl {P:aI0} {ids:aH4} {K:aW} {B:ay} {o:Oper} {f:aI9} {c:Call} {x:aI2} {b:Nat} {aK:ay} {res:aN} {aO:ay} {T e:Nat} {name:String} (ai:o.op= .call c) (E:c.callee= .invoke x name) (G:c.args.toList=[]) (hx:a1 K x=DG T b)
  (aC:((P.info? T).bind fun i=>(i.methods.find? (·.name == name)).map fun m=>(m.path.isEmpty,m.func))=some (true,some (f,true))) (aZ:P.underlying T=some (.pointer e)) (hf:Fn P f [.c (.one (.d (.aL (some b))))] aK [] res aO) (h7:la B aK) (bu:mV aK [] aO=true) (N:Nat):
  bx P N ids o K B res ⟨ck aK,[],iC aK aO⟩:=by
 obtain⟨c9,m,cl,cY,ek,eL⟩:=apd aC;exact aeH (fuel:=P.types.size+99) ai E G hx aE1 cl cY ek eL aZ hf h7 bu N
end
section
def ape (w:bQ) (s:d1) (V:w.bO= .no):Fn prog 37 [ap 1401,k8 s] (cV w) [] (ab 1) (cV w):=by
 have bR:sk w.b w.bO= .nilIface:=by rw[V];rfl
 refine aP [] func37 ?_;refine⟨rfl,bm (fun N=>Sm rfl underlying79 (by exact at2 (fun v=>aN.c (.one (.bK v))) bR) N) ?_⟩;exact bb
def apf (w:bQ) (s:d1) (V:py w.bO=false):Fn prog 37 [ap 1401,k8 s] (cV w) [] (ab 0) (cV {w with bO:=.no}):=by
 obtain⟨z,R,L,aU,db,ds,es,M,lb,Q,b,bO,bS⟩:=w
 cases bO with
 |no=>cases V
 |dt top base l over=>
  refine aP [5] func37 ?_;refine⟨rfl,bm (pO rfl underlying79 rfl) ?_⟩;refine bm (fun N=>kl rfl rfl rfl rfl aE0 underlying80 (aok (z:=z) (R:=R) (L:=L) (top:=top) (base:=base) (l:=l) (over:=over) (b:=b)) aE9 rfl N) ?_;exact av (xS (z:=z) (R:=R) (L:=L) (aU:=aU) (db:=db) (lb:=lb) (m:=bS) (es:=es) (M:=M)) <| bw [] (ac.tz 1501 1001 rfl) bb
 |pl top base over=>
  refine aP [5] func37 ?_;refine⟨rfl,bm (pO rfl underlying79 rfl) ?_⟩;refine bm (fun N=>kl rfl rfl rfl rfl aE0 underlying143 (aon (z:=z) (R:=R) (L:=L) (top:=top) (base:=base) (over:=over) (b:=b)) aE9 rfl N) ?_;exact av (xS (z:=z) (R:=R) (L:=L) (aU:=aU) (db:=db) (lb:=lb) (m:=bS) (es:=es) (M:=M)) <| bw [] (ac.tz 1501 1001 rfl) bb
 |pu nm n rm l g over done=>
  refine aP [5] func37 ?_;refine⟨rfl,bm (pO rfl underlying79 rfl) ?_⟩;refine bm (fun N=>kl rfl rfl rfl rfl aE0 underlying81 (aop (z:=z) (R:=R) (L:=L) (nm:=nm) (n:=n) (rm:=rm) (l:=l) (g:=g) (over:=over) (done:=done) (b:=b)) aE9 rfl N) ?_;exact av (xS (z:=z) (R:=R) (L:=L) (aU:=aU) (db:=db) (lb:=lb) (m:=bS) (es:=es) (M:=M)) <| bw [] (ac.tz 1501 1001 rfl) bb
def apg (w:bQ) {top base:aH3} {l:aH4} {over:Bool} (V:w.bO= .dt top base l over) (a7:lO w.z w.R w.L top l) (s:d1):Fn prog 36 [ap 1401,k8 s] (cV w) [] (ab (e' w.z w.L top base l over).e) (cV {w with L:=(e' w.z w.L top base l over).L,bO:=if(e' w.z w.L top base l over).over=true then .no else .dt top base (e' w.z w.L top base l over).l (e' w.z w.L top base l over).over}):=by
 obtain⟨z,R,L,aU,db,ds,es,M,lb,Q,b,bO,bS⟩:=w;simp only at V;subst V;have aw:=aoj (b:=b) (base:=base) (over:=over) a7;simp only at aw⊢;generalize e' z L top base l over=r at aw⊢;have go: ∀gq,Fn prog 88 [ap 1401] (kH z R r.L es M aU db lb 1 gq (some b) none bS) [] g' (kH z R r.L es M aU db lb 0 .nilIface none none bS):=fun gq=>xS
 cases r with
 |mk ux e L' hF Ck=>
 simp only at aw⊢
 cases Ck with
 |true=>
  by_cases U:e=0
  .refine aP [8] func36 ?_;refine⟨rfl,bm (pO rfl underlying79 rfl) ?_⟩;refine bm (fun N=>kl rfl rfl rfl rfl aE0 underlying80 aw aE9 rfl N) ?_;refine⟨fun _=>⟨fun _ h=>aE7,fun _=>bm (fun N=>kl rfl rfl rfl rfl aE0 underlying80 (IX (z:=z) (R:=R) (L:=L') (top:=top) (base:=base) (l:=hF) (over:=true) (b:=b)) aE9 rfl N) ?_⟩,fun h=>at1 h aG8⟩;exact⟨fun _=>av (go _) <| bw [] (ac.tz 1501 1001 rfl) bb,fun h=>aE7⟩
  .refine aP [8] func36 ?_;refine⟨rfl,bm (pO rfl underlying79 rfl) ?_⟩;refine bm (fun N=>kl rfl rfl rfl rfl aE0 underlying80 aw aE9 rfl N) ?_;refine⟨fun h=>at1 (gd h) U,fun _=>bm (fun N=>kl rfl rfl rfl rfl aE0 underlying80 (IX (z:=z) (R:=R) (L:=L') (top:=top) (base:=base) (l:=hF) (over:=true) (b:=b)) aE9 rfl N) ?_⟩;exact⟨fun _=>av (go _) <| bw [] (ac.tz 1501 1001 rfl) bb,fun h=>aE7⟩
 |false=>
  by_cases U:e=0
  .refine aP [] func36 ?_;refine⟨rfl,bm (pO rfl underlying79 rfl) ?_⟩;refine bm (fun N=>kl rfl rfl rfl rfl aE0 underlying80 aw aE9 rfl N) ?_;refine⟨fun _=>⟨fun _ h=>aE7,fun _=>bm (fun N=>kl rfl rfl rfl rfl aE0 underlying80 (IX (z:=z) (R:=R) (L:=L') (top:=top) (base:=base) (l:=hF) (over:=false) (b:=b)) aE9 rfl N) ?_⟩,fun h=>at1 h aG8⟩;exact⟨fun h=>aE7,fun _=>bb⟩
  .refine aP [] func36 ?_;refine⟨rfl,bm (pO rfl underlying79 rfl) ?_⟩;refine bm (fun N=>kl rfl rfl rfl rfl aE0 underlying80 aw aE9 rfl N) ?_;refine⟨fun h=>at1 (gd h) U,fun _=>bm (fun N=>kl rfl rfl rfl rfl aE0 underlying80 (IX (z:=z) (R:=R) (L:=L') (top:=top) (base:=base) (l:=hF) (over:=false) (b:=b)) aE9 rfl N) ?_⟩;exact⟨fun h=>aE7,fun _=>bb⟩
def aph (w:bQ) {top base:aH3} {over:Bool} (V:w.bO= .pl top base over) (a7:b6 w.z w.R w.L) {d:aI} (H:dk w.L top=some d) (s:d1):Fn prog 36 [ap 1401,k8 s] (cV w) [] (ab (h2 w.z w.L top base over).e) (cV {w with L:=(h2 w.z w.L top base over).L,bO:=if(h2 w.z w.L top base over).over=true then .no else .pl top base (h2 w.z w.L top base over).over}):=by
 obtain⟨z,R,L,aU,db,ds,es,M,lb,Q,b,bO,bS⟩:=w;simp only at V;subst V;have aw:=aom (b:=b) (base:=base) (over:=over) a7 H;simp only at aw⊢;generalize h2 z L top base over=r at aw⊢;have go: ∀gq,Fn prog 88 [ap 1401] (kH z R r.L es M aU db lb 2 gq none none bS) [] g' (kH z R r.L es M aU db lb 0 .nilIface none none bS):=fun gq=>xS
 cases r with
 |mk ux e L' Ck=>
 simp only at aw⊢
 cases Ck with
 |true=>
  by_cases U:e=0
  .refine aP [8] func36 ?_;refine⟨rfl,bm (pO rfl underlying79 rfl) ?_⟩;refine bm (fun N=>kl rfl rfl rfl rfl aE0 underlying143 aw aE9 rfl N) ?_;refine⟨fun _=>⟨fun _ h=>aE7,fun _=>bm (fun N=>kl rfl rfl rfl rfl aE0 underlying143 (IY (z:=z) (R:=R) (L:=L') (top:=top) (base:=base) (over:=true) (b:=b)) aE9 rfl N) ?_⟩,fun h=>at1 h aG8⟩;exact⟨fun _=>av (go _) <| bw [] (ac.tz 1501 1001 rfl) bb,fun h=>aE7⟩
  .refine aP [8] func36 ?_;refine⟨rfl,bm (pO rfl underlying79 rfl) ?_⟩;refine bm (fun N=>kl rfl rfl rfl rfl aE0 underlying143 aw aE9 rfl N) ?_;refine⟨fun h=>at1 (gd h) U,fun _=>bm (fun N=>kl rfl rfl rfl rfl aE0 underlying143 (IY (z:=z) (R:=R) (L:=L') (top:=top) (base:=base) (over:=true) (b:=b)) aE9 rfl N) ?_⟩;exact⟨fun _=>av (go _) <| bw [] (ac.tz 1501 1001 rfl) bb,fun h=>aE7⟩
 |false=>
  by_cases U:e=0
  .refine aP [] func36 ?_;refine⟨rfl,bm (pO rfl underlying79 rfl) ?_⟩;refine bm (fun N=>kl rfl rfl rfl rfl aE0 underlying143 aw aE9 rfl N) ?_;refine⟨fun _=>⟨fun _ h=>aE7,fun _=>bm (fun N=>kl rfl rfl rfl rfl aE0 underlying143 (IY (z:=z) (R:=R) (L:=L') (top:=top) (base:=base) (over:=false) (b:=b)) aE9 rfl N) ?_⟩,fun h=>at1 h aG8⟩;exact⟨fun h=>aE7,fun _=>bb⟩
  .refine aP [] func36 ?_;refine⟨rfl,bm (pO rfl underlying79 rfl) ?_⟩;refine bm (fun N=>kl rfl rfl rfl rfl aE0 underlying143 aw aE9 rfl N) ?_;refine⟨fun h=>at1 (gd h) U,fun _=>bm (fun N=>kl rfl rfl rfl rfl aE0 underlying143 (IY (z:=z) (R:=R) (L:=L') (top:=top) (base:=base) (over:=false) (b:=b)) aE9 rfl N) ?_⟩;exact⟨fun h=>aE7,fun _=>bb⟩
def I4 (w:bQ) (nm:aH3) (n rm:Int) (l:aH4) (g:aH8) (e:Int) (w':bQ):Prop:=
 (l=[]/\ ∃t:I3,wu {w with bO:=.pu nm n rm [] g true true} g e (Cj {w with bO:=.pu nm n rm [] g true true} g t)/\w'={Cj w g t with bO:=.no})\/
 (l≠[]/\e=(eg w.z w.L nm rm l g (eJ l)).e/\w'={w with bO:=if(eg w.z w.L nm rm l g (eJ l)).over=true then .no else .pu nm n rm (eg w.z w.L nm rm l g (eJ l)).l (eg w.z w.L nm rm l g (eJ l)).g false false})
def api (w:bQ) (ax:lU w) {nm:aH3} {n rm:Int} {l:aH4} {g:aH8} (V:w.bO= .pu nm n rm l g false false) (ag:f2 w.z w.R w.L nm l g) (qC:gZ (er w.bS.f0)=true) (s:d1):
  cD prog 36 [ap 1401,k8 s] (cV w) [] (X:=nW (I4 w nm n rm l g)) (fun p=>ab p.1.1) (fun p=>cV p.1.2):=by
 have aw:=aoo (b:=w.b) (n:=n) (rm:=rm) (over:=false) (done:=false) ag
 by_cases al:l=[]
 .have U:kf w.z w.L nm rm l g false false=⟨true,0,[],g,true,true⟩:=by unfold kf;rw[mu aD8,vj al]
  rw[U] at aw;simp only at aw;have Ph:=ao9 {w with bO:=.pu nm n rm [] g true true} ⟨ax.cs,ax.kd,ax.ds,ax.d9,ax.q,ax.qi,ax.en⟩ rfl ag.nil qC;obtain⟨z,R,L,aU,db,ds,es,M,lb,Q,b,bO,bS⟩:=w;simp only at V;subst V;refine ia [5,6,8] func36 ?_;refine⟨rfl,bm (pO rfl underlying79 rfl) ?_⟩;refine bm (fun N=>kl rfl rfl rfl rfl aE0 underlying81 aw aE9 rfl N) ?_;refine fR ⟨fun _ _=>av (Xx (z:=z) (R:=R) (L:=L) (nm:=nm) (n:=n) (rm:=rm) (l:=[]) (g:=g) (over:=true) (done:=true) (b:=b)) ⟨fun _=>bG.iF eY aE0 ⟨_,_,_,fun g=>_,fun g=>_,Ph,aA,rfl,fun _=>rfl,fun x=>?_⟩,fun h=>aE7⟩,fun h=>aE7⟩;obtain⟨⟨af,t⟩,hx⟩:=x;refine bw [8] (bn) <| bm (fun N=>kl rfl rfl rfl rfl aE0 underlying81 (O3 (z:=z) (R:=R) (L:=L) (nm:=nm) (n:=n) (rm:=rm) (l:=[]) (g:=g) (over:=true) (done:=true) (b:=b)) aE9 rfl N) ?_;exact⟨fun _=>av (xS (z:=z) (R:=R) (L:=L) (aU:=aU) (db:=db) (lb:=t.2.2.2.1) (m:=qj bS g) (es:=t.2.1) (M:=t.2.2.1)) <| bw [] (ac.tz 1501 1001 rfl) ⟨⟨(af,⟨z,R,L,aU,db,t.1,t.2.1,t.2.2.1,t.2.2.2.1,t.2.2.2.2,b,.no,qj bS g⟩),.inl ⟨al,t,hx,Eq.refl _⟩⟩,_,_,_,bn,rfl,rfl,aA,rfl⟩,fun h=>aE7⟩
 .have U:kf w.z w.L nm rm l g false false=⟨false,(eg w.z w.L nm rm l g (eJ l)).e,(eg w.z w.L nm rm l g (eJ l)).l,(eg w.z w.L nm rm l g (eJ l)).g,(eg w.z w.L nm rm l g (eJ l)).over,false⟩:=by unfold kf;rw[mu aD8,mu al]
  rw[U] at aw
  have E5:(eg w.z w.L nm rm l g (eJ l)).over=decide ((eg w.z w.L nm rm l g (eJ l)).e≠0):=by
   unfold eg
   split <;>rfl
  have h0: ∀W:bQ,W={w with bO:=if(eg w.z w.L nm rm l g (eJ l)).over=true then .no else .pu nm n rm (eg w.z w.L nm rm l g (eJ l)).l (eg w.z w.L nm rm l g (eJ l)).g false false}->I4 w nm n rm l g (eg w.z w.L nm rm l g (eJ l)).e W:=fun W h=>.inr ⟨al,Eq.refl _,h⟩
  obtain⟨z,R,L,aU,db,ds,es,M,lb,Q,b,bO,bS⟩:=w;simp only at V aw E5 h0;subst V;generalize eg z L nm rm l g (eJ l)=r at aw E5 h0;obtain⟨e,hF,g2,Ck⟩:=r;simp only at aw E5 h0
  by_cases I5:e=0
  .obtain rfl:Ck=false:=by rw[E5];simp[I5]
   refine ia [] func36 ?_;refine⟨rfl,bm (pO rfl underlying79 rfl) ?_⟩;refine bm (fun N=>kl rfl rfl rfl rfl aE0 underlying81 aw aE9 rfl N) ?_;refine⟨fun _=>⟨fun _ _=>av (Xx (z:=z) (R:=R) (L:=L) (nm:=nm) (n:=n) (rm:=rm) (l:=hF) (g:=g2) (over:=false) (done:=false) (b:=b)) ⟨fun h=>aE7,fun _=>bm (fun N=>kl rfl rfl rfl rfl aE0 underlying81 (O3 (z:=z) (R:=R) (L:=L) (nm:=nm) (n:=n) (rm:=rm) (l:=hF) (g:=g2) (over:=false) (done:=false) (b:=b)) aE9 rfl N) ?_⟩,fun h=>aE7⟩,fun h=>at1 I5 (oj h)⟩;exact⟨fun h=>aE7,fun _=>⟨⟨(e,⟨z,R,L,aU,db,ds,es,M,lb,Q,b,.pu nm n rm hF g2 false false,bS⟩),h0 _ (Eq.refl _)⟩,_,_,_,bn,rfl,rfl,aA,rfl⟩⟩
  .obtain rfl:Ck=true:=by rw[E5];simp[I5]
   refine ia [8] func36 ?_;refine⟨rfl,bm (pO rfl underlying79 rfl) ?_⟩;refine bm (fun N=>kl rfl rfl rfl rfl aE0 underlying81 aw aE9 rfl N) ?_;refine⟨fun h=>at1 (gd h) I5,fun _=>bm (fun N=>kl rfl rfl rfl rfl aE0 underlying81 (O3 (z:=z) (R:=R) (L:=L) (nm:=nm) (n:=n) (rm:=rm) (l:=hF) (g:=g2) (over:=true) (done:=false) (b:=b)) aE9 rfl N) ?_⟩;exact⟨fun _=>av (xS (z:=z) (R:=R) (L:=L) (aU:=aU) (db:=db) (lb:=lb) (m:=bS) (es:=es) (M:=M)) <| bw [] (ac.tz 1501 1001 rfl) ⟨⟨(e,⟨z,R,L,aU,db,ds,es,M,lb,Q,b,.no,bS⟩),h0 _ (Eq.refl _)⟩,_,_,_,bn,rfl,rfl,aA,rfl⟩,fun h=>aE7⟩
end
section
def apj (w:bQ) (s:d1) (V:w.bO= .no):Fn prog 36 [ap 1401,k8 s] (cV w) [] (ab 1) (cV w):=by
 have bR:sk w.b w.bO= .nilIface:=by rw[V];rfl
 refine aP [] func36 ?_;refine⟨rfl,bm (fun N=>Sm rfl underlying79 (by exact at2 (fun v=>aN.c (.one (.bK v))) bR) N) ?_⟩;exact bb
abbrev Pi (ds:aI1):=Nat×Nat×{l:List bh//eA l/\l.map B1=(Ot ds).map Ix}
abbrev XR (w:bQ) (t:Pi w.ds):bQ:={w with db:=t.1,lb:=t.2.1,ds:=t.2.2.1,bO:=.no}
end
section
abbrev qk:aH4:=[28,29,30,31,32,33,34,35,36,37,38,39]
def xW (w:bQ) (s:d1) {bo:Int->bQ->Prop} {k f:Nat} (Z:s.kd=(k:Int)) (hf:qk[k]? =some f) (J:cD prog f [ap 1401,k8 s] (cV w) [] (X:=nW bo) (fun p=>ab p.1.1) (fun p=>cV p.1.2)):
  cD prog 8 [ap 1401,k8 s] (cV w) [] (X:=nW bo) (fun p=>ab p.1.1) (fun p=>cV p.1.2):=by
 refine ia [1,5] func8 ?_;refine⟨rfl,bG.fW (dF.mark 1401 1409 rfl aD8) fun b=>bw [5] (bn) ⟨rfl,bm (p5 (m:=1409) (b:=b) rfl rfl rfl) ?_⟩⟩;refine bm (su (fs:=qk.take 0) rfl underlying75 underlying3 rfl rfl rfl rfl (.inl ⟨rfl,rfl⟩)) ?_;refine bm (p5 (m:=1409) (b:=b) rfl rfl rfl) ?_;refine bm (su (fs:=qk.take 1) rfl underlying75 underlying3 rfl rfl rfl rfl (.inr rfl)) ?_;refine bm (p5 (m:=1409) (b:=b) rfl rfl rfl) ?_;refine bm (su (fs:=qk.take 2) rfl underlying75 underlying3 rfl rfl rfl rfl (.inr rfl)) ?_;refine bm (p5 (m:=1409) (b:=b) rfl rfl rfl) ?_;refine bm (su (fs:=qk.take 3) rfl underlying75 underlying3 rfl rfl rfl rfl (.inr rfl)) ?_;refine bm (p5 (m:=1409) (b:=b) rfl rfl rfl) ?_;refine bm (su (fs:=qk.take 4) rfl underlying75 underlying3 rfl rfl rfl rfl (.inr rfl)) ?_;refine bm (p5 (m:=1409) (b:=b) rfl rfl rfl) ?_;refine bm (su (fs:=qk.take 5) rfl underlying75 underlying3 rfl rfl rfl rfl (.inr rfl)) ?_;refine bm (p5 (m:=1409) (b:=b) rfl rfl rfl) ?_;refine bm (su (fs:=qk.take 6) rfl underlying75 underlying3 rfl rfl rfl rfl (.inr rfl)) ?_;refine bm (p5 (m:=1409) (b:=b) rfl rfl rfl) ?_;refine bm (su (fs:=qk.take 7) rfl underlying75 underlying3 rfl rfl rfl rfl (.inr rfl)) ?_;refine bm (p5 (m:=1409) (b:=b) rfl rfl rfl) ?_;refine bm (su (fs:=qk.take 8) rfl underlying75 underlying3 rfl rfl rfl rfl (.inr rfl)) ?_;refine bm (p5 (m:=1409) (b:=b) rfl rfl rfl) ?_;refine bm (su (fs:=qk.take 9) rfl underlying75 underlying3 rfl rfl rfl rfl (.inr rfl)) ?_;refine bm (p5 (m:=1409) (b:=b) rfl rfl rfl) ?_;refine bm (su (fs:=qk.take 10) rfl underlying75 underlying3 rfl rfl rfl rfl (.inr rfl)) ?_;refine bm (p5 (m:=1409) (b:=b) rfl rfl rfl) ?_;refine bm (su (fs:=qk.take 11) rfl underlying75 underlying3 rfl rfl rfl rfl (.inr rfl)) ?_;refine bm (apb eY (fs:=qk) rfl underlying75 underlying3 rfl rfl rfl rfl hf Z) ?_;exact bG.iF eY aE0 ⟨_,_,_,fun g=>_,fun g=>_,cD.mk (m:=1409) (b:=b) J rfl (fun _=>rfl),aA,rfl,fun _=>rfl,fun x=>⟨x,_,_,_,bn,rfl,rfl,aA,rfl⟩⟩
end
section
def cD.Ce {P:aI0} {f:aI9} {args:List aN} {aK:ay} {ba:aH4} {X:Type} {res:X->aN} {aO nA:X->ay} (h:cD P f args aK ba res aO) (G: ∀g c,ae (nA g) c=ae (aO g) c):cD P f args aK ba res nA:=by unfold cD at h⊢;simpa only[G] using h
structure tF (s:d1):Prop where
 b:s.b.length<=1000000
 nm:s.nm.length<=1000000
 l:s.l<=9223372036854775807
 ks:s.ks.length<=1073741824
 asY: ∀k∈s.ks,(anc k).length<=1073741824
inductive fp (w:bQ) (s:d1):Int->bQ->Prop where
 |VT (h:s.kd < 0\/12<=s.kd):fp w s 1 w
 |write (h:s.kd=0):fp w s (fw w.z w.L w.aU s.a s.b).e (hz w s.a ((s.b.length:Int)/16) (fw w.z w.L w.aU s.a s.b))
 |zero (h:s.kd=1):fp w s (ky w.z w.L w.aU s.a s.l).e (hz w s.a s.l (ky w.z w.L w.aU s.a s.l))
 |apk (h:s.kd=2) (aC:O6 w.bO=true):fp w s 143 w
 |I6 (h:s.kd=2) (aC:O6 w.bO=false):fp w s (kz w.L w.aU s.a s.l).e (hz w s.a s.l (kz w.L w.aU s.a s.l))
 |busy (h:s.kd=3\/(5<=s.kd/\s.kd<=7)) (V:py w.bO=false):fp w s 143 w
 |over (h:s.kd=3) (V:w.bO= .no) {e:Int} {w':bQ} (aj:XF w s e w'):fp w s e w'
 |eK (h:s.kd=4) (l':aI1) (aj:(nh ((d2 w*2 ^w.z:Nat):Int) s.a=true/\Cf w.ds s.nm true true ((d2 w*2 ^w.z:Nat):Int) s.a [] l')\/(nh ((d2 w*2 ^w.z:Nat):Int) s.a=false/\l'=w.ds)):fp w s (Cg w s) {w with ds:=l'}
 |merge (h:s.kd=5) (V:w.bO= .no) {e:Int} {w':bQ} (aj:XG w e w'):fp w s e w'
 |pull (h:s.kd=6) (V:w.bO= .no) {e:Int} {w':bQ} (aj:XH w s e w'):fp w s e w'
 |push (h:s.kd=7) (V:w.bO= .no) {e:Int} {w':bQ} (aj:Pd w s e w'):fp w s e w'
 |xu (h:s.kd=8) (V:w.bO= .no):fp w s 1 w
 |xX (h:s.kd=8) {top base:aH3} {l:aH4} (V:w.bO= .dt top base l false):fp w s (e' w.z w.L top base l false).e {w with L:=(e' w.z w.L top base l false).L,bO:=if(e' w.z w.L top base l false).over=true then .no else .dt top base (e' w.z w.L top base l false).l (e' w.z w.L top base l false).over}
 |xY (h:s.kd=8) {top base:aH3} (V:w.bO= .pl top base false):fp w s (h2 w.z w.L top base false).e {w with L:=(h2 w.z w.L top base false).L,bO:=if(h2 w.z w.L top base false).over=true then .no else .pl top base (h2 w.z w.L top base false).over}
 |xZ (h:s.kd=8) {nm:aH3} {n rm:Int} {l:aH4} {g:aH8} (V:w.bO= .pu nm n rm l g false false) {e:Int} {w':bQ} (aj:I4 w nm n rm l g e w'):fp w s e w'
 |I7 (h:s.kd=9) (V:w.bO= .no):fp w s 1 w
 |E6 (h:s.kd=9) (V:py w.bO=false):fp w s 0 {w with bO:=.no}
 |I8 (h:s.kd=10) (t:Pi w.ds):fp w s 0 (XR w t)
 |drop (h:s.kd=11) {e:Int} {w':bQ} (aj:aoQ w s e w'):fp w s e w'
def cD.oQ {P:aI0} {f:aI9} {args:List aN} {aK:ay} {ba:aH4} {bo E7:Int->bQ->Prop} (h:cD P f args aK ba (X:=nW bo) (fun p=>ab p.1.1) (fun p=>cV p.1.2)) (h0: ∀e w',bo e w'->E7 e w'):cD P f args aK ba (X:=nW E7) (fun p=>ab p.1.1) (fun p=>cV p.1.2):=
 h.to (fun p=>⟨p.1,h0 _ _ p.2⟩) (fun _=>rfl) (fun _=>rfl)
def Fn.oQ {P:aI0} {f:aI9} {args:List aN} {aK:ay} {ba:aH4} {E7:Int->bQ->Prop} {e:Int} {w':bQ} (h:Fn P f args aK ba (ab e) (cV w')) (h0:E7 e w'):cD P f args aK ba (X:=nW E7) (fun p=>ab p.1.1) (fun p=>cV p.1.2):=
 h.x.to (fun _=>⟨(e,w'),h0⟩) (fun _=>rfl) (fun _=>rfl)
def uO {j:lA} (h:py j=true):j= .no:=by
 cases j with
 |no=>rfl
 |_=>cases h
end
section
def XS (es:aH5) (f k:Int): ∀n:Nat,qc (qT es f n) k=if f<=k/\k < f+(n:Int) then true else qc es k
 |0=>by
  rw[mu aD7];rfl
 |n+1=>by
  have bk:=XS es f k n;have h:=yR (aF:=aq) (aJ:=aq) rL (f+(n:Int)) (1:Int) (qT es f n);show zo ((bX (aF:=aq) (aJ:=aq) (dp (aF:=aq) (aJ:=aq) (qT es f n) (f+(n:Int)) (1:Int)) k).getD (cO aq))=_
  by_cases e:k=f+(n:Int)
  .rw[e,h.1,vj aD7];rfl
  .rw[h.2 k e];refine bk.trans ?_
   by_cases G:f<=k/\k < f+n
   .rw[vj G,vj aD7]
   .rw[mu G,mu aD7]
def XT {es:aH5} (U:ff es) (f k:Int): ∀n:Nat,qc (v7 es f n) k=if f<=k/\k < f+(n:Int) then false else qc es k
 |0=>by
  rw[mu aD7];rfl
 |n+1=>by
  have bk:=XT U f k n;have h:=DB (aF:=aq) (aJ:=aq) rL (f+(n:Int)) (v7 es f n) (H' U f n);show zo ((bX (aF:=aq) (aJ:=aq) (gN (aF:=aq) (aJ:=aq) (v7 es f n) (f+(n:Int))) k).getD (cO aq))=_
  by_cases e:k=f+(n:Int)
  .rw[e,h.1,vj aD7];rfl
  .rw[h.2 k e];refine bk.trans ?_
   by_cases G:f<=k/\k < f+n
   .rw[vj G,vj aD7]
   .rw[mu G,mu aD7]
def mg.set {s g:Int} {es:aH5} (h:mg s g es) (aw:0<=s/\s<=4096) (aV:1<=g/\g<=64) (fr bJ:Int):mg s g (lP s g es fr bJ):=fun aH aM=>by
 by_cases aB:v1 s fr bJ
 .have e:lP s g es fr bJ=qT es (fr/g) ((if bJ=0 then 0 else(fr+bJ+g - 1)/g) - fr/g).toNat:=vj aB;obtain⟨nw,v2,v3,v4⟩:=aB;have d3:0<=fr/g:=aD2 v2 aD7
  have gD:(if bJ=0 then 0 else(fr+bJ+g - 1)/g)<=pr s g:=by
   split
   .exact(Ez aw aV).1
   .exact aD5 aD7 aD7
  have ar:=(Ez aw aV).1;rw[e,XS] at aM;generalize(if bJ=0 then 0 else(fr+bJ+g - 1)/g)=q at aM gD
  split at aM
  .omega
  .exact h aH aM
 .have e:lP s g es fr bJ=es:=mu aB;rw[e] at aM;exact h aH aM
def mg.XU {s g:Int} {es:aH5} (h:mg s g es) (U:ff es):mg s g (EA s g es):=fun aH aM=>by
 unfold EA at aM;rw[XT U] at aM
 split at aM
 .cases aM
 .exact h aH aM
def mg.nO {s g:Int} {es:aH5} (h:mg s g es) (aw:0<=s/\s<=4096) (aV:1<=g/\g<=64) (l:aI6):mg s g (l.foldl (xy s g) es):=by
 induction l generalizing es with
 |nil=>exact h
 |cons x l bk=>
  refine bk ?_;unfold xy
  split
  .exact h.set aw aV _ _
  .exact h
def mg.dt {s g:Int} {es:aH5} (h:mg s g es) (aw:0<=s/\s<=4096) (aV:1<=g/\g<=64) (row:aI6):mg s g (BO s g es row):=mg.nO h aw aV _
def mg.nil (s g:Int):mg s g []:=fun aH aM=>by cases aM
def xH.of {e cc:bh} (h:xH e) (E:cc.s=e.s) (G:cc.g=e.g) (ah:cc.nm=e.nm) (aS:mg e.s e.g cc.es):xH cc:=⟨by rw[E,G];exact h.ok,by rw[E,G];exact aS,by rw[ah];exact h.nm⟩
def xH.wr {e:bh} (h:xH e) (aw:0<=e.s/\e.s<=4096) (aV:1<=e.g/\e.g<=64) (a aX:Int):xH (j1 a aX e):=h.of rfl rfl rfl (by
 show mg e.s e.g (if e.on=true then lP e.s e.g e.es a aX else e.es)
 split
 .exact h.gh.set aw aV a aX
 .exact h.gh)
def Pj {z:Nat} {L:aH6} {nm:aH3} {rm a aX:Int}: ∀(ks l:aH4) (g:aH8),(mI z L nm rm a aX ks l g).e=0->(mI z L nm rm a aX ks l g).over=false
 | [],l,g=>fun _=>rfl
 |k::ks,l,g=>by
  unfold mI
  split
  .exact Pj ks l g
  .split
   .exact Pj ks _ _
   .rename_i h;exact fun G=>at1 G h
def apl {z:Nat} {L:aH6} {nm:aH3} {rm a aX:Int} {l:aH4} {g:aH8} (h:(kg z L nm rm a aX l g false).e=0):(kg z L nm rm a aX l g false).over=false:=by
 unfold kg at h⊢;rw[mu aD8] at h⊢
 split at h
 .rename_i J;rw[vj J]
 .rename_i J;rw[mu J];exact Pj _ _ _ h
def apm {z R:Nat} {L:aH6} {aU:aH3} {j:lA} (h:xT z R L aU j) (a aX:Int):xT z R L aU (sm z L a aX j):=by
 cases j with
 |pu nm n rm l g over done=>
  obtain⟨rfl,rfl,rfl,E,G⟩:=h;unfold sm;simp only
  split
  .rename_i U;exact⟨rfl,apl U,rfl,E,G.ajL rm a aX false⟩
  .trivial
 |_=>exact h
def xT.r' {z R:Nat} {L L':aH6} {aU t:aH3} {j:lA} (h:xT z R L aU j) (al:iV L t L'):xT z R L' aU j:=by
 cases j with
 |no=>trivial
 |dt top base l over=>exact⟨h.1,h.2.1,h.2.2.r' al⟩
 |pl top base over=>exact h
 |pu nm n rm l g over done=>exact⟨h.1,h.2.1,h.2.2.1,by rw[(al.aR aU).1];exact h.2.2.2.1,h.2.2.2.2.r' al⟩
def apn {z R:Nat} {L:aH6} {aU:aH3} {j:lA} (h:xT z R L aU j) (a aX:Int):xT z R L aU (E1 z L a aX j):=by
 cases j with
 |dt top base l over=>exact⟨h.1,h.2.1,h.2.2.wr over a aX⟩
 |_=>exact h
def eU.tG {w:bQ} (ax:eU w) (a aX:Int) (r:nK) (al:iV w.L w.aU r.L):eU (hz w a aX r):=by
 have aM:=al.aR w.aU;have V:=(apm ax.bO a aX).r' al;have Z:=ax.kd;have ag: ∀j,tB (E1 w.z r.L a aX j)=tB j:=fun j=>by cases j <;>rfl
 have a2: ∀j,tB (sm w.z w.L a aX j)=true->tB j=true:=fun j h=>by
  cases j with
  |pu=>rfl
  |_=>exact h
 unfold hz
 split
 .refine⟨⟨al.cs ax.cs,by rw[<-aM.2] at Z;exact Z,(Xl a aX).map ax.ds,fun e U=>?_,ax.q,ax.qi,fun p ag=>?_⟩,apn V a aX,fun h=>ax.r9 (a2 _ ((ag _).symm.trans h))⟩
  .obtain⟨bC,ar,rfl⟩:=av7.1 U;obtain⟨e8,gH,_⟩:=ax.ds.ok bC ar;obtain⟨cC,dg⟩:=ax.d9 bC ar;exact⟨cC.wr e8 gH a aX,by show bC.s=((b7 r.L w.aU*2 ^w.z:Nat):Int);rw[aM.1];exact dg⟩
  .have ag:E2 a aX (sm w.z w.L a aX w.bO) w.bS.en=some p:=ag;show p.2.1=((b7 r.L w.aU*2 ^w.z:Nat):Int)/\_;rw[aM.1];unfold E2 at ag
   split at ag
   .exact ax.en p ag
   .obtain⟨q,a2,rfl⟩:=ax0.1 ag;obtain⟨kr,bD,sI⟩:=ax.en q a2;exact⟨kr,bD,NS sI _ _⟩
 .refine⟨⟨al.cs ax.cs,by rw[<-aM.2] at Z;exact Z,ax.ds,fun e U=>?_,ax.q,ax.qi,fun p ag=>?_⟩,V,fun h=>ax.r9 (a2 _ h)⟩
  .show _/\e.s=((b7 r.L w.aU*2 ^w.z:Nat):Int);rw[aM.1];exact ax.d9 e U
  .show p.2.1=((b7 r.L w.aU*2 ^w.z:Nat):Int)/\_;rw[aM.1];exact ax.en p ag
end
section
def wv {w:bQ} (h:lU w) {L':aH6} {t:aH3} (J:b6 w.z w.R L') (Z:(dk L' t).isSome=true) (aM:b7 L' t=b7 w.L w.aU) (b:Nat) (j:lA):lU {w with L:=L',aU:=t,b:=b,bO:=j}:=
 ⟨J,Z,h.ds,fun e U=>⟨(h.d9 e U).1,by rw[aM];exact(h.d9 e U).2⟩,h.q,h.qi,fun p ag=>by
  obtain⟨kr,bD⟩:=h.en p ag;exact⟨by rw[aM];exact kr,bD⟩⟩
def XV {z R:Nat} {L:aH6} (h:b6 z R L) (top base:aH3) (over:Bool):b6 z R (h2 z L top base over).L/\ ∀n,b7 (h2 z L top base over).L n=b7 L n/\(dk (h2 z L top base over).L n).isSome=(dk L n).isSome:=by
 unfold h2
 split
 .exact⟨h,fun _=>⟨rfl,rfl⟩⟩
 .cases oC L top base with
  |some k=>exact⟨(xm h _ _ _).cs h,fun n=>(xm h _ _ _).aR n⟩
  |none=>
   refine⟨MT h top base,fun n=>?_⟩;show b7 (ig L top base).L n=_/\_;unfold ig
   split
   .exact⟨rfl,rfl⟩
   .split
    .exact⟨rfl,rfl⟩
    .split
     .unfold b7;rw[mF]
      cases dk L n with
      |none=>exact⟨rfl,rfl⟩
      |some d=>
       show(eO top base d).im.t.length=d.im.t.length/\_;unfold eO
       split <;>exact⟨rfl,rfl⟩
     .exact⟨rfl,rfl⟩
def XW {z R:Nat} {L:aH6} (h:b6 z R L) (top base:aH3) (l:aH4) (over:Bool): ∃t,iV L t (e' z L top base l over).L:=by
 unfold e'
 split
 .exact⟨top,.inl rfl⟩
 .split
  .exact⟨top,vU h _ _ _⟩
  .exact⟨base,Ej h _ _ _⟩
def qh.x0 {es:gR} {M:fo} {Q Q':aI5} (h:qh es M Q) {b:Nat} (O:b∉M.map (·.1)):qh (tC es Q' b) ((b,tD Q' b)::M) (if sq Q'=0 then Q' else Q):=h.aoy O
def lU.x0 {w w':bQ} (h:lU w) {Q:aI5} (a2:sn Q) {e:Int} (J:zR w Q e w'):lU w':=by
 obtain⟨_,b,O,⟨U,lb,rfl⟩ |⟨U,rfl⟩⟩:=J
 .have:=h.qi.x0 (Q':=Q) O;rw[vj U] at this;generalize tC w.es Q b=F at this⊢;generalize tD Q b=S at this⊢;exact⟨h.cs,h.kd,h.ds,h.d9,a2,this,h.en⟩
 .have:=h.qi.x0 (Q':=Q) O;rw[mu U] at this;generalize tC w.es Q b=F at this⊢;generalize tD Q b=S at this⊢;exact⟨h.cs,h.kd,h.ds,h.d9,h.q,this,h.en⟩
def sn.apo {Q:aI5} (h:sn Q) (nm:aH3):sn (BX Q nm):=⟨ame h.tooK nm,h.O5.drop nm⟩
def sn.XX {Q:aI5} (h:sn Q) (b:cb):sn (g5 Q b):=⟨h.tooK.add b,h.O5.add b⟩
def app {l l':aI1} (h:l'.map B1=(Ot l).map Ix) {e:bh} (U:e∈l'): ∃bC,bC∈l/\B1 e=Ix bC:=by have:B1 e∈l'.map B1:=aw1 U;rw[h] at this;obtain⟨bC,ar,E⟩:=av7.1 this;exact⟨bC,amD ar,E.symm⟩
def lU.I8 {w:bQ} (h:lU w) (t:Pi w.ds):lU (XR w t):=by obtain⟨db,lb,l',H,ag⟩:=t;refine⟨h.cs,h.kd,H,fun e U=>?_,h.q,h.qi,h.en⟩;obtain⟨bC,ar,E⟩:=app ag U;obtain⟨cC,dg⟩:=h.d9 bC ar;obtain⟨e8,gH,_⟩:=h.ds.ok bC ar;unfold B1 Ix at E;simp only[az0] at E;obtain⟨cr,_,_,cv,dm,eu⟩:=E;refine⟨cC.of cv dm cr fun aH aM=>?_,by rw[cv];exact dg⟩;rw[eu,amC e8 gH cC.gh] at aM;exact cC.gh aH aM
def eU.no {w:bQ} (h:lU w) (V:w.bO= .no):eU w:=⟨h,by rw[V];trivial,fun ag=>by rw[V] at ag;cases ag⟩
def apq {l:aI1} {nm:aH3} {e:bh} (h:e∈ls l nm):e∈l:=(BT l nm).subset h
def lU.f1 {w w':bQ} (h:lU w) {g:aH8} {e:Int} (aj:wu w g e w'):lU w':=by
 have aC:lU {w with bS:=qj w.bS g}:=⟨h.cs,h.kd,h.ds,h.d9,h.q,h.qi,h.en⟩;rcases aj with⟨_,_,rfl⟩ |⟨_,eH,G,⟨_,rfl⟩ |⟨_,kk,bD,g2,ei,x,a,b,aw,Z,H,rfl⟩⟩
 .exact aC
 .exact aC.x0 (h.q.XX _) G
 .have ah:=zT G;have hw:=aC.x0 (h.q.XX _) G;rw[ah] at hw⊢;refine⟨hw.cs,hw.kd,H,fun e U=>?_,hw.q,hw.qi,hw.en⟩;obtain⟨hx,_⟩:=lR Z;obtain⟨lT,k7⟩:=h.d9 x hx;obtain⟨e8,gH,mA,_⟩:=h.ds.ok x hx;unfold I2 mG at U;obtain⟨bC,ar,rfl⟩:=av7.1 U
  have E:xH bC/\bC.s=((b7 w.L w.aU*2 ^w.z:Nat):Int):=by
   rcases av9.1 ar with ar |ar
   .obtain⟨af,E,rfl⟩:=av7.1 (apq ar);obtain⟨vs,wU⟩:=h.d9 af E;obtain⟨kS,rA,z3,_⟩:=h.ds.ok af E
    split
    .exact⟨vs.of rfl rfl rfl (vs.gh.XU z3),wU⟩
    .exact⟨vs,wU⟩
   .obtain rfl:=au5.1 ar;refine⟨lT.of rfl rfl (lR Z).2.symm ((lT.gh.XU mA).dt e8 gH _),k7⟩
  split
  .exact⟨E.1.of rfl rfl rfl E.1.gh,E.2⟩
  .exact E
def Cl {z R:Nat} {L:aH6} {nm:aH3} {size:Int} {back:aH3} {p:aJ9}:((ij z R L nm size back p).e=0->dk L nm=none/\gZ nm=true/\(ij z R L nm size back p).L=k1 L nm back p.1 p.2 (gl z size.toNat R))/\((ij z R L nm size back p).e≠0->(ij z R L nm size back p).L=L):=by
 unfold ij
 split
 .exact⟨fun h=>at1 h (show¬(1:Int)=0 by decide),fun _=>rfl⟩
 .rename_i ar
  split
  .exact⟨fun h=>at1 h (show¬(143:Int)=0 by decide),fun _=>rfl⟩
  .rename_i E
   split
   .exact⟨fun h=>at1 h (show¬(140:Int)=0 by decide),fun _=>rfl⟩
   .split
    .exact⟨fun h=>at1 h (show¬(142:Int)=0 by decide),fun _=>rfl⟩
    .refine⟨fun _=>⟨?_,?_,rfl⟩,fun h=>at1 rfl h⟩
     .cases H:dk L nm with
      |none=>rfl
      |some d=>exact at1 (.inl (by rw[H];rfl)) E
     .cases hn:gZ nm with
      |true=>rfl
      |false=>exact at1 (by rw[hn];rfl) ar
def apr:ff ([]:aH5):=by first |exact trivial |exact List.Pairwise.nil |exact az4
def XY {w:bQ} {s:d1} (h:sr w s=false):gZ s.nm=true:=by
 unfold sr at h
 cases hn:gZ s.nm with
 |true=>rfl
 |false=>rw[hn] at h;cases h
def f2.XZ {z R:Nat} {L:aH6} {nm:aH3} (h:b6 z R L) (Z:(dk L nm).isSome=true) (f:Nat->Bool):f2 z R L nm (ik f z (b7 L nm*2 ^z)) []:=
 ⟨h,Z,ND f z _ _ (at0 _),NC f z _,fun p ag=>(by cases ag),az4,fun k _ h=>aE7⟩
def eU.step {w w':bQ} (ax:eU w) {s:d1} {e:Int} (aj:fp w s e w'):eU w':=by
 cases aj with
 |VT h=>exact ax
 |write h=>exact ax.tG _ _ _ (xm ax.cs _ _ _)
 |zero h=>exact ax.tG _ _ _ (HH ax.cs _ _ _)
 |apk h aC=>exact ax
 |I6 h aC=>exact ax.tG _ _ _ (vU ax.cs _ _ _)
 |busy h V=>exact ax
 |over h V aj=>
  obtain⟨p,dr,U,⟨ar,rfl⟩ |⟨ar,rfl⟩⟩:=aj
  .obtain⟨bM,_,bU⟩:=Cl.1 (U.symm.trans ar);rw[bU] at dr⊢;have H:=zj (L:=w.L) (nm:=s.nm) (back:=w.aU) (ad:=p.1) (am:=p.2) (im:=gl w.z ((d2 w:Nat):Int).toNat w.R) s.nm;rw[bM,vj rfl] at H;refine eU.no (wv ax.tolU dr (by rw[H];rfl) ?_ w.b w.bO) V;unfold b7;rw[H];exact au2
  .rw[Cl.2 (fun h=>ar (U.trans h))];exact ax
 |eK h l' aj=>
  rcases aj with⟨O,H,⟨_,hn,_,_,a,b,rfl⟩ |⟨_,rfl⟩⟩ |⟨_,rfl⟩
  .refine⟨⟨ax.cs,ax.kd,H,fun e U=>?_,ax.q,ax.qi,ax.en⟩,ax.bO,ax.r9⟩;rcases av9.1 U with U |U
   .exact ax.d9 e U
   .obtain rfl:=au5.1 U;exact⟨⟨O,mg.nil _ _,hn⟩,rfl⟩
  .exact ax
  .exact ax
 |merge h V aj=>
  obtain⟨U,⟨ar,b,rfl⟩ |⟨_,rfl⟩⟩:=aj
  .exact⟨wv ax.tolU ax.cs ax.kd rfl _ _,⟨rfl,rfl,lO.HW ax.cs (by rw[<-U];exact ar)⟩,fun ag=>by cases ag⟩
  .exact ax
 |pull h V aj=>
  obtain⟨U,⟨ar,b,rfl⟩ |⟨_,rfl⟩⟩:=aj
  .exact⟨wv ax.tolU ax.cs ax.kd rfl _ _,⟨rfl,rfl⟩,fun ag=>by cases ag⟩
  .exact ax
 |push h V aj=>
  rcases aj with⟨_,_,rfl⟩ |⟨hn,⟨_,⟨_,_,rfl⟩ |⟨_,_,b,rfl⟩⟩ |⟨_,_,_,rfl⟩ |⟨_,x,hx,⟨_,_,rfl⟩ |⟨_,⟨_,_,rfl⟩ |⟨_,_,b,kk,rfl⟩⟩⟩⟩
  .exact ax
  .exact ax
  .exact⟨⟨ax.cs,ax.kd,ax.ds,ax.d9,ax.q,ax.qi,fun p ag=>by cases ag⟩,⟨rfl,rfl,rfl,rfl,f2.XZ ax.cs ax.kd _⟩,fun _=>XY hn⟩
  .exact ax
  .exact ax
  .exact ax
  .exact⟨⟨ax.cs,ax.kd,ax.ds,ax.d9,ax.q,ax.qi,fun p ag=>by cases ag;exact⟨rfl,rfl,apr⟩⟩,⟨rfl,rfl,rfl,rfl,f2.XZ ax.cs ax.kd _⟩,fun _=>XY hn⟩
 |xu h V=>exact ax
 | @xX h top base l V=>
  have hZ:=ax.bO;rw[V] at hZ;obtain⟨rfl,_,a7⟩:=hZ;obtain⟨t,al⟩:=XW ax.cs w.aU base l false;have ak:=a7.step base false;have c1:=fun j=>wv ax.tolU ak.cs ak.iw (al.aR w.aU).1 w.b j
  split
  .exact eU.no (c1 _) rfl
  .rename_i ai;exact⟨c1 _,⟨rfl,aA7.2 ai,ak⟩,fun ag=>by cases ag⟩
 | @xY h top base V=>
  have hZ:=ax.bO;rw[V] at hZ;obtain⟨rfl,_⟩:=hZ;obtain⟨J,aM⟩:=XV ax.cs w.aU base false;have c1:=fun j=>wv ax.tolU J (by rw[(aM w.aU).2];exact ax.kd) (aM w.aU).1 w.b j
  split
  .exact eU.no (c1 _) rfl
  .rename_i ai;exact⟨c1 _,⟨rfl,aA7.2 ai⟩,fun ag=>by cases ag⟩
 | @xZ h nm n rm l g V e w' aj=>
  have hZ:=ax.bO;rw[V] at hZ;obtain⟨rfl,_,_,hn,bl⟩:=hZ;rcases aj with⟨rfl,t,aj,rfl⟩ |⟨al,rfl,rfl⟩
  .have ar:lU {w with bO:=.pu w.aU n rm [] g true true}:=wv ax.tolU ax.cs ax.kd rfl w.b _;have E:=ar.f1 aj;exact eU.no ⟨E.cs,E.kd,E.ds,E.d9,E.q,E.qi,E.en⟩ rfl
  .have ag:=bl.UZ rm (HQ al).2.1
   split
   .exact eU.no (wv ax.tolU ax.cs ax.kd rfl w.b _) rfl
   .exact⟨wv ax.tolU ax.cs ax.kd rfl w.b _,⟨rfl,rfl,rfl,hn,ag⟩,fun _=>ax.r9 (by rw[V];rfl)⟩
 |I7 h V=>exact ax
 |E6 h V=>exact eU.no (wv ax.tolU ax.cs ax.kd rfl _ _) rfl
 |I8 h t=>exact eU.no (ax.tolU.I8 t) rfl
 |drop h aj=>
  rcases aj with⟨_,_,rfl⟩ |⟨_,J⟩
  .exact ax
  .have ah:=zT J;have hw:=ax.tolU.x0 (ax.q.apo _) J;rw[ah] at hw⊢;exact⟨hw,ax.bO,ax.r9⟩
end
section
abbrev hA:aH3:=[100,105,115,107]
abbrev aps:Made:=⟨(([]:aH3),([]:aH3),(0:Int),(0:Int),([]:List kD)),[],none⟩
abbrev nl (z R:Nat) (size:Int) (p:aJ9):List aI:=(ij z R [] hA size [] p).L
abbrev apt (z R:Nat) (L:aH6):ay:=
 [(1401,.cells [.d (.int .i64 z),.d (.str hA),.ptr 1001 0,.ptr 4001 0,.ptr 1201 0,.ptr 3001 0,.d (.int .i64 0),.bK .nilIface,.bK (.pointer none),.bK (.pointer none),.d (.str []),.d (.str []),.d (.int .i64 0),.d (.int .i64 0),.d (.b' oI []),.d (.str []),.bK (.pointer none)]),
  hR z R L,xQ [] [],(4001,.az (i0 [])),(3001,.az (uM []))]
def apu (z R:Nat) (size:Int) (E:mB z 0 R=true) (G:mB z size R=true):
  cD prog 27 [ab (z:Int),ab size,ab (R:Int)] [] [1001,1201,1401,3001,4001] (X:={p:Nat×Nat//b6 z R (nl z R size p)}) (fun _=>.b4 [.one (.ptr 1401 0),dw 0]) (fun p=>apt z R (nl z R size p.1)):=by
 have aC:=G;simp only[mB,as8,aw0] at aC;have dr:b6 z R []:=b6.nil aD7 aD7
 have U:(ij z R [] hA size [] (0,0)).e=0:=by
  unfold ij;rw[mu (by rw[G];decide),mu aD8,mu aD8,mu aD8]
 have hn:=agZ z R aD7 aD7;have ha:=XE dr hA size [] aD8;rw[U] at ha;have hf:=amT 4096 aD8;refine ia [2,4,5] func27 ?_;refine av hn <| bw [4,5] (ac.close 1001 (bP z R []) (o:=IU z R []) aA rfl fun I F x p h=>h) <| dh <| av ha <| dh <| bG.fW (dF.jk 1001 rfl) fun p=>bw [5] (bn) <| av (Fn.aT [(1001,1201),(1002,1202)] hf) <| bw [] (ac.trans (ac.vy 1203 rfl) (ac.close 1201 (EP 1201 1202 1203 4096 [] []) (o:=zP [] []) aA rfl fun I F x p h=>h)) <| av (Fn.aT [(1001,4001),(1002,4002),(1003,4003),(1004,4004)] akW) <| av (Fn.aT [(1001,3001),(1002,3002)] VG) ⟨rfl,?_⟩
 exact⟨p,_,_,_,ac.trans (ac.close 4001 (lk (eD (ms [(1001,4001),(1002,4002),(1003,4003),(1004,4004)] [])) (eT [])) (o:=i0 []) aA rfl fun I F x p h=>j8.aT [(4001,1001),(4002,1002),(4003,1003),(4004,1004)] h)
  (ac.trans (ac.close 3001 (pw 3001 3002 []) (o:=uM []) aA rfl fun I F x p h=>j8.aT [(3001,1001),(3002,1002)] h) (ac.trans (ac.aT 36 1401 rfl) (ac.th 1401 (l':=[.d (.int .i64 z),.d (.str hA),.ptr 1001 0,.ptr 4001 0,.ptr 1201 0,.ptr 3001 0,.d (.int .i64 0),.bK .nilIface,.bK (.pointer none),.bK (.pointer none),.d (.str []),.d (.str []),.d (.int .i64 0),.d (.int .i64 0),.d (.b' oI []),.d (.str []),.bK (.pointer none)]) rfl aA))),rfl,aA,aA,rfl⟩
end
section
def X0 {α:Type} (f:α->Nat): ∀(l:List α) (k:Nat),((l.take k).map f).sum<=(l.map f).sum
 | [],k=>by simp
 |a::l,0=>by simp
 |a::l,k+1=>by
  simp only[List.take_succ_cons,au9,List.sum_cons];have:=X0 f l k;omega
def apv {α:Type} (f:α->Nat) {l:List α} {k:Nat} (h:k < l.length):((l.take (k+1)).map f).sum=((l.take k).map f).sum+f l[k]:=by rw[ay2 h,ay6,List.sum_append];simp
end
section
def X1: ∀b:aH3,h8 (.ci .u8) b=1+b.length
 | []=>rfl
 |x::b=>by
  have h:=X1 b;show 1+(1+(List.map (h8 .u8) b).sum)=_;have h:1+(List.map (h8 .u8) b).sum=1+b.length:=h;rw[h,aw7];omega
def X2 {α:Type} {f:α->Nat} {k:α}: ∀{l:List α},k∈l->f k<=(l.map f).sum
 | [],h=>by cases h
 |a::l,h=>by
  rw[au9,List.sum_cons];rcases at7.1 h with rfl |h
  .omega
  .have:=X2 (f:=f) h;omega
def E8 (n:Int):aH3:=UInt8.ofNat n.toNat::List.replicate 15 (0:UInt8)
abbrev apw (s:d1) (v:bA):List bA:=[.d (.int .i64 s.kd),.d (.int .i64 s.a),.d (.int .i64 s.l),.d (.b' .u8 s.b),.d (.str s.nm),.d (.str s.gj),v]
end
section
def fp.DS {w w':bQ} {s:d1} {e:Int} (Z:s.kd=0) (h:fp w s e w'):e=(fw w.z w.L w.aU s.a s.b).e/\w'=hz w s.a ((s.b.length:Int)/16) (fw w.z w.L w.aU s.a s.b):=by
 cases h with
 |write h=>exact⟨rfl,rfl⟩
 |_=>omega
def fp.apx {w w':bQ} {s:d1} {e:Int} (Z:s.kd=7) (h:fp w s e w'):(py w.bO=false/\e=143/\w'=w)\/(w.bO= .no/\Pd w s e w'):=by
 cases h with
 |busy h V=>exact .inl ⟨V,rfl,rfl⟩
 |push h V aj=>exact .inr ⟨V,aj⟩
 |_=>omega
def fp.Pk {w w':bQ} {s:d1} {e:Int} (Z:s.kd=8) (h:fp w s e w'):(w.bO= .no/\e=1/\w'=w)\/(∃top base l,w.bO= .dt top base l false/\e=(e' w.z w.L top base l false).e/\w'={w with L:=(e' w.z w.L top base l false).L,bO:=if(e' w.z w.L top base l false).over=true then .no else .dt top base (e' w.z w.L top base l false).l (e' w.z w.L top base l false).over})\/
  (∃top base,w.bO= .pl top base false/\e=(h2 w.z w.L top base false).e/\w'={w with L:=(h2 w.z w.L top base false).L,bO:=if(h2 w.z w.L top base false).over=true then .no else .pl top base (h2 w.z w.L top base false).over})\/
  ∃nm n rm l g,w.bO= .pu nm n rm l g false false/\I4 w nm n rm l g e w':=by
 cases h with
 |xu h V=>exact .inl ⟨V,rfl,rfl⟩
 |xX h V=>exact .inr (.inl ⟨_,_,_,V,rfl,rfl⟩)
 |xY h V=>exact .inr (.inr (.inl ⟨_,_,V,rfl,rfl⟩))
 |xZ h V aj=>exact .inr (.inr (.inr ⟨_,_,_,_,_,V,aj⟩))
 |_=>omega
abbrev gv (z R:Nat) (size:Int) (p:aJ9) (db lb:Nat):bQ:=⟨z,R,nl z R size p,hA,db,[],[],[],lb,[],0,.no,aps⟩
def Pl {z R:Nat} {size:Int} (G:mB z size R=true) (p:aJ9):dk (nl z R size p) hA=some ⟨hA,[],p.1,p.2,gl z size.toNat R,none⟩:=by
 have e:nl z R size p=k1 [] hA [] p.1 p.2 (gl z size.toNat R):=by
  show(ij z R [] hA size [] p).L=_;unfold ij;rw[mu (by rw[G];decide),mu aD8,mu aD8,mu aD8]
 rw[e,zj];rfl
def X3 {z R:Nat} {size:Int} (G:mB z size R=true) (p:aJ9):b7 (nl z R size p) hA=size.toNat:=by unfold b7;rw[Pl G];exact au2
def qh.nil:qh [] [] []:=⟨List.Pairwise.nil,fun p h=>aE7,⟨fun p h=>aE7,az4,az4,fun p h=>aE7,fun p h=>aE7⟩,fun p h=>aE7,.inl ⟨rfl,rfl⟩⟩
def sn.nil:sn []:=⟨⟨aD8,fun b h=>aE7,fun k b h=>aE7⟩,sj.nil⟩
def Pm {z R:Nat} {size:Int} (G:mB z size R=true) {p:aJ9} (dr:b6 z R (nl z R size p)) (db lb:Nat):eU (gv z R size p db lb):=
 eU.no ⟨dr,by show(dk (nl z R size p) hA).isSome=true;rw[Pl G];rfl,eA.nil,fun e U=>(by cases U),sn.nil,qh.nil,fun p ag=>(by cases ag)⟩ rfl
abbrev X4:d1:=⟨0,0,0,E8 97,[],[],[]⟩
abbrev Pn:d1:=⟨7,0,9,[],[120],[],[]⟩
abbrev X5:d1:=⟨8,0,0,[],[],[],[]⟩
def tF.of {s:d1} (E:s.b.length<=1000000) (G:s.nm.length<=1000000) (ah:s.l<=9223372036854775807) (aS:s.ks=[]):tF s:=⟨E,G,ah,by rw[aS];decide,by rw[aS];exact fun k h=>aE7⟩
def apy {w:bQ} {g:aH8} {e:Int} {t:I3} (h:wu w g e (Cj w g t)) (dO:gJ w.Q (gS w.bS g)=0) (aY:sq (g5 w.Q (gS w.bS g))=0):t.2.2.2.2=g5 w.Q (gS w.bS g)/\e=0:=by
 have key: ∀eH,zR {w with bS:=qj w.bS g} (g5 w.Q (gS w.bS g)) e eH->eH.Q=g5 w.Q (gS w.bS g)/\e=0:=fun eH G=>by
  obtain⟨U,b,_,⟨_,lb,rfl⟩ |⟨h,_⟩⟩:=G
  .exact⟨Eq.refl _,U.trans aY⟩
  .exact at1 aY h
 rcases h with⟨h,_⟩ |⟨_,eH,G,⟨_,ah⟩ |⟨_,kk,bD,g2,ei,x,a,b,_,_,_,ah⟩⟩
 .exact at1 dO h
 .have:=key eH G;exact⟨(at2 bQ.Q ah).trans this.1,this.2⟩
 .have:=key eH G;exact⟨(at2 bQ.Q ah).trans this.1,this.2⟩
end
section
abbrev apz (s:d1):List aN:=[ap 1401,.c (.agg (apw s .dC))]
abbrev X6 (s:d1):List aN:=[ap 1401,.c (.agg [.d (.int .i64 s.kd),.d (.int .i64 s.a),.d (.int .i64 s.l),.dC,.d (.str s.nm),.d (.str s.gj),.dC])]
end
section
abbrev ql (w:bQ):ay:=kH w.z w.R w.L w.es w.M w.aU w.db w.lb (xP w.bO) (sk w.b w.bO) (Cc w.b w.bO) (xO w.b w.bO) w.bS
def apA (w:bQ):Fn prog 58 [ap 1401] (ql w) [] (ab (xP w.bO)) (ql w):=aoc
def apB (w:bQ):Fn prog 18 [ap 1401] (ql w) [] (bN w.aU) (ql w):=aob
def apC (w:bQ):Fn prog 11 [ap 1401] (ql w) [] (ap 1001) (ql w):=aod
def X7 (w:bQ):Fn prog 25 [ap 1401] (ql w) [] (dd w.lb) (ql w):=aoe
def apD (w:bQ):Fn prog 19 [ap 1401] (ql w) [] (dd w.db) (ql w):=aof
def X8 (w:bQ) (h:b6 w.z w.R w.L) (a l:Int):Fn prog 22 [ap 1401,ab a,ab l] (ql w) [] (.b4 [.one (.d (.b' .u8 (mH w.z w.L w.aU a l).1)),dw (mH w.z w.L w.aU a l).2]) (ql w):=aog h a l
end
section
structure q9 (w w':bQ):Prop where
 bi:w'.z=w.z
 nB:w'.R=w.R
 aR:b7 w'.L w'.aU=b7 w.L w.aU
def q9.refl (w:bQ):q9 w w:=⟨rfl,rfl,rfl⟩
def q9.tG (w:bQ) (a aX:Int) (r:nK) (al:iV w.L w.aU r.L):q9 w (hz w a aX r):=by
 unfold hz
 split
 .exact⟨rfl,rfl,(al.aR w.aU).1⟩
 .exact⟨rfl,rfl,(al.aR w.aU).1⟩
def q9.x0 {w w':bQ} {Q:aI5} {e:Int} (h:zR w Q e w'):q9 w w':=by rw[zT h];exact⟨rfl,rfl,rfl⟩
def fp.l0 {w w':bQ} (ax:eU w) {s:d1} {e:Int} (aj:fp w s e w'):q9 w w':=by
 cases aj with
 |write h=>exact q9.tG w _ _ _ (xm ax.cs _ _ _)
 |zero h=>exact q9.tG w _ _ _ (HH ax.cs _ _ _)
 |I6 h aC=>exact q9.tG w _ _ _ (vU ax.cs _ _ _)
 |over h V aj=>
  obtain⟨p,dr,U,⟨ar,rfl⟩ |⟨ar,rfl⟩⟩:=aj
  .obtain⟨bM,_,bU⟩:=Cl.1 (U.symm.trans ar);refine⟨rfl,rfl,?_⟩;show b7 (ij w.z w.R w.L s.nm ((d2 w:Nat):Int) w.aU p).L s.nm=_;rw[bU];have H:=zj (L:=w.L) (nm:=s.nm) (back:=w.aU) (ad:=p.1) (am:=p.2) (im:=gl w.z ((d2 w:Nat):Int).toNat w.R) s.nm;rw[bM,vj rfl] at H;unfold b7;rw[H];exact au2
  .rw[Cl.2 (fun h=>ar (U.trans h))];exact q9.refl w
 |merge h V aj=>obtain⟨_,⟨_,b,rfl⟩ |⟨_,rfl⟩⟩:=aj <;>exact⟨rfl,rfl,rfl⟩
 |pull h V aj=>obtain⟨_,⟨_,b,rfl⟩ |⟨_,rfl⟩⟩:=aj <;>exact⟨rfl,rfl,rfl⟩
 |push h V aj=>
  rcases aj with⟨_,_,rfl⟩ |⟨hn,⟨_,⟨_,_,rfl⟩ |⟨_,_,b,rfl⟩⟩ |⟨_,_,_,rfl⟩ |⟨_,x,hx,⟨_,_,rfl⟩ |⟨_,⟨_,_,rfl⟩ |⟨_,_,b,kk,rfl⟩⟩⟩⟩ <;>exact⟨rfl,rfl,rfl⟩
 | @xX h top base l V=>
  obtain⟨t,al⟩:=XW ax.cs top base l false;exact⟨rfl,rfl,(al.aR w.aU).1⟩
 | @xY h top base V=>exact⟨rfl,rfl,((XV ax.cs top base false).2 w.aU).1⟩
 | @xZ h nm n rm l g V e w' aj=>
  rcases aj with⟨rfl,t,aj,rfl⟩ |⟨al,rfl,rfl⟩ <;>exact⟨rfl,rfl,rfl⟩
 |drop h aj=>
  rcases aj with⟨_,_,rfl⟩ |⟨_,J⟩
  .exact q9.refl _
  .exact q9.x0 J
 |_=>exact⟨rfl,rfl,rfl⟩
end
section
def X9 {z R:Nat} {L:aH6} (dr:b6 z R L) {nm:aH3} {bI:aI} (ar:dk L nm=some bI) (a n j:Nat) (V:j < n):g0 (jD z L nm (ce L nm) a n) j=jC z L nm (ce L nm) (a+j):=by
 have bW:=fun m=>zb dr.tonJ ar (dr.b5 nm).1 a m
 induction n with
 |zero=>omega
 |succ n bk=>
  have e:jD z L nm (ce L nm) a (n+1)=jD z L nm (ce L nm) a n++jC z L nm (ce L nm) (a+n):=rfl;rw[e];unfold g0
  by_cases apE:j < n
  .rw[List.take_append_of_le_length (by rw[bW];omega)];exact bk apE
  .have:j=n:=aE5
   subst this;have E:=bW (j+1);rw[e,as9,bW] at E;rw[ax3 (by rw[as9,bW];omega),show j*16=(jD z L nm (ce L nm) a j).length by rw[bW];omega,List.drop_left]
def X' {x y:aH3} {n:Nat} (hx:x.length=16*n) (aD:y.length=16*n) (h: ∀j,j < n->g0 x j=g0 y j):x=y:=by
 apply aB2;intro i
 by_cases hi:i < 16*n
 .have E:=at2 (fun aH:aH3=>aH[i % 16]?) (h (i/16) aD7);simp only[tg] at E;rw[vj (Nat.mod_lt _ aD8),vj (Nat.mod_lt _ aD8),show i/16*16+i % 16=i by omega] at E;exact E
 .rw[aA3 aD7,aA3 aD7]
def apF (X:aH3) (off n:Nat) {ys:aH3} (h:ys.length<=n):laid X off n ys=laid X off ys.length ys:=by unfold laid;rw[ax3 h,av0]
def apG {X ys:aH3} {off:Nat} (h:off+ys.length<=X.length):(laid X off ys.length ys).length=X.length:=by unfold laid;rw[av0,as9,as9,at9,ax8];omega
def apH {X ys:aH3} {f m:Nat} (lN:16*f+16*m<=X.length) (aD:ys.length=16*m) (j:Nat):g0 (laid X (16*f) ys.length ys) j=if f<=j/\j < f+m then g0 ys (j - f) else g0 X j:=by
 apply aB2;intro i;rw[tg];have al:=fun aH=>M3 (X:=X) (off:=16*f) (n:=ys.length) (ys:=ys) aD7 rfl aH
 by_cases hi:i < 16
 .rw[vj hi,al]
  by_cases dP:f<=j/\j < f+m
  .rw[vj dP,mu aD7,vj aD7,tg,vj hi]
   congr 1
   omega
  .rw[mu dP,tg,vj hi]
   by_cases E:j*16+i < 16*f
   .rw[vj E]
   .rw[mu E,mu aD7]
 .rw[mu hi]
  split
  .rw[tg,mu hi]
  .rw[tg,mu hi]
end
section
section
variable {z R:Nat} {L ww:aH6}
def apI (Z: ∀n d,dk L n=some d->dk ww n=some d) (hs: ∀d,d∈L->d.back≠[]-> ∃e,dk L d.back=some e) {n:aH3} {k:Nat} (h:ef L n k) (ar: ∃d,dk L n=some d):c6 ww k n=c6 L k n:=by
 induction h with
 |gone h=>obtain⟨d,H⟩:=ar;rw[h] at H;cases H
 |base h O=>rfl
 |step h O aw bk=>
  unfold c6;rw[h,Z _ _ h];simp only;rw[bk (hs _ (cP h).1 O)]
def Ya {c:Nat} (Z: ∀n d,dk L n=some d->dk ww n=some d): ∀(ns:aJ5) (i:Nat),(∀n,n∈ns-> ∃d,dk L n=some d)->hg z ww c ns i=hg z L c ns i
 | [],_,_=>rfl
 |n::ns,i,h=>by
  obtain⟨d,H⟩:=h n (au7 ..);unfold hg;rw[H,Z _ _ H];simp only;rw[Ya Z ns (i+1) fun n hn=>h n (at4 _ hn)]
def apJ (h:b6 z R L) (Z: ∀n d,dk L n=some d->dk ww n=some d) {n:aH3} {d:aI} (H:dk L n=some d) (c:Nat):fl z ww n (ce ww n) c=fl z L n (ce L n) c:=by have cw:=(h.b5 n).1;have h6:=(h.b5 n).2;have Pe:=T7 (L':=ww) (fun n d H=>⟨d,Z n d H,rfl⟩) h.iw cw ⟨d,H⟩;have e:ce ww n=ce L n:=r4 Pe aD7;unfold fl;rw[e,apI Z h.iw cw ⟨d,H⟩,Ya Z _ _ (h.MZ ⟨d,H⟩)]
def apK {nm aU:aH3} {ad am:Nat} {d:aI} (h:b6 z R L) (H:dk L aU=some d) (ar:dk L nm=none) (G:b6 z R (k1 L nm aU ad am (gl z d.im.t.length R))):k3 z (k1 L nm aU ad am (gl z d.im.t.length R)) nm=k3 z L aU:=by
 have Z: ∀n e,dk L n=some e->dk (k1 L nm aU ad am (gl z d.im.t.length R)) n=some e:=fun n e U=>by rw[zj,U];rfl
 have I9:dk (k1 L nm aU ad am (gl z d.im.t.length R)) nm=some ⟨nm,aU,ad,am,gl z d.im.t.length R,none⟩:=by rw[zj,ar,vj rfl];rfl
 have iO:aU≠[]:=D' h ⟨d,H⟩;have ed:=M0 G I9 iO;have ed:ce (k1 L nm aU ad am (gl z d.im.t.length R)) nm=ce (k1 L nm aU ad am (gl z d.im.t.length R)) aU+1:=ed;have al:(gl z d.im.t.length R).t.length=d.im.t.length:=au2;unfold k3;rw[I9,H];simp only;rw[al];refine Ua (N:=d.im.t.length) (fun c J=>?_) _ (at0 _);rw[zk I9 (fun bd=>bd.2 (by show((List.replicate d.im.t.length b9).getD c b9).1=0;rw[at3,aB4];split <;>rfl)),ed,MY I9];exact apJ h Z H c
def Yb {nm:aH3} {a l:Int} (U:(kz L nm a l).e≠0):(kz L nm a l).L=L:=by
 unfold kz at U⊢
 split at U
 .rfl
 .split at U
  .rename_i c;rw[vj c]
  .exact at1 rfl U
def iV.Yc {L':aH6} {t top base:aH3} (h:b6 z R L) (al:iV L t L'):hN L' top base=hN L top base:=by
 rcases al with rfl |⟨d,im,H,aw,rfl⟩
 .rfl
 .exact(aiH h H aw).2
end
def j3 (w:bQ):Prop:=match w.bO with
 | .dt top base l _=>lr w.z w.R w.L top base l/\sa w.z w.L top base l
 | .pl top base _=>hN w.L top base=true
 |_=>True
abbrev iK (w:bQ):aH3:=k3 w.z w.L w.aU
def Po (w:bQ) (a aX:Int) (r:nK):iK (hz w a aX r)=k3 w.z r.L w.aU:=by
 unfold hz
 split <;>rfl
def j3.no {w:bQ} (h:w.bO= .no):j3 w:=by
 unfold j3;rw[h]
 trivial
def j3.tG {w:bQ} (ax:eU w) (ak:j3 w) {a aX:Int} {r:nK} (lD:iV w.L w.aU r.L) (apL:r.e≠0->r.L=w.L)
  (hw:r.e=0->O6 w.bO=true-> ∃a' N:Nat,a=a'/\aX=N/\ ∀s,¬(a'<=s/\s < a'+N)->gm w.z r.L w.aU s=gm w.z w.L w.aU s):j3 (hz w a aX r):=by
 have hZ:=ax.bO;have fC:=ax.cs;obtain⟨z,R,L,aU,db,ds,es,M,lb,Q,b,bO,bS⟩:=w;unfold hz
 cases bO with
 |no=>split <;>exact j3.no rfl
 |pu nm n rm l g over done=>
  unfold sm
  split
  .simp only
   split
   .trivial
   .trivial
  .simp only
   split
   .trivial
   .trivial
 |pl top base over=>
  have ak:hN L top base=true:=ak;have O:hN r.L top base=true:=by rw[lD.Yc fC];exact ak
  split <;>exact O
 |dt top base l over=>
  obtain⟨rfl,rfl,_⟩:=hZ;obtain⟨cR,uf⟩:lr z R L top base l/\sa z L top base l:=ak
  by_cases U:r.e=0
  .rw[vj U];obtain⟨a',N,rfl,rfl,aw⟩:=hw U rfl;exact⟨(cR.r' lD).wr false _ _,aje cR uf lD aw⟩
  .rw[mu U];show lr z R r.L top base l/\sa z r.L top base l;rw[apL U];exact⟨cR,uf⟩
def j3.step {w w':bQ} (ax:eU w) (ak:j3 w) {s:d1} {e:Int} (aj:fp w s e w'):j3 w':=by
 cases aj with
 |write h=>
  refine ak.tG ax (xm ax.cs _ _ _) (HN ax.cs) fun U _=>?_
  obtain⟨_,_,_,ha,_⟩:=HK U;refine⟨s.a.toNat,s.b.length/16,ha,aD7,fun t cq=>?_⟩;show jC _ _ _ _ _=jC _ _ _ _ _;rw[HL ax.cs U t,mu cq]
 |zero h=>
  refine ak.tG ax (HH ax.cs _ _ _) (M8 ax.cs) fun U _=>?_
  obtain⟨_,_,ha,al,_⟩:=Uk U;refine⟨s.a.toNat,s.l.toNat,ha,al,fun t cq=>?_⟩;show jC _ _ _ _ _=jC _ _ _ _ _;rw[Ul ax.cs U t,mu cq]
 |I6 h aC=>exact ak.tG ax (vU ax.cs _ _ _) Yb fun _ aV=>by rw[aC] at aV;cases aV
 |over h V aj=>obtain⟨_,_,_,⟨_,rfl⟩ |⟨_,rfl⟩⟩:=aj <;>exact j3.no V
 |merge h V aj=>
  obtain⟨U,⟨ar,b,rfl⟩ |⟨_,rfl⟩⟩:=aj
  .rw[ar] at U;exact⟨lr.HW ax.cs U.symm,ajb ax.cs U.symm⟩
  .exact ak
 |pull h V aj=>
  obtain⟨U,⟨ar,b,rfl⟩ |⟨_,rfl⟩⟩:=aj
  .rw[ar] at U;show hN w.L w.aU s.gj=true;unfold uD at U
   split at U
   .exact at1 U aD8
   .split at U
    .exact at1 U aD8
    .rename_i hn;exact ax9 fun O=>hn (.inl (aA7.2 O))
  .exact ak
 |push h V aj=>
  rcases aj with⟨_,_,rfl⟩ |⟨hn,⟨_,⟨_,_,rfl⟩ |⟨_,_,b,rfl⟩⟩ |⟨_,_,_,rfl⟩ |⟨_,x,hx,⟨_,_,rfl⟩ |⟨_,⟨_,_,rfl⟩ |⟨_,_,b,kk,rfl⟩⟩⟩⟩
  all_goals first |exact ak |trivial
 | @xX h top base l V=>
  have hZ:=ax.bO;unfold j3 at ak;rw[V] at hZ ak;obtain⟨cR,uf⟩:=ak
  split
  .exact j3.no rfl
  .exact⟨(cR.step false).1,(UL cR uf).1⟩
 | @xY h top base V=>
  unfold j3 at ak;rw[V] at ak;have ak:hN w.L top base=true:=ak;have hZ:=ax.bO;rw[V] at hZ;obtain⟨rfl,_⟩:=hZ
  split
  .exact j3.no rfl
  .rename_i ai;show hN (h2 w.z w.L w.aU base false).L w.aU base=true;obtain⟨d,H⟩:=aw9.1 ax.kd;unfold h2 at ai⊢;rw[mu (by rw[ax.kd];decide)] at ai⊢
   cases hn:oC w.L w.aU base with
   |some k=>
    show hN (fw w.z w.L w.aU ((k*2 ^w.z:Nat):Int) (gz w.z w.L w.aU (k:Int))).L w.aU base=true;rw[(xm ax.cs _ _ _).Yc ax.cs];exact ak
   |none=>
    rw[hn] at ai;exact at1 (show decide ((ig w.L w.aU base).e=0)=true by rw[Nn ax.cs H ak];rfl) ai
 | @xZ h nm n rm l g V e w' aj=>
  rcases aj with⟨rfl,t,aj,rfl⟩ |⟨al,rfl,rfl⟩
  .exact j3.no rfl
  .split
   .exact j3.no rfl
   .trivial
 |E6 h V=>exact j3.no rfl
 |I8 h t=>exact j3.no rfl
 |drop h aj=>
  rcases aj with⟨_,_,rfl⟩ |⟨_,J⟩
  .exact ak
  .rw[zT J];exact ak
 |_=>exact ak
def Yd {w w':bQ} (ax:eU w) (ak:j3 w) {s:d1} {e:Int} (aj:fp w s e w') (hn:e≠0\/s.kd < 0\/2 < s.kd):iK w'=iK w:=by
 obtain⟨d,H⟩:=aw9.1 ax.kd
 cases aj with
 |write h=>rw[Po,HN ax.cs aD7]
 |zero h=>rw[Po,M8 ax.cs aD7]
 |I6 h aC=>rw[Po,Yb aD7]
 |over h V aj=>
  obtain⟨p,dr,U,⟨ar,rfl⟩ |⟨ar,rfl⟩⟩:=aj
  .obtain⟨bM,_,bU⟩:=Cl.1 (U.symm.trans ar);show k3 w.z (ij w.z w.R w.L s.nm ((d2 w:Nat):Int) w.aU p).L s.nm=_;rw[bU] at dr⊢
   have aM:((d2 w:Nat):Int).toNat=d.im.t.length:=by
    show d2 w=_;unfold d2 b7;rw[H]
   rw[aM] at dr⊢;exact apK ax.cs H bM dr
  .rw[Cl.2 (fun h=>ar (U.trans h))]
 |merge h V aj=>obtain⟨_,⟨_,b,rfl⟩ |⟨_,rfl⟩⟩:=aj <;>rfl
 |pull h V aj=>obtain⟨_,⟨_,b,rfl⟩ |⟨_,rfl⟩⟩:=aj <;>rfl
 |push h V aj=>
  rcases aj with⟨_,_,rfl⟩ |⟨hn,⟨_,⟨_,_,rfl⟩ |⟨_,_,b,rfl⟩⟩ |⟨_,_,_,rfl⟩ |⟨_,x,hx,⟨_,_,rfl⟩ |⟨_,⟨_,_,rfl⟩ |⟨_,_,b,kk,rfl⟩⟩⟩⟩ <;>rfl
 | @xX h top base l V=>
  have hZ:=ax.bO;unfold j3 at ak;rw[V] at hZ ak;obtain⟨rfl,_⟩:=hZ;exact(UL ak.1 ak.2).2
 | @xY h top base V=>
  unfold j3 at ak;rw[V] at ak;have ak:hN w.L top base=true:=ak;have hZ:=ax.bO;rw[V] at hZ;obtain⟨rfl,_⟩:=hZ;show k3 w.z (h2 w.z w.L w.aU base false).L w.aU=_;unfold h2;rw[mu (by rw[ax.kd];decide)]
  cases ag:oC w.L w.aU base with
  |some k=>
   show k3 w.z (fw w.z w.L w.aU ((k*2 ^w.z:Nat):Int) (gz w.z w.L w.aU (k:Int))).L w.aU=_;have Z:=(UC ag).2.1;have aM:b7 w.L w.aU=d.im.t.length:=aF1
   exact air ax.cs H aD7
  |none=>
   show k3 w.z (ig w.L w.aU base).L w.aU=_;rw[Nn ax.cs H ak];exact(aiI ax.cs H ak ag).2
 | @xZ h nm n rm l g V e w' aj=>
  rcases aj with⟨rfl,t,aj,rfl⟩ |⟨al,rfl,rfl⟩ <;>rfl
 |drop h aj=>
  rcases aj with⟨_,_,rfl⟩ |⟨_,J⟩
  .rfl
  .rw[zT J]
 |_=>rfl
def Pp {w:bQ} (ax:eU w):(iK w).length=16*(b7 w.L w.aU*2 ^w.z):=by obtain⟨d,H⟩:=aw9.1 ax.kd;unfold iK k3 b7;rw[H];exact zb ax.cs.tonJ H (ax.cs.b5 _).1 0 _
def Ja {w:bQ} (ax:eU w) {j:Nat} (V:j < b7 w.L w.aU*2 ^w.z):g0 (iK w) j=gm w.z w.L w.aU j:=by obtain⟨d,H⟩:=aw9.1 ax.kd;unfold iK k3 gm;unfold b7 at V;rw[H] at V⊢;have:=X9 ax.cs H 0 _ j V;rw[ax6] at this;exact this
def apM {w:bQ} (ax:eU w):mH w.z w.L w.aU 0 ((b7 w.L w.aU*2 ^w.z:Nat):Int)=(iK w,0):=by
 obtain⟨d,H⟩:=aw9.1 ax.kd;have aM:b7 w.L w.aU=d.im.t.length:=aF1
 rw[aih ax.cs H (by rw[BC ax.cs H,aM];exact at0 _)];unfold iK k3;rw[H,aM]
end
section
def apN (w:bQ) (a aX:Int) (r:nK) (j:Nat):gm (hz w a aX r).z (hz w a aX r).L (hz w a aX r).aU j=gm w.z r.L w.aU j:=by
 unfold hz
 split <;>rfl
def apO {z R:Nat} {size:Int} (G:mB z size R=true) {p:aJ9} (dr:b6 z R (nl z R size p)) (db lb:Nat):iK (gv z R size p db lb)=List.replicate (16*(size.toNat*2 ^z)) 0:=by
 have H:=Pl G p;have ar:ce (nl z R size p) hA=0:=r4 (.base H rfl) aD7;have ax:=Pm G dr db lb;have aM:=X3 G p;refine X' (n:=size.toNat*2 ^z) ?_ au2 fun j V=>?_
 .rw[Pp ax];show 16*(b7 (nl z R size p) hA*2 ^z)=_;rw[aM]
 rw[Ja ax (by show j < b7 (nl z R size p) hA*2 ^z;rw[aM];exact V)];show jC z (nl z R size p) hA (ce (nl z R size p) hA) j=_;rw[r5,zk H (fun bd=>bd.2 (by show((List.replicate size.toNat b9).getD (j/2 ^z) b9).1=0;rw[at3,aB4];split <;>rfl)),ar];show g0 (List.replicate (16*2 ^z) 0) (j % 2 ^z)=_;have:=Nat.mod_lt j (Nat.two_pow_pos z);rw[HJ _ _ aD7,HJ _ _ aD7]
end
section
def eV (l:aI6):List Int:=l.flatMap fun x=>List.replicate x.2.1.toNat x.2.2
def x1 (l m:aI6):eV (l++m)=eV l++eV m:=List.flatMap_append ..
def Cm (x:cK):eV [x]=List.replicate x.2.1.toNat x.2.2:=by show List.replicate x.2.1.toNat x.2.2++[]=_;rw[av2]
def Cn: ∀(p q:aI6) (a:Int),fL a p=true->fL a (p++q)=fL (a+((eV p).length:Int)) q
 | [],q,a,_=>by
  show fL a q=fL (a+(0:Int)) q;rw[Int.add_zero]
 |x::p,q,a,h=>by
  rw[zw] at h
  split at h
  .rename_i J;show fL a (x::(p++q))=_;rw[zw,vj J,Cn p q _ h]
   congr 1
   have e:(eV (x::p)).length=x.2.1.toNat+(eV p).length:=by
    show(List.replicate x.2.1.toNat x.2.2++eV p).length=_;rw[as9,au2]
   rw[e];omega
  .cases h
def E9 {p q:aI6} {a:Int} (h:fL a (p++q)=true):fL a p=true:=by
 induction p generalizing a with
 |nil=>rfl
 |cons x p bk=>
  have h:fL a (x::(p++q))=true:=h;rw[zw] at h⊢
  split at h
  .rename_i J;rw[vj J];exact bk h
  .cases h
def E' {a:Int} {x:cK}:fL a [x]=true↔x.1=a/\1<=x.2.1/\x.2.1<=65536 - a:=by
 rw[zw]
 split
 .rename_i h;exact⟨fun _=>h,fun _=>rfl⟩
 .rename_i h;exact⟨(fun e=>by cases e),fun e=>at1 e h⟩
def Ye {α:Type} (l:List α):l=[]\/ ∃p x,l=p++[x]:=by
 rcases List.eq_nil_or_concat l with h |⟨p,x,h⟩
 .exact .inl h
 .exact .inr ⟨p,x,by rw[h,List.concat_eq_append]⟩
def Pq {l:aI6} (h:fL 0 l=true):fa l=((eV l).length:Int):=by
 rcases Ye l with rfl |⟨p,x,rfl⟩
 .rfl
 .rw[U9];have E:=Cn p [x] 0 (E9 h);rw[h] at E;obtain⟨g1,g2,cL⟩:=E'.1 E.symm;rw[x1,as9,Cm,au2,g1];omega
def Yf {l:aI6} {n k:Int} (h:fL 0 l=true) (hn:1<=n) (O:((eV l).length:Int)+n<=65536):fL 0 (jh l n k)=true/\eV (jh l n k)=eV l++List.replicate n.toNat k:=by
 have mX:fL 0 (l++[(fa l,n,k)])=true/\eV (l++[(fa l,n,k)])=eV l++List.replicate n.toNat k:=by
  refine⟨?_,by rw[x1,Cm]⟩;rw[Cn l _ 0 h,Pq h,Int.zero_add];exact E'.2 ⟨rfl,hn,by show n<=_;omega⟩
 unfold jh;rw[mu aD7];rcases Ye l with rfl |⟨p,x,rfl⟩
 .exact mX
 .rw[List.getLast?_concat];simp only
  split
  .rename_i Z;have E:=Cn p [x] 0 (E9 h);rw[h] at E;obtain⟨g1,g2,cL⟩:=E'.1 E.symm
   have e:(p++[x]).set ((p++[x]).length - 1) (x.1,x.2.1+n,x.2.2)=p++[(x.1,x.2.1+n,x.2.2)]:=by
    rw[as9,List.set_append_right _ _ aD9];simp
   rw[e];rw[x1,as9,Cm,au2] at O;refine⟨?_,?_⟩
   .rw[Cn p _ 0 (E9 h)];exact E'.2 ⟨g1,by show 1<=x.2.1+n;omega,by show x.2.1+n<=_;omega⟩
   .rw[x1,x1,Cm,Cm,aw8]
    congr 1
    show List.replicate (x.2.1+n).toNat x.2.2=_;rw[<-Z,List.replicate_append_replicate]
    congr 1
    omega
  .exact mX
def Yg: ∀(ks:aI7) (acc:aI6),fL 0 acc=true->(eV acc).length+ks.length<=65536->fL 0 (ks.foldl (fun l k=>jh l 1 k) acc)=true/\eV (ks.foldl (fun l k=>jh l 1 k) acc)=eV acc++ks
 | [],acc,h,_=>⟨h,(av2 _).symm⟩
 |k::ks,acc,h,O=>by
  rw[aw7] at O;obtain⟨g1,g2⟩:=Yf (n:=1) (k:=k) h aD8 aD7;have af:eV acc++List.replicate (1:Int).toNat k=eV acc++[k]:=rfl;rw[af] at g2;obtain⟨fU,gV⟩:=Yg ks (jh acc 1 k) g1 (by rw[g2,as9];simp;omega);exact⟨fU,by rw[List.foldl_cons,gV,g2,aw8];rfl⟩
def apP {ks:aI7} (h:ks.length<=65536):fL 0 (lQ ks)=true/\eV (lQ ks)=ks:=by obtain⟨fU,gV⟩:=Yg ks [] rfl (by show 0+ks.length<=65536;omega);exact⟨fU,gV⟩
def Yh (N:Int): ∀(l acc:aI6),fL ((eV acc).length:Int) l=true->fL 0 acc=true->(((eV acc).length+(eV l).length:Nat):Int)<=N->N<=65536->fL 0 (l.foldl (tl 0 N) acc)=true/\eV (l.foldl (tl 0 N) acc)=eV acc++eV l
 | [],acc,_,h,_,_=>⟨h,(av2 _).symm⟩
 |x::l,acc,h,ha,O,eM=>by
  rw[zw] at h
  split at h
  .rename_i J;obtain⟨cu,cp,fD⟩:=J
   have e:(eV (x::l)).length=x.2.1.toNat+(eV l).length:=by
    show(List.replicate x.2.1.toNat x.2.2++eV l).length=_;rw[as9,au2]
   rw[e] at O;have ao:min (x.1+x.2.1) (0+N) - max x.1 0=x.2.1:=aE5
   have br:tl 0 N acc x=jh acc x.2.1 x.2.2:=by unfold tl;rw[ao]
   obtain⟨g1,g2⟩:=Yf (n:=x.2.1) (k:=x.2.2) ha cp aD7;have cL:((eV (jh acc x.2.1 x.2.2)).length:Int)=((eV acc).length:Int)+x.2.1:=by rw[g2,as9,au2];omega
   rw[List.foldl_cons,br];obtain⟨fU,gV⟩:=Yh N l (jh acc x.2.1 x.2.2) (by rw[cL];exact h) g1 aD7 eM;refine⟨fU,?_⟩;rw[gV,g2,aw8];rfl
  .cases h
def apQ {l:aI6} (h:fL 0 l=true) (E:1<=fa l) (G:fa l<=65536):fL 0 (me l 0 (fa l))=true/\eV (me l 0 (fa l))=eV l:=by
 have aY:=Pq h
 have bu:xx l 0 (fa l)=true:=by
  unfold xx;rw[h,au1 E,au1 (Int.le_refl (fa l)),au1 (show(0:Int)<=fa l - fa l by omega)];rfl
 unfold me;rw[vj bu];obtain⟨fU,gV⟩:=Yh (fa l) l [] h rfl (by rw[aY];show(((0:Nat)+(eV l).length:Nat):Int)<=_;omega) G;exact⟨fU,gV⟩
def Yi {l:aI6} (h:fL 0 l=true) {i:Nat} (hi:i < l.length):(l[i]).1=((eV (l.take i)).length:Int)/\1<=(l[i]).2.1/\eV (l.take (i+1))=eV (l.take i)++List.replicate (l[i]).2.1.toNat (l[i]).2.2:=by
 have e:l.take (i+1)=l.take i++[l[i]]:=by
  rw[aB1,as7 hi];rfl
 have G:fL 0 (l.take i++[l[i]]++l.drop (i+1))=true:=by
  rw[<-e,List.take_append_drop];exact h
 have ah:=E9 G;rw[Cn _ _ 0 (E9 ah),Int.zero_add] at ah;obtain⟨g1,g2,_⟩:=E'.1 ah;exact⟨g1,g2,by rw[e,x1,Cm]⟩
def apR (l:aI6) (i:Nat):(eV (l.take i)).length<=(eV l).length:=by
 conv=>rhs;rw[<-List.take_append_drop i l,x1,as9]
 omega
def Co (es:aH5) (k:Int):Option Int:=bX (aF:=aq) (aJ:=aq) es k
def apS (es:aH5) (k j:Int):Co (dp (aF:=aq) (aJ:=aq) es k (1:Int)) j=if j=k then some 1 else Co es j:=by
 have h:=yR (aF:=aq) (aJ:=aq) rL k (1:Int) es
 by_cases e:j=k
 .rw[vj e,e];exact h.1
 .rw[mu e];exact h.2 j e
def Yj (es:aH5) (f k:Int): ∀n:Nat,Co (qT es f n) k=if f<=k/\k < f+(n:Int) then some 1 else Co es k
 |0=>by
  rw[mu aD7];rfl
 |n+1=>by
  have bk:=Yj es f k n;show Co (dp (aF:=aq) (aJ:=aq) (qT es f n) (f+(n:Int)) (1:Int)) k=_;rw[apS,bk]
  by_cases e:k=f+(n:Int)
  .rw[vj e,vj aD7]
  .rw[mu e]
   by_cases G:f<=k/\k < f+n
   .rw[vj G,vj aD7]
   .rw[mu G,mu aD7]
def apT (g:Int) (es:aH5) (k:Nat):ke g es k=zo ((Co es ((k:Int)/g)).getD 0):=rfl
def apU {s g:Int} (aV:1<=g) (es:aH5) (fr bJ:Int) (k:Nat) (h:ke g (lP s g es fr bJ) k=false):ke g es k=false/\(v1 s fr bJ-> ¬(fr<=(k:Int)/\(k:Int) < fr+bJ)):=by
 unfold lP at h
 split at h
 .rename_i aB;rw[apT] at h⊢;rw[Yj] at h
  by_cases J:fr/g<=(k:Int)/g/\(k:Int)/g < fr/g+((((if bJ=0 then 0 else(fr+bJ+g - 1)/g) - fr/g).toNat:Nat):Int)
  .rw[vj J] at h;exact at1 (show zo 1=false from h) aD8
  .rw[mu J] at h;refine⟨h,fun _ dP=>J ?_⟩;obtain⟨nw,v2,v3,v4⟩:=aB;have al:bJ≠0:=aE5
   rw[mu al];have d3:fr/g<=(k:Int)/g:=aD5 aD7 dP.1
   have cX:(k:Int)/g+1<=(fr+bJ+g - 1)/g:=by
    have:((k:Int)+g)/g<=(fr+bJ+g - 1)/g:=aD5 aD7 aD7
    rwa[Int.add_ediv_of_dvd_right (Int.dvd_refl g),Int.ediv_self aD7] at this
   omega
 .rename_i aB;exact⟨h,fun G=>at1 G aB⟩
section
variable {z R:Nat} {L:aH6} {nm:aH3}
end
end
section
structure uP (D:aH3) (n:Nat) (w:bQ):Prop where
 ok:eU w
 Cp:j3 w
 aR:b7 w.L w.aU=n
 Pr:tB w.bO=false
 ds: ∀x,x∈w.ds->x.on=true
 C: ∀x,x∈w.ds-> ∀j,j < n*2 ^w.z->ke x.g x.es j=false->g0 D j=g0 (iK w) j
section
variable {D:aH3} {n:Nat} {w w':bQ}
def uP.of (h:uP D n w) (pz:eU w') (bH:j3 w') (O:w'.z=w.z) (aM:b7 w'.L w'.aU=b7 w.L w.aU) (H:w'.ds=w.ds) (aj:iK w'=iK w) (ag:tB w'.bO=false):uP D n w':=
 ⟨pz,bH,aM.trans h.aR,ag,by rw[H];exact h.ds,by rw[H,O,aj];exact h.C⟩
def uP.write (h:uP D n w) {s:d1} {e:Int} (Z:s.kd=0) (aj:fp w s e w'):uP D n w':=by
 have pz:=h.ok.step aj;have bH:=h.Cp.step h.ok aj;have cR:=aj.l0 h.ok;have cA:=h.aR;have sv:=h.Pr;obtain⟨U,hw⟩:=aj.DS Z
 have Yk:tB w'.bO=false:=by
  rw[hw];unfold hz
  split
  .cases V:w.bO with
   |pu=>rw[V] at sv;cases sv
   |_=>rfl
  .cases V:w.bO with
   |pu=>rw[V] at sv;cases sv
   |_=>rfl
 by_cases ar:(fw w.z w.L w.aU s.a s.b).e=0
 .obtain⟨d,H,al,ha,dP,_⟩:=HK ar;have wF:b7 w.L w.aU=d.im.t.length:=aF1
  have dM:=pk dP;rw[BC h.ok.cs H,<-wF,cA] at dM;have gY:w'.ds=w.ds.map (j1 s.a ((s.b.length:Int)/16)):=by rw[hw];unfold hz;rw[vj ar]
  refine⟨pz,bH,cR.aR.trans cA,Yk,?_,?_⟩
  .rw[gY];intro x hx;obtain⟨y,aD,rfl⟩:=av7.1 hx;exact h.ds y aD
  .rw[gY,cR.bi];intro x hx j V O;obtain⟨y,aD,rfl⟩:=av7.1 hx;have ws:=h.ds y aD;obtain⟨_,aw⟩:=h.ok.d9 y aD;have aV:=(h.ok.ds.ok y aD).2.1.1;have af:(j1 s.a ((s.b.length:Int)/16) y).es=lP y.s y.g y.es s.a ((s.b.length:Int)/16):=vj ws;rw[af] at O;have O:ke y.g (lP y.s y.g y.es s.a ((s.b.length:Int)/16)) j=false:=O;obtain⟨b1,b2⟩:=apU aV _ _ _ _ O;rw[cA] at aw;have b2:=b2 (by unfold v1;omega)
   have ao:g0 (iK w') j=g0 (iK w) j:=by
    rw[Ja pz (by rw[cR.aR,cR.bi,cA];exact V),Ja h.ok (by rw[cA];exact V),hw,apN];exact(HL h.ok.cs ar j).trans (mu aD7)
   rw[ao];exact h.C y aD j V b1
 .have gY:w'.ds=w.ds:=by rw[hw];unfold hz;rw[mu ar]
  exact h.of pz bH cR.bi cR.aR gY (Yd h.ok h.Cp aj (.inl (by rw[U];exact ar))) Yk
def uP.step (h:uP D n w) {s:d1} {e:Int} (Z:s.kd=3\/s.kd=5\/s.kd=6\/s.kd=8\/s.kd=9) (aj:fp w s e w'):uP D n w':=by
 have pz:=h.ok.step aj;have bH:=h.Cp.step h.ok aj;have cR:=aj.l0 h.ok;have mb:=Yd h.ok h.Cp aj (.inr (.inr aD7));have sv:=h.Pr
 cases aj with
 |over Z V aj=>
  obtain⟨p,dr,U,⟨ar,rfl⟩ |⟨ar,rfl⟩⟩:=aj
  .exact h.of pz bH cR.bi cR.aR rfl mb sv
  .exact h.of pz bH cR.bi cR.aR rfl mb sv
 |merge Z V aj=>
  obtain⟨_,⟨_,b,rfl⟩ |⟨_,rfl⟩⟩:=aj
  .exact h.of pz bH rfl rfl rfl rfl rfl
  .exact h
 |pull Z V aj=>
  obtain⟨_,⟨_,b,rfl⟩ |⟨_,rfl⟩⟩:=aj
  .exact h.of pz bH rfl rfl rfl rfl rfl
  .exact h
 |xX Z V=>exact h.of pz bH cR.bi cR.aR rfl mb (by show tB (if _ then _ else _)=false;split <;>rfl)
 |xY Z V=>exact h.of pz bH cR.bi cR.aR rfl mb (by show tB (if _ then _ else _)=false;split <;>rfl)
 |xZ Z V aj=>rw[V] at sv;cases sv
 |E6 Z V=>exact h.of pz bH rfl rfl rfl rfl rfl
 |busy=>exact h
 |xu=>exact h
 |I7=>exact h
 |_=>omega
end
end
section
def Yl (w:bQ) (ax:eU w) (s:d1) (aw:tF s) (Z:s.kd=0\/s.kd=3\/s.kd=4\/s.kd=5\/s.kd=6\/s.kd=7\/s.kd=8\/s.kd=9):cD prog 8 [ap 1401,k8 s] (cV w) [] (X:=nW (fp w s)) (fun p=>ab p.1.1) (fun p=>cV p.1.2):=by
 rcases Z with h |h |h |h |h |h |h |h
 .exact xW w s (k:=0) h rfl ((aoB w ax s aw.b).oQ (.write h))
 .refine xW w s (k:=3) h rfl ?_
  cases V:py w.bO with
  |false=>exact(aoC w s V).oQ (.busy (.inl h) V)
  |true=>exact(aoD w ax s (uO V) aw.nm).oQ fun e w' aj=>.over h (uO V) aj
 .refine xW w s (k:=4) h rfl ?_
  exact((aoK w ax s aw.nm).aoa.Ce (nA:=fun g=>cV {w with ds:=g.1}) fun g c=>by
   simp only[co]
   by_cases E:1001=c
   .subst E;rfl
   .rw[mu E,mu E]).to (fun g=>⟨(_,_),.eK h g.1 g.2⟩) (fun _=>rfl) (fun _=>rfl)
 .refine xW w s (k:=5) h rfl ?_
  cases V:py w.bO with
  |false=>exact(aoE w s V).oQ (.busy (.inr aD7) V)
  |true=>exact(aoH w ax s (uO V)).oQ fun e w' aj=>.merge h (uO V) aj
 .refine xW w s (k:=6) h rfl ?_
  cases V:py w.bO with
  |false=>exact(aoF w s V).oQ (.busy (.inr aD7) V)
  |true=>exact(aoI w ax s (uO V)).oQ fun e w' aj=>.pull h (uO V) aj
 .refine xW w s (k:=7) h rfl ?_
  cases V:py w.bO with
  |false=>exact(aoG w s V).oQ (.busy (.inr aD7) V)
  |true=>exact(aoY w ax s (uO V) aw.nm).oQ fun e w' aj=>.push h (uO V) aj
 .refine xW w s (k:=8) h rfl ?_;have hZ:=ax.bO
  cases V:w.bO with
  |no=>exact(apj w s V).oQ (.xu h V)
  |dt top base l over=>
   rw[V] at hZ;obtain⟨rfl,rfl,a7⟩:=hZ;exact(apg w V a7 s).oQ (.xX h V)
  |pl top base over=>
   rw[V] at hZ;obtain⟨rfl,rfl⟩:=hZ;obtain⟨d,H⟩:=aw9.1 ax.kd;exact(aph w V ax.cs H s).oQ (.xY h V)
  |pu nm n rm l g over done=>
   rw[V] at hZ;obtain⟨rfl,rfl,rfl,_,ag⟩:=hZ;exact(api w ax.tolU V ag (ax.r9 (by rw[V];rfl)) s).oQ fun e w' aj=>.xZ h V aj
 .refine xW w s (k:=9) h rfl ?_
  cases V:py w.bO with
  |false=>exact(apf w s V).oQ (.E6 h V)
  |true=>exact(ape w s (uO V)).oQ (.I7 h (uO V))
end
section
abbrev Ym:d1:=⟨4,2,0,[],[109],[],[]⟩
structure Jb (n:Nat) (w:bQ):Prop where
 ok:eU w
 e: ∃p db lb a b,w={gv 1 60 n p db lb with ds:=[⟨[109],a,b,true,true,((2*n:Nat):Int),2,[]⟩]}
 aR:b7 w.L w.aU=n
 rd:iK w=List.replicate (32*n) 0
def fp.eL {w w':bQ} {s:d1} {e:Int} (Z:s.kd=4) (h:fp w s e w'):e=Cg w s/\ ∃l',((nh ((d2 w*2 ^w.z:Nat):Int) s.a=true/\Cf w.ds s.nm true true ((d2 w*2 ^w.z:Nat):Int) s.a [] l')\/(nh ((d2 w*2 ^w.z:Nat):Int) s.a=false/\l'=w.ds))/\w'={w with ds:=l'}:=by
 cases h with
 |eK h l' aj=>exact⟨rfl,l',aj,rfl⟩
 |_=>omega
def Yn:so [] [109]=0:=by kernel_rfl
def Yo {n:Nat} (E:1<=n) (ej:n<=6):mB ((1:Nat):Int) (n:Int) ((60:Nat):Int)=true:=by
 obtain rfl |rfl |rfl |rfl |rfl |rfl:n=1\/n=2\/n=3\/n=4\/n=5\/n=6:=aE5
 all_goals decide
def apV {n:Nat} (E:1<=n) (ej:n<=6):nh ((n*2 ^1:Nat):Int) 2=true:=by
 obtain rfl |rfl |rfl |rfl |rfl |rfl:n=1\/n=2\/n=3\/n=4\/n=5\/n=6:=aE5
 all_goals decide
def apW {n:Nat} (E:1<=n) (ej:n<=6) {p:aJ9} (dr:b6 1 60 (nl 1 60 n p)) {db lb:Nat} {e:Int} {w':bQ} (aj:fp (gv 1 60 n p db lb) Ym e w'):e=0/\Jb n w':=by
 have aC:=Yo E ej;have O:=apV E ej;have ar:=Pm aC dr db lb;have pz:=ar.step aj;have aM:b7 (nl 1 60 n p) hA=n:=X3 aC p;have apX:d2 (gv 1 60 n p db lb)=n:=aM;have H:=apO aC dr db lb;obtain⟨U,l',al,rfl⟩:=aj.eL rfl;unfold Cg at U;rw[apX] at U al;rw[vj O] at U;rcases al with⟨_,_,⟨_,_,_,_,a,b,rfl⟩ |⟨h,_⟩⟩ |⟨h,_⟩
 .refine⟨U.trans Yn,pz,⟨p,db,lb,a,b,?_⟩,aM,?_⟩
  .rw[show n*2 ^(gv 1 60 n p db lb).z=2*n from aB7 n 2];rfl
  .show iK (gv 1 60 n p db lb)=_;rw[H,show 16*((n:Int).toNat*2 ^1)=32*n by omega]
 .exact at1 Yn h
 .exact at1 (O.symm.trans h) aD8
def uQ (p:aJ9):List aI:=(fw 1 (nl 1 60 3 p) hA 0 (E8 97)).L
abbrev q':aH3:=E8 97++List.replicate 16 0
abbrev nX:aH3:=List.replicate 32 0
def apY (p:aJ9):(fw 1 (nl 1 60 3 p) hA 0 (E8 97)).e=0:=by kernel_rfl
def apZ (p:aJ9):b7 (uQ p) hA=3:=by kernel_rfl
def ap0:ik (fun _=>true) 1 (3*2 ^1)=[0,1,2]:=by kernel_rfl
def ap1 (p:aJ9):eg 1 (uQ p) hA 9 [0,1,2] [] 0=⟨0,[1,2],[(0,q')],false⟩:=by kernel_rfl
def ap2 (p:aJ9):eg 1 (uQ p) hA 9 [1,2] [(0,q')] 1=⟨0,[2],[(0,q'),(1,nX)],false⟩:=by kernel_rfl
def ap3 (p:aJ9):eg 1 (uQ p) hA 9 [2] [(0,q'),(1,nX)] 2=⟨0,[],[(0,q'),(1,nX),(2,nX)],false⟩:=by kernel_rfl
def Yp:List kD:=[((0:Int),q'),((1:Int),nX),((2:Int),nX)]
def ap4:oE [(0,q'),(1,nX),(2,nX)]=Yp:=by unfold oE;rw[show g3 (kB [(0,q'),(1,nX),(2,nX)])=[0,1,2] from rfl,ajQ (m:=[0,1,2]) (List.Perm.refl _) aD8];rfl
def tH:cb:=([120],[],(1:Int),(3:Int),Yp)
def Yq:gJ [] tH=0:=by kernel_rfl
def ap5:sq [tH]=0:=by kernel_rfl
def ap6:uF [tH] [120]=0:=by kernel_rfl
def ap7:(BV [tH] [120]).length=96/\eR (BV [tH] [120]) 0=some 97:=⟨aE0,aE0⟩
abbrev zU:Made:=uN [120] [] 1 3 [] none
def ap8:Nat->bQ->Prop
 |0,w=>w.bO= .pu hA 3 9 [0,1,2] [] false false/\w.bS=zU/\w.Q=[]
 |1,w=>w.bO= .pu hA 3 9 [1,2] [(0,q')] false false/\w.bS=zU/\w.Q=[]
 |2,w=>w.bO= .pu hA 3 9 [2] [(0,q'),(1,nX)] false false/\w.bS=zU/\w.Q=[]
 |3,w=>w.bO= .pu hA 3 9 [] [(0,q'),(1,nX),(2,nX)] false false/\w.bS=zU/\w.Q=[]
 |_,w=>w.bO= .no/\w.Q=[tH]
structure uR (p:aJ9) (k:Nat) (w:bQ):Prop where
 ok:eU w
 bi:w.z=1
 L:w.L=uQ p
 nn:w.aU=hA
 Yr:ap8 k w
def ap9 {p:aJ9} {db lb:Nat} {d:aI1} {e:Int} {w':bQ} (h:fp {gv 1 60 3 p db lb with ds:=d} X4 e w'):w'.z=1/\w'.L=uQ p/\w'.aU=hA/\w'.bO= .no/\w'.Q=[]:=by obtain⟨rfl,rfl⟩:=h.DS rfl;unfold hz;rw[vj (apY p)];exact⟨rfl,rfl,rfl,rfl,rfl⟩
def ap' {p:aJ9} {w w':bQ} {e:Int} (ax:eU w) (O:w.z=1) (cG:w.L=uQ p) (H:w.aU=hA) (V:w.bO= .no) (sX:w.Q=[]) (h:fp w Pn e w'):uR p 0 w':=by
 have c1:=ax.step h
 have hn:sr w Pn=false:=by
  unfold sr;rw[sX];rfl
 have aM:d2 w=3:=by
  unfold d2;rw[cG,H];exact apZ p
 rcases h.apx rfl with⟨h,_⟩ |⟨_,h⟩
 .rw[V] at h
  cases h
 .rcases h with⟨h,_⟩ |⟨_,⟨_,⟨h,_⟩ |⟨_,_,b,rfl⟩⟩ |⟨h,_⟩ |⟨h,_⟩⟩
  .exact at1 (h.symm.trans hn) aD8
  .exact at1 h aD8
  .refine⟨c1,O,cG,H,?_,?_,sX⟩
   .rw[aM,O,ap0,H];rfl
   .show uN _ _ _ _ _ _=zU;rw[aM,O];rfl
  .exact at1 rfl h
  .exact at1 rfl h
def aqa {p:aJ9} {k:Nat} {w w':bQ} {e:Int} (a7:uR p k w) (h:fp w X5 e w'):uR p (k+1) w':=by
 have c1:=a7.ok.step h;obtain⟨ax,E,G,ah,aS⟩:=a7
 have st: ∀{l:aH4} {g:aH8} {c:Nat} {l':aH4} {hb:aH8},w.bO= .pu hA 3 9 l g false false->w.bS=zU->w.Q=[]->l≠[]->eJ l=c->eg 1 (uQ p) hA 9 l g c=⟨0,l',hb,false⟩->
   (eU w'/\w'.z=1/\w'.L=uQ p/\w'.aU=hA/\w'.bO= .pu hA 3 9 l' hb false false/\w'.bS=zU/\w'.Q=[]):=fun {l g c l' hb} kG px q4 a6 aC J=>by
  rcases h.Pk rfl with⟨j,_⟩ |⟨_,_,_,j,_⟩ |⟨_,_,j,_⟩ |⟨nm,n,rm,l,g,j,aj⟩
  .rw[kG] at j;cases j
  .rw[kG] at j;cases j
  .rw[kG] at j;cases j
  .rw[kG] at j
   cases j
   rcases aj with⟨al,_⟩ |⟨_,_,rfl⟩
   .exact at1 al a6
   .rw[E,G,aC,J] at c1⊢;exact⟨c1,rfl,rfl,ah,rfl,px,q4⟩
 match k,aS with
 |0,⟨kG,px,q4⟩=>
  obtain⟨bM,bU,a3,a4,a5,fj,ru⟩:=st kG px q4 aD8 rfl (ap1 p);exact⟨bM,bU,a3,a4,a5,fj,ru⟩
 |1,⟨kG,px,q4⟩=>
  obtain⟨bM,bU,a3,a4,a5,fj,ru⟩:=st kG px q4 aD8 rfl (ap2 p);exact⟨bM,bU,a3,a4,a5,fj,ru⟩
 |2,⟨kG,px,q4⟩=>
  obtain⟨bM,bU,a3,a4,a5,fj,ru⟩:=st kG px q4 aD8 rfl (ap3 p);exact⟨bM,bU,a3,a4,a5,fj,ru⟩
 |3,aS=>
  obtain⟨kG,px,q4⟩:=aS;rcases h.Pk rfl with⟨j,_⟩ |⟨_,_,_,j,_⟩ |⟨_,_,j,_⟩ |⟨nm,n,rm,l,g,j,aj⟩
  .rw[kG] at j;cases j
  .rw[kG] at j;cases j
  .rw[kG] at j;cases j
  .rw[kG] at j
   cases j
   rcases aj with⟨_,t,aj,rfl⟩ |⟨al,_⟩
   .have O:gS w.bS [(0,q'),(1,nX),(2,nX)]=tH:=by
     rw[px];show([120],[],(1:Int),(3:Int),oE [(0,q'),(1,nX),(2,nX)])=tH;rw[ap4];rfl
    have al:g5 [] tH=[tH]:=by
     unfold g5;rw[Yq];rfl
    have:=apy aj (by show gJ w.Q (gS w.bS _)=0;rw[O,q4];exact Yq) (by show sq (g5 w.Q (gS w.bS _))=0;rw[O,q4,al];exact ap5);refine⟨c1,E,G,ah,rfl,this.1.trans ?_⟩;show g5 w.Q (gS w.bS _)=_;rw[O,q4,al]
   .exact at1 rfl al
 |k+4,aS=>
  obtain⟨kG,px⟩:=aS;rcases h.Pk rfl with⟨_,_,rfl⟩ |⟨_,_,_,j,_⟩ |⟨_,_,j,_⟩ |⟨nm,n,rm,l,g,j,aj⟩
  .exact⟨ax,E,G,ah,kG,px⟩
  .rw[kG] at j;cases j
  .rw[kG] at j;cases j
  .rw[kG] at j;cases j
end
section
abbrev np:bz:=.bV aq (.bV (.ci .u8) (.bV aq .str))
abbrev jI:=aa np
abbrev Ys (x:jI):Int:=x.1
abbrev km (x:jI):aH3:=x.2.1
abbrev kI (x:jI):Int:=x.2.2.1
abbrev qm (x:jI):aH3:=x.2.2.2
def nq (x:jI):Nat:=(km x).length+(qm x).length
abbrev Ps (x:jI):List bA:=[.d (.int .i64 (Ys x)),.d (.b' .u8 (km x)),.d (.int .i64 (kI x)),.d (.str (qm x))]
abbrev aqb (x:jI):aN:=.c (.agg (Ps x))
def uS (l:List jI) (k:Nat):Nat:=((l.take k).map nq).sum
def Yt (l:List jI) {k:Nat} (h:k < l.length):uS l (k+1)=uS l k+nq l[k]:=apv nq h
def wx (y:Int) (l:List jI):Bool:=((decide (1<=y)&&decide (y<=6))&&decide (l.length<=40))&&decide ((l.map nq).sum<=3000)
structure Fa (l:List jI):Prop where
 len:l.length<=1048576
 sum:(l.map nq).sum<=1048576
def aqc (x:jI):nq x+1<=h8 np x:=by have E:=X1 (km x);have e:h8 np x=1+(h8 (.ci .u8) (km x)+(1+(1+(qm x).length))):=rfl;have ao:nq x=(km x).length+(qm x).length:=rfl;rw[e,E,ao];omega
def Yu: ∀l:List jI,l.length+(l.map nq).sum<=h8 (.ci np) l
 | []=>at6 _
 |o::l=>by
  have E:=Yu l;have e:h8 (.ci np) (o::l)=1+(h8 np o+(List.map (h8 np) l).sum):=rfl;have ao:h8 (.ci np) l=1+(List.map (h8 np) l).sum:=rfl;have br:=aqc o;rw[e,aw7,au9,List.sum_cons];omega
def Fa.of {l:List jI} (h:h8 (.ci np) l<=1048576):Fa l:=by have:=Yu l;exact⟨aD7,aD7⟩
def aqd {y:Int} {l:List jI} (h:wx y l=true):(1<=y/\y<=6)/\ ∀x∈l,(km x).length<=3000/\(qm x).length<=3000:=by unfold wx at h;simp only[as8,aw0] at h;refine⟨h.1.1,fun x hx=>?_⟩;have E:nq x<=(l.map nq).sum:=X2 (f:=nq) hx;have G:nq x=(km x).length+(qm x).length:=rfl;omega
abbrev aqe (y:Int) (l:List jI) (k n:Nat):aW:=[(0,ab y),(1,bE np l),(5,ab (n:Nat)),(8,bE np l),(9,ab (l.length:Nat)),(10,ab (k:Nat))]
def aqf (y:Int) (l:List jI) (al:Fa l):Fn prog 5 [ab y,bE np l] [] [] (gb (wx y l)) []:=by
 have n1:=al.len;have l4:=al.sum;refine aP [7] func5 ?_;refine dZ [7] (X:=Nat) (fun k=>aqe y l k (uS l k)) (fun _=>[]) (fun k=>k<=l.length) (fun k=>l.length - k) 0 (at6 _) ?_ ?_
 .exact ac.sub aA trivial
 intro k Z;have Z:k<=l.length:=Z;refine⟨fun h=>?_,fun h=>?_⟩
 .have cd:k < l.length:=by
   have h:decide ((k:Int) < (l.length:Int))=true:=h;simpa using h
  have Jc:=X0 nq l (k+1);have Jc:uS l (k+1)<=(l.map nq).sum:=Jc;rw[Yt l cd] at Jc;have kT:=Yt l cd;refine⟨aD7,l[k],lE (n:=k) cd,?_⟩;generalize l[k]=o at Jc kT;have asZ:nq o=(km o).length+(qm o).length:=rfl;refine⟨rfl,?_⟩;have cr: -9223372036854775808<=((km o).length:Int)+(qm o).length/\((km o).length:Int)+(qm o).length<=9223372036854775807:=aE5
  have cv: -9223372036854775808<=(uS l k:Int)+(((km o).length:Int)+(qm o).length)/\(uS l k:Int)+(((km o).length:Int)+(qm o).length)<=9223372036854775807:=aE5
  refine⟨cr,cv,?_⟩;refine⟨aD7,k+1,by show k+1<=l.length;omega,by show l.length - (k+1) < l.length - k;omega,ac.sub ⟨rfl,rfl,?_,rfl,rfl,rfl,trivial⟩ trivial⟩;show(uS l k:Int)+(((km o).length:Int)+(qm o).length)=((uS l (k+1):Nat):Int);omega
 .have cd:k=l.length:=by
   have h:decide ((k:Int) < (l.length:Int))=false:=h;have:=oj h;omega
  subst cd;have bR:uS l l.length=(l.map nq).sum:=by unfold uS;rw[av0]
  rw[bR];have bg:wx y l=(((decide (1<=y)&&decide (y<=6))&&decide (l.length<=40))&&decide ((l.map nq).sum<=3000)):=rfl;generalize(l.map nq).sum=n at*;refine bw [] (bn) ⟨fun cu=>?_,fun cu=>?_⟩
  .have cu:decide (1<=y)=true:=cu;refine⟨fun cp=>?_,fun cp=>?_⟩
   .have cp:decide (y<=6)=true:=cp;refine⟨fun fD=>?_,fun fD=>?_⟩
    .have fD:decide (l.length<=40)=true:=au1 (by have:=gd fD;omega);refine⟨_,_,_,bn,rfl,(show decide ((n:Int)<=3000)=wx y l from ?_),trivial,rfl⟩;rw[bg,cu,cp,fD,aB6];have:((n:Int)<=3000)=(n<=3000):=propext ⟨fun h=>by omega,fun h=>by omega⟩;simp only[this];rfl
    .have fD:decide (l.length<=40)=false:=ax2 (by have:=oj fD;omega);refine⟨_,_,_,bn,rfl,(show false=wx y l from ?_),trivial,rfl⟩;rw[bg,cu,cp,fD];rfl
   .have cp:decide (y<=6)=false:=cp;refine⟨_,_,_,bn,rfl,(show false=wx y l from ?_),trivial,rfl⟩;rw[bg,cu,cp];rfl
  .have cu:decide (1<=y)=false:=cu;refine⟨_,_,_,bn,rfl,(show false=wx y l from ?_),trivial,rfl⟩;rw[bg,cu];rfl
end
section
abbrev Jd (k:Int):Prop:=k=0\/k=3\/k=4\/k=5\/k=6\/k=7\/k=8\/k=9
def Yv (w:bQ) (ax:eU w) (s:d1) (aw:tF s) (Z:Jd s.kd) (ar:s.ks=[]):cD prog 8 (apz s) (cV w) [] (X:=nW (fp w s)) (fun p=>ab p.1.1) (fun p=>cV p.1.2):=
 cD.arg (Yl w ax s aw Z) ⟨rfl,⟨rfl,rfl,rfl,rfl,rfl,rfl,by rw[ar];rfl,trivial⟩,trivial⟩
def Je (w:bQ) (ax:eU w) (s:d1) (aw:tF s) (Z:Jd s.kd) (ar:s.ks=[]) (E:s.b=[]):cD prog 8 (X6 s) (cV w) [] (X:=nW (fp w s)) (fun p=>ab p.1.1) (fun p=>cV p.1.2):=
 cD.arg (Yl w ax s aw Z) ⟨rfl,⟨rfl,rfl,rfl,by rw[E];rfl,rfl,rfl,by rw[ar];rfl,trivial⟩,trivial⟩
def aqg (n:Int) (ar:0<=n) (E:n < 256):Fn prog 23 [nw (.d (.int .u8 n))] [] [] (bE .u8 (E8 n)) []:=by refine aP [] func23 ?_;exact⟨⟨rfl,aD8,aD8⟩,rfl,⟨aD8,aD8⟩,⟨⟨ar,E⟩,aD8⟩,_,_,_,ac.dH 4 rfl,rfl,rfl,trivial,rfl⟩
def Yw {n:Nat} (E:1<=n) (ej:n<=6):cD prog 7 [ab (n:Int)] [] [1001,1101,1201,1301,1401,1501,1601] (X:={w:bQ//Jb n w}) (fun _=>ap 1401) (fun g=>cV g.1):=by
 have aC:=Yo E ej;have hn:=apu 1 60 n aD8 aC;refine ia [1,2,4] func7 ?_;refine bG.iF eY aE0 ⟨_,_,_,fun g=>_,fun g=>_,hn,trivial,rfl,fun _=>rfl,fun x=>?_⟩;obtain⟨p,dr⟩:=x;refine bG.fW (dF.mark 4001 4009 rfl aD8) fun db=>bG.le (ac.trans (ac.Pb 1401 3 4001 4009 db rfl rfl rfl) (ac.trans (ac.Pc 4001 4009 db rfl rfl) (ac.trans (ac.vy 1101 rfl) (ac.put 1101 4001 aD8 rfl rfl)))) <| bG.fW (dF.mark 3001 3009 rfl aD8) fun lb=>bG.le (ac.trans (ac.Pb 1401 5 3001 3009 lb rfl rfl rfl) (ac.trans (ac.Pc 3001 3009 lb rfl rfl) (ac.trans (ac.vy 1301 rfl) (ac.put 1301 3001 aD8 rfl rfl)))) <| bG.le (ac.trans (ac.Cb 1401 8 rfl rfl) (ac.trans (ac.Cb 1401 9 rfl rfl) (ac.trans (ac.Cb 1401 16 rfl rfl) (ac.trans (ac.vy 1601 rfl) (ac.an7 1501 1001 rfl aD8))))) ?_
 have ar:=Pm aC dr db lb;have H:=Je _ ar Ym (tF.of aD8 aD8 aD8 rfl) (.inr (.inr (.inl rfl))) rfl rfl;refine bG.le (cz [(3,ap 1401),(4,ab 0)] (cV (gv 1 60 n p db lb))) <| bG.iF eY aE0 <| dh ⟨_,_,_,fun g=>_,fun g=>_,H,aA,rfl,fun _=>rfl,fun x=>?_⟩;obtain⟨⟨e,w'⟩,aj⟩:=x;obtain⟨U,c1⟩:=apW E ej dr aj;have U:e=0:=U;have c1:Jb n w':=c1;subst U;exact⟨fun h=>at1 h aD9,fun _=>bw [] (cz [(3,ap 1401)] (cV w')) ⟨⟨w',c1⟩,_,_,_,bn,rfl,rfl,aA,rfl⟩⟩
def aqh {p:aJ9} {k:Nat} {w:bQ} (h:uR p k w):(k < 4->xP w.bO=3)/\(4<=k->xP w.bO=0):=by
 have aS:=h.Yr
 match k,aS with
 |0,aS=>exact⟨fun _=>by rw[aS.1];rfl,fun h=>by omega⟩
 |1,aS=>exact⟨fun _=>by rw[aS.1];rfl,fun h=>by omega⟩
 |2,aS=>exact⟨fun _=>by rw[aS.1];rfl,fun h=>by omega⟩
 |3,aS=>exact⟨fun _=>by rw[aS.1];rfl,fun h=>by omega⟩
 |k+4,aS=>exact⟨fun h=>by omega,fun _=>by rw[aS.1];rfl⟩
def aqi {p:aJ9} {w:bQ} (a7:uR p 0 w):cD prog 24 [ap 1401] (cV w) [] (X:={w':bQ//uR p 4 w'}) (fun _=>g') (fun g=>cV g.1):=by
 refine ia [3] func24 ?_;refine dZ [3] (X:=Nat×bQ) (fun x=>[(0,ap 1401),(2,ab (x.1:Nat))]) (fun x=>cV x.2) (fun x=>x.1<=4/\uR p x.1 x.2) (fun x=>4 - x.1) (0,w) ⟨at6 _,a7⟩ ?_ ?_
 .exact ac.sub aA aA
 rintro⟨k,w⟩ ⟨Z,a7⟩;have Z:k<=4:=Z;have a7:uR p k w:=a7;obtain⟨kG,px⟩:=aqh a7;refine⟨fun _=>av (apA w) ⟨fun h=>?_,fun h=>?_⟩,fun h=>at1 (oj h) aD7⟩
 .have cd:k < 4:=ax9 fun J=>by
   have:=gd h;rw[px aD7] at this;omega
  have h6:=Je w a7.ok X5 (tF.of aD8 aD8 aD8 rfl) (.inr (.inr (.inr (.inr (.inr (.inr (.inl rfl))))))) rfl rfl;refine bG.iF eY aE0 ⟨_,_,_,fun g=>_,fun g=>_,h6,aA,rfl,fun _=>rfl,fun x=>?_⟩;obtain⟨⟨e,w'⟩,aj⟩:=x;refine⟨aD7,(k+1,w'),⟨by show k+1<=4;omega,aqa a7 aj⟩,by show 4 - (k+1) < 4 - k;omega,ac.sub aA aA⟩
 .have cd:k=4:=ax9 fun J=>by
   have:=oj h;rw[kG aD7] at this;omega
  subst cd;exact⟨⟨w,a7⟩,_,_,_,bn,rfl,trivial,aA,rfl⟩
def aqj:Fn prog 6 [] [] [] (gb true) []:=by
 have Pt:=Yw (n:=3) aD8 aD8;refine aP [1,2,4,5,6,7] func6 ?_;refine bG.iF eY aE0 ⟨_,_,_,fun g=>_,fun g=>_,Pt,trivial,rfl,fun _=>rfl,fun x=>?_⟩;obtain⟨w,c1⟩:=x;refine bw [4,5,6,7] (cz [(1,ap 1401)] (cV w)) ?_;have E:=Yv w c1.ok X4 (tF.of aD8 aD8 aD8 rfl) (.inl rfl) rfl;obtain⟨ax,⟨p,db,lb,a,b,hw⟩,_,_⟩:=c1;refine bG.iF eY aE0 <| ov ((aqg 97 aD8 aD8).x) fun _=>⟨_,_,_,fun g=>_,fun g=>_,E,aA,rfl,fun _=>rfl,fun x=>?_⟩
 obtain⟨⟨af,cJ⟩,aj⟩:=x;have x2:=ax.step aj;rw[hw] at aj;obtain⟨fU,gV,f3,f4,f5⟩:=ap9 aj;have x2:eU cJ:=x2;have fU:cJ.z=1:=fU;have gV:cJ.L=uQ p:=gV;have f3:cJ.aU=hA:=f3;have f4:cJ.bO= .no:=f4;have f5:cJ.Q=[]:=f5;have G:=Je cJ x2 Pn (tF.of aD8 aD8 aD8 rfl) (.inr (.inr (.inr (.inr (.inr (.inl rfl)))))) rfl rfl;refine bG.le (cz [(1,ap 1401)] (cV cJ)) <| bG.iF eY aE0 ⟨_,_,_,fun g=>_,fun g=>_,G,aA,rfl,fun _=>rfl,fun x=>?_⟩;obtain⟨⟨ao,eH⟩,vf⟩:=x;have a7:uR p 0 eH:=ap' x2 fU gV f3 f4 f5 vf;have U:=aqi a7;refine bG.le (cz [(1,ap 1401)] (cV eH)) <| bG.iF eY aE0 ⟨_,_,_,fun g=>_,fun g=>_,U,aA,rfl,fun _=>rfl,fun x=>?_⟩;obtain⟨w,a7⟩:=x;have a7:uR p 4 w:=a7;have sX:w.Q=[tH]:=a7.Yr.2;have a2:=a7.ok.q.tooK;have h0:=Fn.ow (b:=w.lb) [1002] 1301 (alV a2 [120]);have aqk:uF w.Q [120]=0:=by rw[sX];exact ap6
 have aql:(BV w.Q [120]).length=96/\eR (BV w.Q [120]) 0=some 97:=by rw[sX];exact ap7
 rw[aqk] at h0;obtain⟨r1,r2⟩:=aql;generalize BV w.Q [120]=bo at h0 r1 r2;refine bw [] (cz [(1,ap 1401)] (cV w)) <| av (X7 w) ⟨fun _ _=>av (X7 w) <| av h0 <| fR ?_,fun h=>aE7⟩;have U4:decide ((bo.length:Int)=96)=true:=by rw[r1];rfl
 exact⟨fun _=>⟨aD8,(97:UInt8),r2,bb⟩,fun h=>Bool.noConfusion (U4.symm.trans h)⟩
abbrev Jf (x:jI):d1:=⟨0,Ys x,0,km x,[],[],[]⟩
abbrev Jg (x:jI):d1:=⟨kI x,0,9,[],qm x,[],[]⟩
def ra (k:Int):Bool:=decide (k=3)||(decide (5<=k)&&decide (k<=9))
def Yx (w:bQ) (x:jI) (w':bQ):Prop:=
 ∃cJ,((0 < (km x).length/\ ∃e,fp w (Jf x) e cJ)\/((km x).length=0/\cJ=w))/\((ra (kI x)=true/\ ∃e,fp cJ (Jg x) e w')\/(ra (kI x)=false/\w'=cJ))
def Yy {k:Int} (h:ra k=true):k=3\/k=5\/k=6\/k=7\/k=8\/k=9:=by unfold ra at h;simp only[ay9,as8,aw0] at h;omega
abbrev Yz (w:bQ) (x:jI):ay:=cV w++[(3,.cells (Ps x))]
abbrev YA:aW:=[(0,ap 1401),(3,ap 3)]
def aqm (w:bQ) (ax:eU w) (x:jI) (O:(km x).length<=1000000) (hn:(qm x).length<=1000000):cD prog 9 [ap 1401,aqb x] (cV w) [] (X:={w':bQ//Yx w x w'}) (fun _=>g') (fun g=>cV g.1):=by
 have hw:=Yv w ax (Jf x) (tF.of O (at6 _) (show(0:Int)<=9223372036854775807 by decide) rfl) (.inl rfl) rfl
 have tail: ∀cJ:bQ,eU cJ->(ra (kI x)=true->cD prog 8 (X6 (Jg x)) (cV cJ) [] (X:=nW (fp cJ (Jg x))) (fun p=>ab p.1.1) (fun p=>cV p.1.2)):=fun cJ E aV=>
  Je cJ E (Jg x) (tF.of (at6 _) hn (show(9:Int)<=9223372036854775807 by decide) rfl) (by have:=Yy aV;show Jd (kI x);unfold Jd;omega) rfl rfl
 refine ia [2,3,4] func9 ?_;refine⟨rfl,?_⟩;refine⟨fun h=>?OD,fun h=>?OE⟩
 case' OD=>
  have bv:0 < (km x).length:=by
   have h:decide ((0:Int) < ((km x).length:Nat))=true:=h;have:=gd h;omega
  refine bG.iF eY aE0 <| ov hw fun g=>?_
  obtain⟨⟨e,cJ⟩,aj⟩:=g;have x2:eU cJ:=ax.step aj;have aB:(0 < (km x).length/\ ∃e,fp w (Jf x) e cJ)\/((km x).length=0/\cJ=w):=.inl ⟨bv,e,aj⟩;refine bw [4] (cz YA (Yz cJ x)) ?_
 case' OE=>
  have bv:(km x).length=0:=by
   have h:decide ((0:Int) < ((km x).length:Nat))=false:=h;have:=oj h;omega
  obtain⟨cJ,x2,aB,vA⟩: ∃cJ,eU cJ/\((0 < (km x).length/\ ∃e,fp w (Jf x) e cJ)\/((km x).length=0/\cJ=w))/\cJ=w:=⟨w,ax,.inr ⟨bv,rfl⟩,rfl⟩;refine bw [4] (ac.sub (K':=YA) (B':=Yz cJ x) aA (by rw[vA];exact aA)) ?_
 all_goals
  clear hw;refine⟨fun cu=>?_,fun cu=>?_⟩
  .have cu:decide (kI x=3)=true:=cu;have aV:ra (kI x)=true:=by unfold ra;rw[cu];rfl
   have H:=tail cJ x2 aV;refine bG.iF eY aE0 <| ov H fun g=>?_
   obtain⟨⟨e,w'⟩,aj⟩:=g;exact⟨⟨w',cJ,aB,.inl ⟨aV,e,aj⟩⟩,_,_,_,bn,rfl,trivial,aA,rfl⟩
  .have cu:decide (kI x=3)=false:=cu;refine⟨fun cp=>?_,fun cp=>?_⟩
   .have cp:decide (5<=kI x)=true:=cp;refine⟨fun fD=>?_,fun fD=>?_⟩
    .have fD:decide (kI x<=9)=true:=fD;have aV:ra (kI x)=true:=by unfold ra;rw[cu,cp,fD];rfl
     have H:=tail cJ x2 aV;refine bG.iF eY aE0 <| ov H fun g=>?_
     obtain⟨⟨e,w'⟩,aj⟩:=g;exact⟨⟨w',cJ,aB,.inl ⟨aV,e,aj⟩⟩,_,_,_,bn,rfl,trivial,aA,rfl⟩
    .have fD:decide (kI x<=9)=false:=fD;have aV:ra (kI x)=false:=by unfold ra;rw[cu,cp,fD];rfl
     exact⟨⟨cJ,cJ,aB,.inr ⟨aV,rfl⟩⟩,_,_,_,bn,rfl,trivial,aA,rfl⟩
   .have cp:decide (5<=kI x)=false:=cp;have aV:ra (kI x)=false:=by unfold ra;rw[cu,cp];rfl
    exact⟨⟨cJ,cJ,aB,.inr ⟨aV,rfl⟩⟩,_,_,_,bn,rfl,trivial,aA,rfl⟩
end
section
abbrev uT:bz:=.int .i64
def aqn {α:Type} {L:List α} {k:Nat} {n:Int} (hn:n=(k:Nat)) (h:k < L.length):eR L n.toNat=some L[k]:=by subst hn;exact as7 h
def Cq {α:Type} {l:List α} {k:Nat} (h:k < l.length):l.take k++[l[k]]=l.take (k+1):=by rw[aB1,as7 h];rfl
def rb (n k:Nat):UInt8:=UInt8.ofNat (n/256 ^k % 256)
def dy (n:Nat):Nat->aH3
 |0=>[]
 |k+1=>rb n k::dy n k
def mO (n:Nat): ∀k,(dy n k).length=k
 |0=>rfl
 |k+1=>by simp[dy,mO n k]
def YB (n:Nat): ∀(k i:Nat),i < k->(dy n k)[i]? =some (rb n (k - 1 - i))
 |0,i,h=>by omega
 |k+1,0,h=>by simp[dy]
 |k+1,i+1,h=>by
  simp only[dy,aC4];rw[YB n k i aD7]
  congr 2
  omega
def aqo (m k:Nat):UInt8.ofNat (((m:Nat):Int)/((2 ^(8*k):Nat):Int) % 256).toNat=rb m k:=by
 unfold rb;have h:(2:Nat) ^(8*k)=256 ^k:=by rw[Nat.pow_mul]
 rw[h]
 congr 1
abbrev hB (w:Nat):Prop:=w=1\/w=2\/w=4
def Pu (w:Nat) (hw:hB w):Fn prog 112 [ab (w:Nat)] [] [] (gb true) []:=by
 refine aP [] func112 ?_;refine⟨fun h=>?_,fun E=>?_⟩
 .exact bb
 refine⟨fun h=>?_,fun G=>?_⟩
 .exact bb
 refine⟨fun h=>?_,fun ah=>?_⟩
 .exact bb
 have E: ¬((w:Nat):Int)=1:=oj E;have G: ¬((w:Nat):Int)=2:=oj G;have ah: ¬((w:Nat):Int)=4:=oj ah;unfold hB at hw;omega
def aqp (n w:Nat) (hw:hB w) (hn:n < 256 ^w):Fn prog 171 [ab (n:Nat),ab (w:Nat)] [] [] (gb true) []:=by
 have ag:(2 ^(8*((w:Nat):Int)).toNat:Nat)=256 ^w/\256 ^w<=4294967296:=by
  rcases hw with rfl |rfl |rfl <;>decide
 refine aP [] func171 ?_;refine⟨fun h=>?_,fun E=>?_⟩
 .have h:((w:Nat):Int)=8:=gd h;unfold hB at hw;omega
 refine⟨fun h=>?_,fun h=>at1 (show¬(0:Int)<=((n:Nat):Int) from oj h) aD7⟩;have ln:w<=4:=by unfold hB at hw;omega
 refine⟨aD7,⟨aD7,aD7,aD7⟩,?_,?_⟩
 .rw[ag.1];omega
 refine⟨_,_,_,bn,rfl,au1 ?_,trivial,rfl⟩;show((n:Nat):Int) < 1*((2 ^(8*((w:Nat):Int)).toNat:Nat):Int);rw[ag.1];omega
def rc (w:Nat) (l:aH4):aH3:=l.flatMap fun n=>dy n w
def aqq (w:Nat) (l:aH4):(rc w l).length=l.length*w:=by
 induction l with
 |nil=>simp[rc]
 |cons n l bk=>
  simp only[rc,aD0,as9,aw7,mO] at bk⊢;rw[bk,aA6];omega
def aqr (w:Nat) {l:aH4} {k:Nat} (h:k < l.length):rc w (l.take (k+1))=rc w (l.take k)++dy l[k] w:=by unfold rc;rw[<-Cq h,List.flatMap_append];simp
def Fb (l:aH4):List Int:=l.map Int.ofNat
abbrev tI (l:aH4):List (aa uT):=Fb l
abbrev aqs (l:aH4) (w r k:Nat):aW:=[(0,dY r),(1,ab (w:Nat)),(2,bE uT (tI l)),(17,bE uT (tI l)),(18,ab (l.length:Nat)),(19,ab (k:Nat))]
abbrev aqt (l:aH4) (w r k:Nat):aW:=[(0,dY r),(1,ab (w:Nat)),(29,bE uT (tI l)),(30,ab (l.length:Nat)),(31,ab (k:Nat))]
abbrev YC (l:aH4) (w r k n i:Nat):aW:=[(0,dY r),(1,ab (w:Nat)),(11,ab (n:Nat)),(29,bE uT (tI l)),(30,ab (l.length:Nat)),(31,ab (k:Nat)),(35,ab (w:Nat)),(36,ab (i:Nat))]
abbrev k9 (r:Nat) (l:aH3):ay:=[(r,.row 5 .u8 l)]
def YD {l:aH4} {k:Nat} (h:k < l.length):eR (tI l) k=some ((l[k]:Nat):Int):=by show(Fb l)[k]? =some _;unfold Fb;rw[av1,as7 h];rfl
def aqu (xs ys:aH3) (n i:Nat) (w:Nat) (hi:i < w):(xs++(dy n w).take i)++[rb n (w - 1 - i)]=xs++(dy n w).take (i+1):=by
 have al:=mO n w;rw[aw8,<-Cq (by omega:i < (dy n w).length)]
 congr 2
 have:=YB n w i hi;rw[as7 aD7] at this;injection this with this
 rw[this]
def YE (xs:aH3) (w:Nat) (l:aH4) (hw:hB w) (hf: ∀n,n∈l->n < 256 ^w) (al:l.length<=1000) (hx:xs.length<=1000000000):
  Fn prog 104 [dY 1001,ab (w:Nat),bE uT (tI l)] (k9 1001 xs) [1002] (.b4 [.one (.own 1002),.one (.d (.bool true))]) (k9 1002 (xs++rc w l)):=by
 have ln:w<=4:=by unfold hB at hw;omega
 have tk:List.length (tI l)=l.length:=show(Fb l).length=_ by unfold Fb;exact au3 _
 refine aP [] func104 ?_;refine av (Pu w hw) <| dh <| dZ [] (X:=Nat) (aqs l w 2001) (fun _=>k9 2001 xs) (fun k=>k<=l.length) (fun k=>l.length - k) 0 (at6 _) ?_ ?_
 .exact ac.trans (ac.aT 1001 2001 rfl) (ac.sub ⟨rfl,rfl,rfl,rfl,at2 Int.ofNat tk,rfl,trivial⟩ aA)
 intro k Z;refine⟨fun h=>?_,fun h=>?_⟩
 .have cd:k < l.length:=aE6
  exact⟨aD7,((l[k]:Nat):Int),YD cd,av (aqp l[k] w hw (hf _ (av5 cd))) <| dh ⟨aD7,k+1,cd,aD7,ac.sub aA aA⟩⟩
 clear h Z;refine dZ [] (X:=Nat) (aqt l w 2001) (fun k=>k9 2001 (xs++rc w (l.take k))) (fun k=>k<=l.length) (fun k=>l.length - k) 0 (at6 _) ?_ ?_
 .exact ac.sub ⟨rfl,rfl,rfl,at2 Int.ofNat tk,rfl,trivial⟩ ⟨at2 (fun l=>some (a8.row _ .u8 l)) (av2 xs).symm,trivial⟩
 intro k Z;refine⟨fun h=>?_,fun h=>?_⟩
 .have cd:k < l.length:=aE6
  have aw:=aqr w cd;have hn:=hf _ (av5 cd);have bW:=aqq w (l.take k);have Ke:(l.take k).length*w<=1000*4:=ay8 aF0 ln;refine⟨aD7,((l[k]:Nat):Int),YD cd,?_⟩;generalize l[k]=n at*;generalize rc w (l.take k)=ys at*;have V7:n < 4294967296:=au8 hn (by rcases hw with rfl |rfl |rfl <;>decide);refine dZ [] (X:=Nat) (YC l w 2001 k n) (fun i=>k9 2001 ((xs++ys)++(dy n w).take i)) (fun i=>i<=w) (fun i=>w - i) 0 (at6 _) ?_ ?_
  .exact ac.sub aA ⟨at2 (fun l=>some (a8.row _ .u8 l)) (av2 (xs++ys)).symm,trivial⟩
  intro i hi;refine⟨fun h=>?_,fun h=>?_⟩
  .have dc:i < w:=by
    have h:(i:Int) < (w:Int):=gd h;omega
   have af:(8*((w:Int) - 1 - (i:Int))).toNat=8*(w - 1 - i):=aE5
   have m1: -9223372036854775808<=(w:Int) - 1/\(w:Int) - 1<=9223372036854775807:=aE5
   have m2: -9223372036854775808<=(w:Int) - 1 - (i:Int)/\(w:Int) - 1 - (i:Int)<=9223372036854775807:=aE5
   have m3: -9223372036854775808<=8*((w:Int) - 1 - (i:Int))/\8*((w:Int) - 1 - (i:Int))<=9223372036854775807:=aE5
   have iu:0<=(n:Int)/\0<=8*((w:Int) - 1 - (i:Int))/\8*((w:Int) - 1 - (i:Int))<=64:=aE5
   refine⟨m1,m2,m3,iu,⟨Int.emod_nonneg _ aD8,Int.emod_lt_of_pos _ aD8⟩,?_,rfl,?_⟩
   .show((xs++ys)++(dy n w).take i).length+1<=4294967296;rw[as9,as9,at9];omega
   refine⟨aD7,i+1,dc,aD7,ac.trans (ac.sub (K':=YC l w 49 k n (i+1)) (B':=k9 49 ((xs++ys)++(dy n w).take (i+1))) aA ⟨at2 (fun l=>some (a8.row _ .u8 l)) ?_,trivial⟩) (ac.aT 49 2001 rfl)⟩;rw[<-aqu (xs++ys) [] n i w dc,<-aqo,<-af];rfl
  .have dc:i=w:=by
    have h: ¬(i:Int) < (w:Int):=oj h;omega
   subst dc;refine⟨aD7,k+1,cd,aD7,ac.sub aA ⟨?_,trivial⟩⟩;rw[aw,ax3 (by rw[mO];omega),aw8];rfl
 have cd:k=l.length:=by
     have: ¬k < l.length:=aE6
     omega
 subst cd;rw[av0];exact⟨_,_,_,ac.aT 2001 1002 rfl,rfl,aA,aA,rfl⟩
def sw (s:aH3) (w:Nat):aH3:=dy s.length w++s
def Pv (s:aH3) (w:Nat):(sw s w).length=w+s.length:=by unfold sw;rw[as9,mO]
abbrev e1:Type:=aH3×Int
def i5 (n:Nat) (st:e1):aH3:=if st.2≠0\/st.1.length < n then[] else st.1.take n
def kn (n:Nat) (st:e1):e1:=if st.2≠0 then st else if st.1.length < n then(st.1,10) else(st.1.drop n,0)
def lV (l:aH3):Nat:=l.foldl (fun a c=>a*256+c.toNat) 0
def Jh (l:aH3) (c:UInt8):lV (l++[c])=lV l*256+c.toNat:=by simp[lV,aB9]
def Ji (l:aH3):lV l < 256 ^l.length:=by
 have: ∀(l:aH3),lV l.reverse < 256 ^l.length:=fun l=>by
  induction l with
  |nil=>simp[lV]
  |cons c l bk=>
   rw[List.reverse_cons,Jh,aw7,Nat.pow_succ];have:=c.toNat_lt;omega
 have h:=this l.reverse;simpa using h
def Pw (n:Nat) (st:e1):(i5 n st).length<=n:=by
 unfold i5
 split
 .simp
 .rw[at9];omega
def fS (w:Nat) (st:e1):e1×Nat:=(kn w st,lV (i5 w st))
def x3 (w:Nat) (st:e1):e1×aH3:=(kn (fS w st).2 (fS w st).1,i5 (fS w st).2 (fS w st).1)
abbrev jl (st:e1):ay:=[(1001,.cells [.d (.b' .u8 st.1),.d (.int .i64 st.2)])]
def Px (b:aH3) (O:b.length<=4294967296):Fn prog 52 [bE .u8 b] [] [1001] (ap 1001) (jl (b,0)):=by
 refine aP [] func52 ?_;refine⟨rfl,?_,rfl,?_⟩
 .show 0+b.length<=4294967296;omega
 exact⟨rfl,_,_,_,ac.trans (ac.dH 5 rfl) (ac.aT 7 1001 rfl),rfl,rfl,aA,rfl⟩
def aqv (s:aH3) (e k:Int):Fn prog 175 [ab k,ap 1002] [(1001,.cells [.d (.b' .u8 s),.d (.int .i64 e)]),(1002,.cells [.ptr 1001 0])] [] (bE .u8 []) [(1001,.cells [.d (.b' .u8 s),.d (.int .i64 (if e=0 then k else e))]),(1002,.cells [.ptr 1001 0])]:=by
 refine aP [] func175 ?_;refine⟨fun h=>?_,fun h=>?_⟩
 .rw[vj (show e=0 from gd h)];exact bb
 .rw[mu (show¬e=0 from oj h)];exact bb
def YF (st:e1) (n:Nat):Fn prog 111 [ap 1001,ab (n:Nat),gb false] (jl st) [] (bE .u8 (i5 n st)) (jl (kn n st)):=by
 obtain⟨s,e⟩:=st;refine aP [] func111 ?_;refine⟨rfl,fun h=>?_,fun E=>?_⟩
 .have h:(!decide (e=0))=true:=h;have U: ¬e=0:=aE6
  have hx:i5 n (s,e)=[]:=by unfold i5;rw[vj (.inl U)]
  have aw:kn n (s,e)=(s,e):=by unfold kn;rw[vj U]
  rw[hx,aw];exact bb
 have E:(!decide (e=0))=false:=E;have U:e=0:=aG9
 subst U;refine dh ⟨fun h=>?_,fun h=>?_⟩
 .have h:(s.length:Int) < (n:Int):=gd h;have hx:i5 n (s,0)=[]:=by unfold i5;rw[vj (.inr (by show s.length < n;omega))]
  have aw:kn n (s,0)=(s,10):=by unfold kn;rw[mu aD9,vj (by show s.length < n;omega)]
  rw[hx,aw];exact av (Fn.aT [(1002,3)] (aqv s 0 10)) bb
 .have h: ¬(s.length:Int) < (n:Int):=oj h
  have hx:i5 n (s,0)=s.take n:=by
   unfold i5;rw[mu aF5]
  have aw:kn n (s,0)=(s.drop n,0):=by unfold kn;rw[mu aD9,mu (by show¬s.length < n;omega)]
  rw[hx,aw];have m1:0<=(n:Int)/\(n:Int)<=(s.length:Int):=aE5
  refine⟨m1,m1,rfl,_,_,_,bn,rfl,rfl,⟨at2 (fun l:aH3=>some (a8.cells [bA.d (D.b' bz.u8 l),bA.d (D.int IntKind.i64 0)])) ?_,trivial⟩,rfl⟩;show(List.take s.length s).drop ((n:Int)).toNat=s.drop n;rw[av0];rfl
def aqw (a:Nat) (c:UInt8):(a*256) ||| c.toNat=a*256+c.toNat:=by have h:c.toNat < 2 ^8:=c.toNat_lt;have:=Nat.shiftLeft_add_eq_or_of_lt h a;rw[Nat.shiftLeft_eq] at this;exact this.symm
def sx (st:e1) (w:Nat) (hw:hB w):Fn prog 54 [ap 1001,ab (w:Nat)] (jl st) [] (ab ((fS w st).2:Nat)) (jl (fS w st).1):=by
 have ln:w<=4:=by unfold hB at hw;omega
 have al:=Pw w st;have cq:=YF st w;show Fn _ _ _ _ _ (ab ((lV (i5 w st):Nat):Int)) (jl (kn w st));generalize i5 w st=x at*;generalize kn w st=Oh at*;have amk:lV x < 4294967296:=au8 (Ji x) (ay1 (aB0 aD8 (show x.length<=4 by omega)) aD8);refine aP [] func54 ?_;refine av (Pu w hw) <| av cq ⟨fun h=>at1 (show(x.length:Int)=8 from gd h) aD7,fun _=>dZ [] (X:=Nat) (fun i=>[(5,ab ((lV (x.take i):Nat):Int)),(27,bE .u8 x),(28,ab (x.length:Nat)),(29,ab (i:Nat))]) (fun _=>jl Oh) (fun i=>i<=x.length) (fun i=>x.length - i) 0 (at6 _) ?_ ?_⟩
 .exact ac.sub aA aA
 intro i hi;refine⟨fun h=>?_,fun h=>?_⟩
 .have dc:i < x.length:=by
   have h:(i:Int) < (x.length:Int):=gd h;omega
  have aw:lV (x.take (i+1))=lV (x.take i)*256+(x[i]).toNat:=by rw[<-Cq dc,Jh]
  have iq:=Ji (x.take i);have xt:256 ^(x.take i).length<=256 ^3:=aB0 aD8 aF0;have J:=(x[i]).toNat_lt;refine⟨aD7,x[i],aqn rfl dc,?_⟩;generalize x[i]=c at*;generalize lV (x.take i)=a at*;have Oi:=aqw a c
  have af:((a:Int)*((2 ^(8:Int).toNat:Nat):Int)).toNat=a*256:=by
   show((a:Int)*256).toNat=_;omega
  have m1:0<=(a:Int)/\(0:Int)<=8/\(8:Int)<=64:=aE5
  have m2: -9223372036854775808<=(a:Int)*((2 ^(8:Int).toNat:Nat):Int)/\(a:Int)*((2 ^(8:Int).toNat:Nat):Int)<=9223372036854775807:=by
   show -9223372036854775808<=(a:Int)*256/\(a:Int)*256<=9223372036854775807;omega
  have m3: -9223372036854775808<=(c.toNat:Int)/\(c.toNat:Int)<=9223372036854775807:=aE5
  have iu:0<=(a:Int)*((2 ^(8:Int).toNat:Nat):Int)/\(a:Int)*((2 ^(8:Int).toNat:Nat):Int)<=9223372036854775807/\0<=(c.toNat:Int)/\(c.toNat:Int)<=9223372036854775807:=by
   show 0<=(a:Int)*256/\(a:Int)*256<=9223372036854775807/\_;omega
  refine⟨m1,m2,m3,iu,aD7,i+1,dc,aD7,ac.sub ⟨?_,rfl,rfl,rfl,trivial⟩ aA⟩;show(((((a:Int)*((2 ^(8:Int).toNat:Nat):Int)).toNat ||| ((c.toNat:Int)).toNat:Nat)):Int)=((lV (x.take (i+1)):Nat):Int);rw[aw,af,az8,Oi]
 .have dc:i=x.length:=by
   have h: ¬(i:Int) < (x.length:Int):=oj h;omega
  subst dc;exact ea bn rfl (show((lV (x.take x.length):Nat):Int)=_ by rw[av0])
def aqx (st:e1) (w:Nat) (hw:hB w):Fn prog 55 [ap 1001,ab (w:Nat)] (jl st) [] (bN (x3 w st).2) (jl (x3 w st).1):=by have E:=sx st w hw;have G:=YF (fS w st).1 (fS w st).2;show Fn _ _ _ _ _ (bN (i5 (fS w st).2 (fS w st).1)) (jl (kn (fS w st).2 (fS w st).1));generalize(fS w st).2=n at*;generalize(fS w st).1=EL at*;generalize i5 n EL=x at*;generalize kn n EL=aml at*;refine aP [] func55 ?_;exact av E <| av (Fn.arg G aA) bb
def YG (st:e1):Fn prog 56 [ap 1001] (jl st) [] (ab st.2) (jl st):=by refine aP [] func56 ?_;exact bb
def tJ (st:e1):Int:=if st.2=0/\0 < st.1.length then 11 else st.2
def aqy (st:e1):Fn prog 106 [ap 1001] (jl st) [] (ab (tJ st)) (jl st):=by
 obtain⟨s,e⟩:=st;refine aP [] func106 ?_;refine⟨fun h=>?_,fun h=>?_⟩
 .have U:e=0:=gd h;refine⟨fun h=>?_,fun h=>?_⟩
  .have h:(0:Int) < (s.length:Int):=gd h;have:tJ (s,e)=11:=by unfold tJ;rw[vj ⟨U,by show 0 < s.length;omega⟩]
   rw[this];exact bb
  .have h: ¬(0:Int) < (s.length:Int):=oj h;have:tJ (s,e)=e:=by unfold tJ;rw[mu (fun bd=>by have G:0 < s.length:=bd.2;omega)]
   rw[this];exact bb
 .have U: ¬e=0:=oj h;have:tJ (s,e)=e:=by unfold tJ;rw[mu (fun bd=>U bd.1)]
  rw[this];exact bb
def Py (n:Nat): ∀k,dy n (k+1)=dy (n/256) k++[rb n 0]
 |0=>rfl
 |k+1=>by
  show rb n (k+1)::dy n (k+1)=rb (n/256) k::dy (n/256) k++[rb n 0];rw[Py n k,List.cons_append]
  congr 1
  unfold rb;rw[Nat.div_div_eq_div_mul,Nat.pow_succ,aB7 256]
def aqz (a:Nat) (c:UInt8):rb (a*256+c.toNat) 0=c:=by have:=c.toNat_lt;unfold rb;rw[Nat.pow_zero,Nat.div_one,show(a*256+c.toNat) % 256=c.toNat by omega];simp
def aqA (l:aH3):dy (lV l) l.length=l:=by
 have: ∀(l:aH3),dy (lV l.reverse) l.length=l.reverse:=fun l=>by
  induction l with
  |nil=>rfl
  |cons c l bk=>
   have J:=c.toNat_lt;rw[List.reverse_cons,Jh,aw7,Py,aqz,show(lV l.reverse*256+c.toNat)/256=lV l.reverse by omega,bk]
 have h:=this l.reverse;simpa using h
def aqB (n:Nat): ∀k,n < 256 ^k->lV (dy n k)=n:=by
 intro k
 induction k generalizing n with
 |zero=>intro h;simp at h;subst h;rfl
 |succ k bk=>
  intro h;rw[Py,Jh,bk (n/256) (by rw[Nat.pow_succ] at h;omega)];unfold rb;rw[Nat.pow_zero,Nat.div_one,UInt8.toNat_ofNat'];omega
def YH {n:Nat} {st:e1} (h:(kn n st).2=0):st.2=0/\st.1=i5 n st++(kn n st).1/\(i5 n st).length=n:=by
 by_cases E:st.2=0
 .by_cases G:st.1.length < n
  .unfold kn at h;rw[mu (by simp[E]),vj G] at h;simp at h
  .have hx:i5 n st=st.1.take n:=by unfold i5;exact mu (by simp only[E,ne_eq,not_true_eq_false,false_or];exact G)
   have aw:kn n st=(st.1.drop n,0):=by unfold kn;rw[mu (by simp[E]),mu G]
   rw[hx,aw];exact⟨E,(List.take_append_drop n st.1).symm,by rw[at9];omega⟩
 .unfold kn at h;rw[vj E] at h;exact at1 h E
def Cr {w:Nat} {st:e1} (h:(fS w st).1.2=0):st.2=0/\st.1=dy (fS w st).2 w++(fS w st).1.1:=by obtain⟨E,G,ah⟩:=YH h;refine⟨E,?_⟩;have:=aqA (i5 w st);rw[ah] at this;show st.1=dy (lV (i5 w st)) w++(kn w st).1;rw[this];exact G
def aqC {w:Nat} {st:e1} (h:(x3 w st).1.2=0):st.2=0/\st.1=sw (x3 w st).2 w++(x3 w st).1.1:=by obtain⟨E,G,ah⟩:=YH h;obtain⟨aS,bB⟩:=Cr E;refine⟨aS,?_⟩;show st.1=(dy (i5 (fS w st).2 (fS w st).1).length w++i5 (fS w st).2 (fS w st).1)++(kn (fS w st).2 (fS w st).1).1;rw[ah,aw8,<-G];exact bB
def YI (x t:aH3):kn x.length (x++t,0)=(t,0)/\i5 x.length (x++t,0)=x:=by unfold kn i5;rw[mu aD9,mu aD9,mu aD9];exact⟨aD9,aD9⟩
def sy {n w:Nat} (h:n < 256 ^w) (t:aH3):fS w (dy n w++t,0)=((t,0),n):=by have:=YI (dy n w) t;rw[mO] at this;unfold fS;rw[this.1,this.2,aqB n w h]
def aqD {w:Nat} {x:aH3} (h:x.length < 256 ^w) (t:aH3):x3 w (sw x w++t,0)=((t,0),x):=by
 have E:fS w (sw x w++t,0)=((x++t,0),x.length):=by
  unfold sw;rw[aw8];exact sy h _
 have:=YI x t;unfold x3;rw[E];simp only;rw[this.1,this.2]
abbrev gr:=Int×Int×Int×Int×Int
abbrev i6 (r:gr):Int:=r.1
abbrev nr (r:gr):Int:=r.2.1
abbrev uU (r:gr):Int:=r.2.2.1
abbrev mi (r:gr):Int:=r.2.2.2.1
abbrev kJ (r:gr):Int:=r.2.2.2.2
def fA (w:Nat) (n:Int):Bool:=decide (0<=n)&&decide (n < ((256 ^w:Nat):Int))
def sz {w:Nat} {n:Int}:fA w n=true↔0<=n/\n.toNat < 256 ^w:=by unfold fA;rw[as8,decide_eq_true_iff,decide_eq_true_iff];generalize 256 ^w=p;omega
def Fc:Nat:=1886286962
def tK:Nat:=1886286945
def wy (k:Int):Bool:=decide (1<=k)&&decide (k<=4)
def tL (r:gr):Bool:=fA 1 (i6 r)&&(fA 1 (nr r)&&(fA 2 (uU r)&&(fA 4 (mi r)&&fA 4 (kJ r))))
def lW (r:gr):aH3:=dy Fc 4++(dy (i6 r).toNat 1++(dy (nr r).toNat 1++(dy (uU r).toNat 2++(dy (mi r).toNat 4++dy (kJ r).toNat 4))))
def cr (s:aH3):=fS 4 (s,0)
def cv (s:aH3):=fS 1 (cr s).1
def dm (s:aH3):=fS 1 (cv s).1
def eu (s:aH3):=fS 2 (dm s).1
def ou (s:aH3):=fS 4 (eu s).1
def mw (s:aH3):=fS 4 (ou s).1
def lX (s:aH3):gr:=(((cv s).2:Int),((dm s).2:Int),((eu s).2:Int),((ou s).2:Int),((mw s).2:Int))
def re (s:aH3):Bool:=decide (tJ (mw s).1=0)&&(decide ((cr s).2=Fc)&&wy ((cv s).2:Int))
def aqE {r:gr} (hf:tL r=true) (Z:wy (i6 r)=true):re (lW r)=true/\lX (lW r)=r:=by
 unfold tL at hf;simp only[as8,sz] at hf;obtain⟨⟨bM,bU⟩,⟨b1,b2⟩,⟨cu,cp⟩,⟨g9,ip⟩,⟨af,ao⟩⟩:=hf;have g1:cr (lW r)=_:=sy (n:=Fc) (w:=4) aD8 _;have g2:cv (lW r)=_:=(at2 (fun x:e1×Nat=>fS 1 x.1) g1).trans (sy bU _);have cL:dm (lW r)=_:=(at2 (fun x:e1×Nat=>fS 1 x.1) g2).trans (sy b2 _);have g8:eu (lW r)=_:=(at2 (fun x:e1×Nat=>fS 2 x.1) cL).trans (sy cp _);have pJ:ou (lW r)=_:=(at2 (fun x:e1×Nat=>fS 4 x.1) g8).trans (sy ip _)
 have YJ:mw (lW r)=(([],0),(kJ r).toNat):=by
  unfold mw;rw[pJ];have:=sy ao []
  rwa[av2] at this
 refine⟨?_,?_⟩
 .unfold re;rw[YJ,g1,g2];rw[show(((i6 r).toNat:Nat):Int)=i6 r by omega,Z];rfl
 .unfold lX;rw[g2,cL,g8,pJ,YJ];obtain⟨k,c,h,a,l⟩:=r;simp only[az0];exact⟨Int.toNat_of_nonneg bM,Int.toNat_of_nonneg b1,Int.toNat_of_nonneg cu,Int.toNat_of_nonneg g9,Int.toNat_of_nonneg af⟩
abbrev Cs:=Int×Int×aH3
abbrev x4:bz:=.bV (.int .i64) (.bV (.int .i64) (.ci .u8))
def mP (e h:Int) (b:aH3):aH3:=dy tK 4++(dy e.toNat 2++(dy h.toNat 2++sw b 4))
def uV (e h:Int) (b:aH3):Bool:=fA 2 e&&(fA 2 h&&fA 4 ((b.length:Nat):Int))
def q7 (st:e1):=fS 4 st
def uW (st:e1):=fS 2 (q7 st).1
def t3 (st:e1):=fS 2 (uW st).1
def t4 (st:e1):=x3 4 (t3 st).1
def Fd (st:e1):Cs:=(((uW st).2:Int),((t3 st).2:Int),(t4 st).2)
def wz (st:e1):Bool:=decide ((t4 st).1.2=0)&&decide ((q7 st).2=tK)
def pA:Nat->e1->Option (List Cs)
 |0,_=>some []
 |n+1,st=>if st.1=[] then some [] else if wz st=true then(pA n (t4 st).1).map (Fd st:: ·) else none
def aqF {e h:Int} {b:aH3} (hf:uV e h b=true) (t:aH3):wz (mP e h b++t,0)=true/\Fd (mP e h b++t,0)=(e,h,b)/\(t4 (mP e h b++t,0)).1=(t,0):=by
 unfold uV at hf;simp only[as8,sz] at hf;obtain⟨⟨bM,bU⟩,⟨b1,b2⟩,⟨cu,cp⟩⟩:=hf
 have bC:mP e h b++t=dy tK 4++(dy e.toNat 2++(dy h.toNat 2++(sw b 4++t))):=by
  unfold mP;simp only[aw8]
 rw[bC];have g1:q7 (dy tK 4++(dy e.toNat 2++(dy h.toNat 2++(sw b 4++t))),0)=_:=sy (n:=tK) (w:=4) aD8 _;have g2:uW (dy tK 4++(dy e.toNat 2++(dy h.toNat 2++(sw b 4++t))),0)=_:=(at2 (fun x:e1×Nat=>fS 2 x.1) g1).trans (sy bU _);have cL:t3 (dy tK 4++(dy e.toNat 2++(dy h.toNat 2++(sw b 4++t))),0)=_:=(at2 (fun x:e1×Nat=>fS 2 x.1) g2).trans (sy b2 _)
 have g8:t4 (dy tK 4++(dy e.toNat 2++(dy h.toNat 2++(sw b 4++t))),0)=((t,0),b):=by
  unfold t4;rw[cL];exact aqD (by simpa using cp) t
 refine⟨?_,?_,?_⟩
 .unfold wz;rw[g8,g1];rfl
 .unfold Fd;rw[g2,cL,g8];simp only[az0];exact⟨Int.toNat_of_nonneg bM,Int.toNat_of_nonneg b1,trivial⟩
 .rw[g8]
end
section
def aqG {w:Nat} (hw:hB w):(2 ^(8*((w:Nat):Int)).toNat:Nat)=256 ^w/\256 ^w<=4294967296:=by rcases hw with rfl |rfl |rfl <;>decide
def aqH (n:Int) (w:Nat) (hw:hB w):Fn prog 171 [ab n,ab (w:Nat)] [] [] (gb (fA w n)) []:=by
 have ag:=aqG hw;have ln:w<=4:=by unfold hB at hw;omega
 unfold fA;generalize 256 ^w=p at*;refine aP [] func171 ?_;refine⟨fun h=>?_,fun E=>?_⟩
 .have h:((w:Nat):Int)=8:=gd h;omega
 refine⟨fun h=>?_,fun h=>?_⟩
 .have h:decide ((0:Int)<=n)=true:=h;refine⟨aD7,⟨aD7,aD7,aD7⟩,?_,?_⟩
  .rw[ag.1];omega
  refine⟨_,_,_,bn,rfl,?_,trivial,rfl⟩;show decide (n < 1*((2 ^(8*((w:Nat):Int)).toNat:Nat):Int))=(decide (0<=n)&&decide (n < ((p:Nat):Int)));rw[ag.1,h,Int.one_mul];rfl
 .have h:decide ((0:Int)<=n)=false:=h;refine⟨_,_,_,bn,rfl,(show false=(decide (0<=n)&&decide (n < ((p:Nat):Int))) by rw[h];rfl),trivial,rfl⟩
def aqI (xs:aH3) (w:Nat) (n:Int) (hw:hB w) (hn:fA w n=false):Fn prog 104 [dY 1001,ab (w:Nat),bE uT [n]] (k9 1001 xs) [] (.b4 [.one (.own 1001),.one (.d (.bool false))]) (k9 1001 xs):=by
 have hf:=aqH n w hw;rw[hn] at hf;refine aP [] func104 ?_;refine av (Pu w hw) <| dh <| dZ [] (X:=Unit) (fun _=>[(0,dY 1001),(1,ab (w:Nat)),(17,bE uT [n]),(18,ab 1),(19,ab 0)]) (fun _=>k9 1001 xs) (fun _=>True) (fun _=>0) () trivial ?_ ?_
 .exact ac.sub aA aA
 rintro⟨⟩ -;exact fR ⟨aD8,n,rfl,av hf <| fR bb⟩
abbrev zV:bz:=.bV (.int .i64) (.int .i64)
abbrev sA:=Nat×Int
abbrev Fe (f:sA):aa zV:=@Prod.mk Int Int (f.1:Int) f.2
abbrev wA (l:List sA):List (aa zV):=l.map Fe
def qn (l:List sA):Bool:=l.all fun f=>fA f.1 f.2
def lY (l:List sA):aH3:=l.flatMap fun f=>dy f.2.toNat f.1
def YK {l:List sA} {k:Nat} (h:k < l.length):lY (l.take (k+1))=lY (l.take k)++dy (l[k]).2.toNat (l[k]).1:=by unfold lY;rw[<-Cq h,List.flatMap_append];simp
def Pz {l:List sA} (hw: ∀f,f∈l->hB f.1):(lY l).length<=4*l.length:=by
 induction l with
 |nil=>exact at6 _
 |cons f l bk=>
  have:=bk fun x hx=>hw x (at4 _ hx)
  have hf:=hw f (au7 ..);unfold hB at hf;show(dy f.2.toNat f.1++lY l).length<=4*(l.length+1);rw[as9,mO];omega
abbrev YL (l:List sA) (k:Nat):aW:=[(4,dY 5001),(9,bE zV (wA l)),(10,ab (l.length:Nat)),(11,ab (k:Nat))]
def PA (l:List sA) (hw: ∀f,f∈l->hB f.1) (al:l.length<=1000) (hf:qn l=true):Fn prog 47 [bE zV (wA l)] [] [1001] (.b4 [.one (.own 1001),.one (.d (.bool true))]) (k9 1001 (lY l)):=by
 have ll:List.length (wA l)=l.length:=au3 _;refine aP [5] func47 ?_;refine dZ [5] (X:=Nat) (fun k=>YL l k) (fun k=>k9 5001 (lY (l.take k))) (fun k=>k<=l.length) (fun k=>l.length - k) 0 (at6 _) ?_ ?_
 .exact ac.trans (ac.nil 4 5001 5 .u8 rfl rfl) (ac.sub ⟨rfl,rfl,at2 Int.ofNat ll,rfl,trivial⟩ aA)
 intro k Z;have Z:k<=l.length:=Z;refine⟨fun h=>?_,fun h=>?_⟩
 .have cd:k < l.length:=by
   have h:decide ((k:Int) < ((l.length:Nat):Int))=true:=h;have:=gd h;omega
  have kp:eR (wA l) k=some (Fe l[k]):=by
   show(l.map Fe)[k]? =_;rw[av1,as7 cd];rfl
  have ed:=YK cd;have lj:=av5 cd;have Jj:=hw _ lj;have qX:=sz.1 (av4.1 hf _ lj);have O:=Pz (l:=l.take k) fun f hf=>hw f (List.mem_of_mem_take hf)
  have iq:(l.take k).length<=1000:=aF0
  generalize l[k]=f at*;obtain⟨w,n⟩:=f;have ag:=YE (lY (l.take k)) w [n.toNat] Jj (fun m aC=>by simp only[au5] at aC;subst aC;exact qX.2) aD9 aD7
  have af:(tI [n.toNat]:aI7)=[n]:=by
   show[((n.toNat:Nat):Int)]=[n];rw[Int.toNat_of_nonneg qX.1]
  have ao:rc w [n.toNat]=dy n.toNat w:=by unfold rc;simp
  have af:(tI [n.toNat]:List (aa uT))=([n]:aI7):=af;rw[af,ao] at ag;exact⟨aD7,_,kp,rfl,bw [] (bn) <| av (Fn.aT [(1001,5001),(1002,5002)] ag) <| dh ⟨aD7,k+1,cd,aD7,ac.trans (ac.sub (K':=[(4,dY 5002),(9,bE zV (wA l)),(10,ab (l.length:Nat)),(11,ab ((k+1:Nat):Int))]) (B':=k9 5002 (lY (l.take (k+1)))) aA ⟨at2 (fun aH=>some (a8.row 5 .u8 aH)) ed.symm,trivial⟩) (ac.trans (ac.aT 5002 5001 rfl) (ac.sub aA aA))⟩⟩
 .have cd:k=l.length:=by
   have h:decide ((k:Int) < ((l.length:Nat):Int))=false:=h;have:=oj h;omega
  subst cd;exact⟨_,_,_,ac.aT 5001 1001 rfl,rfl,aA,⟨at2 (fun aH=>some (a8.row 5 .u8 (lY aH))) (av0 ..),trivial⟩,rfl⟩
def aqJ (l:List sA) (hw: ∀f,f∈l->hB f.1) (al:l.length<=1000) (hf:qn l=false):Fn prog 47 [bE zV (wA l)] [] [] (.b4 [.one .dC,.one (.d (.bool false))]) []:=by
 have ll:List.length (wA l)=l.length:=au3 _;refine aP [5] func47 ?_;refine dZ [5] (X:=Nat) (fun k=>YL l k) (fun k=>k9 5001 (lY (l.take k))) (fun k=>k<=l.length/\qn (l.take k)=true) (fun k=>l.length - k) 0 ⟨at6 _,rfl⟩ ?_ ?_
 .exact ac.trans (ac.nil 4 5001 5 .u8 rfl rfl) (ac.sub ⟨rfl,rfl,at2 Int.ofNat ll,rfl,trivial⟩ aA)
 rintro k ⟨Z,Ct⟩;have Z:k<=l.length:=Z;have Ct:qn (l.take k)=true:=Ct;refine⟨fun h=>?_,fun h=>?_⟩
 .have cd:k < l.length:=by
   have h:decide ((k:Int) < ((l.length:Nat):Int))=true:=h;have:=gd h;omega
  have kp:eR (wA l) k=some (Fe l[k]):=by
   show(l.map Fe)[k]? =_;rw[av1,as7 cd];rfl
  have ed:=YK cd
  have aqK:fA (l[k]).1 (l[k]).2=true->qn (l.take (k+1))=true:=by
   intro hx;unfold qn at Ct⊢;rw[<-Cq cd,List.all_append,Ct];show(true&&(fA (l[k]).1 (l[k]).2&&true))=true;rw[hx];rfl
  have lj:=av5 cd;have Jj:=hw _ lj;have O:=Pz (l:=l.take k) fun f hf=>hw f (List.mem_of_mem_take hf)
  have iq:(l.take k).length<=1000:=aF0
  generalize l[k]=f at*;obtain⟨w,n⟩:=f;refine⟨aD7,_,kp,rfl,?_⟩;show bG _ _ _ _ _ _ _;refine(Bool.eq_false_or_eq_true (fA w n)).elim (fun jL=>?_) (fun jL=>?_)
  .have qX:=sz.1 jL;have ag:=YE (lY (l.take k)) w [n.toNat] Jj (fun m aC=>by simp only[au5] at aC;subst aC;exact qX.2) aD9 aD7
   have af:(tI [n.toNat]:aI7)=[n]:=by
    show[((n.toNat:Nat):Int)]=[n];rw[Int.toNat_of_nonneg qX.1]
   have ao:rc w [n.toNat]=dy n.toNat w:=by unfold rc;simp
   have af:(tI [n.toNat]:List (aa uT))=([n]:aI7):=af;rw[af,ao] at ag;exact bw [] (bn) <| av (Fn.aT [(1001,5001),(1002,5002)] ag) <| dh ⟨aD7,k+1,⟨cd,aqK jL⟩,aD7,ac.trans (ac.sub (K':=[(4,dY 5002),(9,bE zV (wA l)),(10,ab (l.length:Nat)),(11,ab ((k+1:Nat):Int))]) (B':=k9 5002 (lY (l.take (k+1)))) aA ⟨at2 (fun aH=>some (a8.row 5 .u8 aH)) ed.symm,trivial⟩) (ac.trans (ac.aT 5002 5001 rfl) (ac.sub aA aA))⟩
  .have ag:=aqI (lY (l.take k)) w n Jj jL;exact bw [] (bn) <| av (Fn.aT [(1001,5001)] ag) <| fR bb
 .have cd:k=l.length:=by
   have h:decide ((k:Int) < ((l.length:Nat):Int))=false:=h;have:=oj h;omega
  subst cd;rw[av0,hf] at Ct
  cases Ct
def YM (b:aH3):Fn prog 48 [dY 1001,gb true] (k9 1001 b) [] (.b4 [.one (.own 1001),.one (.d (.int .i64 0))]) (k9 1001 b):=by refine aP [] func48 ?_;exact dh bb
abbrev PB (r:gr):List bA:=[.d (.int .i64 (i6 r)),.d (.int .i64 (nr r)),.d (.int .i64 (uU r)),.d (.int .i64 (mi r)),.d (.int .i64 (kJ r))]
abbrev sB (r:gr):aN:=.c (.agg (PB r))
abbrev aqL:gr:=(0,0,0,0,0)
abbrev YN (b:Bool) (r:gr):gr:=bif b then r else aqL
abbrev YO (b:Bool):Int:=bif b then 0 else 200
def PC (r:gr) (b:Bool):Fn prog 105 [sB r,gb b] [] [] (.b4 [.agg (PB (YN b r)),.one (.d (.int .i64 (YO b)))]) []:=by
 refine aP [] func105 ?_;refine⟨rfl,rfl,fun h=>?_,fun h=>?_⟩
 .have h:(!b)=true:=h;have O:b=false:=aE6
  subst O;exact⟨rfl,ea bn rfl ⟨aA,rfl,trivial⟩⟩
 .have h:(!b)=false:=h;have O:b=true:=aE6
  subst O;exact ea bn rfl ⟨aA,rfl,trivial⟩
def YP (k:Int):Fn prog 49 [ab k] [] [] (gb (wy k)) []:=by
 refine aP [] func49 ?_;refine⟨fun h=>?_,fun h=>?_⟩
 .have h:decide ((1:Int)<=k)=true:=h;refine⟨_,_,_,bn,rfl,?_,trivial,rfl⟩;show _=(decide (1<=k)&&decide (k<=4));rw[h];rfl
 .have h:decide ((1:Int)<=k)=false:=h;refine⟨_,_,_,bn,rfl,?_,trivial,rfl⟩;show _=(decide (1<=k)&&decide (k<=4));rw[h];rfl
abbrev Ff (r:gr):List sA:=[(4,1886286962),(1,i6 r),(1,nr r),(2,uU r),(4,mi r),(4,kJ r)]
def aqM (r:gr): ∀f,f∈Ff r->hB f.1:=by intro f hf;simp only[Ff,at7,List.not_mem_nil,or_false] at hf;unfold hB;rcases hf with rfl |rfl |rfl |rfl |rfl |rfl <;>simp
def aqN (r:gr):qn (Ff r)=tL r:=by show(fA 4 1886286962&&(fA 1 (i6 r)&&(fA 1 (nr r)&&(fA 2 (uU r)&&(fA 4 (mi r)&&(fA 4 (kJ r)&&true))))))=_;rw[show fA 4 1886286962=true from rfl,Bool.and_true,aB6];rfl
def aqO (r:gr):lY (Ff r)=lW r:=by show dy Fc 4++(dy (i6 r).toNat 1++(dy (nr r).toNat 1++(dy (uU r).toNat 2++(dy (mi r).toNat 4++(dy (kJ r).toNat 4++[])))))=_;rw[av2];rfl
def aqP (r:gr) (hf:tL r=true) (Z:wy (i6 r)=true):Fn prog 16 [sB r] [] [1001] (.b4 [.one (.own 1001),.one (.d (.int .i64 0))]) (k9 1001 (lW r)):=by have ag:=PA (Ff r) (aqM r) aD9 ((aqN r).trans hf);rw[aqO] at ag;have aj:=YP (i6 r);rw[Z] at aj;refine aP [] func16 ?_;exact⟨rfl,av ag <| fR <| av aj <| av (YM (lW r)) bb⟩
def aqQ (w:Nat) (st:e1):(fS w st).2 < 256 ^w:=
 au8 (Ji (i5 w st)) (aB0 aD8 (Pw w st))
def Fg (w:Nat) (st:e1):fA w (((fS w st).2:Nat):Int)=true:=
 sz.2 ⟨aD7,by rw[az8];exact aqQ w st⟩
def aqR (s:aH3):tL (lX s)=true:=by unfold tL;have bM:fA 1 (i6 (lX s))=true:=Fg 1 _;have bU:fA 1 (nr (lX s))=true:=Fg 1 _;have a3:fA 2 (uU (lX s))=true:=Fg 2 _;have a4:fA 4 (mi (lX s))=true:=Fg 4 _;have a5:fA 4 (kJ (lX s))=true:=Fg 4 _;rw[bM,bU,a3,a4,a5];rfl
def aqS (s:aH3) (aw:s.length<=4294967296):Fn prog 50 [bE .u8 s] [] [] (.b4 [.agg (PB (YN (re s) (lX s))),.one (.d (.int .i64 (YO (re s))))]) []:=by
 have E:=sx (s,0) 4 (by unfold hB;simp);have G:=sx (cr s).1 1 (by unfold hB;simp);have ah:=sx (cv s).1 1 (by unfold hB;simp);have aS:=sx (dm s).1 2 (by unfold hB;simp);have bB:=sx (eu s).1 4 (by unfold hB;simp);have ej:=sx (ou s).1 4 (by unfold hB;simp);have U:=aqy (mw s).1;have aj:=YP ((cv s).2:Int)
 have bu:re s=(decide (tJ (mw s).1=0)&&(decide (((cr s).2:Int)=1886286962)&&wy ((cv s).2:Int))):=by
  unfold re
  congr 2
  exact decide_eq_decide.2 (by unfold Fc;omega)
 have h0:lX s=(((cv s).2:Int),((dm s).2:Int),((eu s).2:Int),((ou s).2:Int),((mw s).2:Int)):=rfl;rw[bu,h0];change Fn _ _ _ _ _ (ab ((cr s).2:Nat)) (jl (cr s).1) at E;change Fn _ _ _ _ _ (ab ((cv s).2:Nat)) (jl (cv s).1) at G;change Fn _ _ _ _ _ (ab ((dm s).2:Nat)) (jl (dm s).1) at ah;change Fn _ _ _ _ _ (ab ((eu s).2:Nat)) (jl (eu s).1) at aS;change Fn _ _ _ _ _ (ab ((ou s).2:Nat)) (jl (ou s).1) at bB;change Fn _ _ _ _ _ (ab ((mw s).2:Nat)) (jl (mw s).1) at ej;clear bu h0;generalize cr s=bM at*;generalize cv s=bU at*;generalize dm s=a3 at*;generalize eu s=a4 at*;generalize ou s=a5 at*;generalize mw s=fj at*;obtain⟨kr,cC⟩:=bM;obtain⟨bD,dg⟩:=bU;obtain⟨sI,jd⟩:=a3;obtain⟨o2,pj⟩:=a4;obtain⟨as0,n5⟩:=a5;obtain⟨YQ,n6⟩:=fj;simp only at E G ah aS bB ej U aj⊢;refine aP [] func50 ?_;refine⟨rfl,av (Px s aw) <| av E <| av G <| av ah <| av aS <| av bB <| av ej ⟨rfl,av U ⟨fun h=>?_,fun h=>?_⟩⟩⟩
 .have h:decide (tJ YQ=0)=true:=h;rw[h];refine⟨fun g=>?_,fun g=>?_⟩
  .have g:decide ((cC:Int)=1886286962)=true:=g;rw[g];exact av aj <| av (PC (dg,jd,pj,n5,n6) (wy (dg:Int))) ⟨eG aE0,ea bn rfl ⟨aA,rfl,trivial⟩⟩
  .have g:decide ((cC:Int)=1886286962)=false:=g;rw[g];exact av (Fn.arg (PC (dg,jd,pj,n5,n6) false) ⟨aA,rfl,trivial⟩) ⟨eG aE0,ea bn rfl ⟨aA,rfl,trivial⟩⟩
 .have h:decide (tJ YQ=0)=false:=h;rw[h];exact av (Fn.arg (PC (dg,jd,pj,n5,n6) false) ⟨aA,rfl,trivial⟩) ⟨eG aE0,ea bn rfl ⟨aA,rfl,trivial⟩⟩
abbrev aqT (e h:Int) (b:aH3):List bA:=[.d (.int .i64 e),.d (.int .i64 h),.d (.b' .u8 b)]
abbrev aqU (e h:Int) (b:aH3):aN:=.c (.agg (aqT e h b))
abbrev zW (e h:Int) (n:Nat):List sA:=[(4,1886286945),(2,e),(2,h),(4,(n:Int))]
def YR (e h:Int) (n:Nat): ∀f,f∈zW e h n->hB f.1:=by intro f hf;simp only[zW,at7,List.not_mem_nil,or_false] at hf;unfold hB;rcases hf with rfl |rfl |rfl |rfl <;>simp
def aqV (e h:Int) (b:aH3):qn (zW e h b.length)=uV e h b:=by show(fA 4 1886286945&&(fA 2 e&&(fA 2 h&&(fA 4 ((b.length:Nat):Int)&&true))))=_;rw[show fA 4 1886286945=true from rfl,Bool.and_true,aB6];rfl
def aqW (e h:Int) (b:aH3):lY (zW e h b.length)++b=mP e h b:=by show(dy tK 4++(dy e.toNat 2++(dy h.toNat 2++(dy b.length 4++[]))))++b=dy tK 4++(dy e.toNat 2++(dy h.toNat 2++(dy b.length 4++b)));simp only[aw8,av2]
def aqX (e h:Int) (b:aH3) (O:b.length<=1000000000) (hf:uV e h b=true):Fn prog 110 [aqU e h b] [] [1001] (.b4 [.one (.own 1001),.one (.d (.int .i64 0))]) (k9 1001 (mP e h b)):=by
 have ag:=PA (zW e h b.length) (YR e h b.length) aD9 ((aqV e h b).trans hf);have de:=aqW e h b;have al:=Pz (YR e h b.length);have al:(lY (zW e h b.length)).length<=16:=al;generalize lY (zW e h b.length)=x at*;have l4:x.length+b.length<=4294967296:=aE5
 rw[<-de];refine aP [] func110 ?_;exact⟨rfl,av (Fn.aT [(1001,5001)] ag) ⟨l4,rfl,av (Fn.aT [(1001,25)] (YM (x++b))) ⟨_,_,_,ac.aT 25 1001 rfl,rfl,aA,aA,rfl⟩⟩⟩
def YS (st:e1):Fn prog 53 [ap 1001] (jl st) [] (ab (st.1.length:Nat)) (jl st):=by obtain⟨s,e⟩:=st;refine aP [] func53 ?_;exact bb
def PD {st:e1} (h:wz st=true):(t4 st).1.1.length < st.1.length:=by unfold wz at h;simp only[as8,decide_eq_true_iff] at h;obtain⟨bM,bU⟩:=aqC (w:=4) (st:=(t3 st).1) h.1;obtain⟨b1,b2⟩:=Cr (w:=2) (st:=(uW st).1) bM;obtain⟨cu,cp⟩:=Cr (w:=2) (st:=(q7 st).1) b1;obtain⟨g9,ip⟩:=Cr (w:=4) (st:=st) cu;have a3:=at2 List.length bU;have b3:=at2 List.length b2;have fD:=at2 List.length cp;have og:=at2 List.length ip;rw[as9,Pv] at a3;rw[as9,mO] at b3 fD og;change _=2+(t3 st).1.1.length at b3;change _=2+(uW st).1.1.length at fD;change _=4+(q7 st).1.1.length at og;change _=4+_+(t4 st).1.1.length at a3;omega
def aqY (n:Nat) (st:e1):(i5 n st).length<=st.1.length:=by
 unfold i5
 split
 .exact at6 _
 .rw[at9];omega
def Jk (n:Nat) (st:e1):(kn n st).1.length<=st.1.length:=by
 unfold kn
 split
 .exact at0 _
 .split
  .exact at0 _
  .rw[ax8];omega
def aqZ (st:e1):(t4 st).2.length<=st.1.length:=
 ay1 (aqY _ _) (ay1 (Jk _ _) (ay1 (Jk _ _) (ay1 (Jk _ _) (Jk _ _))))
def aq0 {n:Nat} {st:e1} {acc l:List Cs} (hn:st.1.length < n) (ag:0 < st.1.length) (h:(pA n st).map (acc++ ·)=some l):
  wz st=true/\ ∃m,n=m+1/\(t4 st).1.1.length < m/\(pA m (t4 st).1).map ((acc++[Fd st])++ ·)=some l:=by
 obtain⟨m,rfl⟩: ∃m,n=m+1:=⟨n - 1,aD7⟩;have a6: ¬st.1=[]:=fun e=>by rw[e] at ag;exact at1 ag aD8
 unfold pA at h;rw[mu a6] at h
 by_cases Z:wz st=true
 .rw[vj Z,Option.map_map] at h;have:=PD Z;refine⟨Z,m,rfl,aD7,?_⟩;rw[<-h]
  congr 1
  funext x
  simp
 .rw[mu Z] at h
  cases h
def aq1 {n:Nat} {st:e1} {acc l:List Cs} (ag:st.1.length=0) (h:(pA n st).map (acc++ ·)=some l):acc=l:=by
 have a6:st.1=[]:=aw5 ag
 have e:pA n st=some []:=by
  cases n with
  |zero=>rfl
  |succ n=>unfold pA;rw[vj a6]
 rw[e] at h;simpa using h
def aq2 {n:Nat} {e h:Int} {b t:aH3} (hf:uV e h b=true):pA (n+1) (mP e h b++t,0)=(pA n (t,0)).map ((e,h,b):: ·):=by
 obtain⟨E,G,ah⟩:=aqF hf t;have al:=PD E
 have a6: ¬(mP e h b++t)=[]:=fun e=>by
  rw[e] at al;exact at1 al (aC7 _)
 conv=>lhs;unfold pA
 rw[mu a6,vj E,G,ah]
def aq3 (n:Nat):pA n ([],0)=some []:=by cases n <;>rfl
abbrev aq4 (acc:List (aa x4)) (st:e1):ay:=[(5001,.row 61 x4 acc),(5002,.cells [.d (.b' .u8 st.1),.d (.int .i64 st.2)])]
abbrev aq5 (acc:List (aa x4)) (st:e1):ay:=[(33,.row 61 x4 acc),(5002,.cells [.d (.b' .u8 st.1),.d (.int .i64 st.2)])]
def aq6 (s:aH3) (l:List Cs) (aw:s.length<=100000) (aj:pA (s.length+1) (s,0)=some l):Fn prog 20 [bE .u8 s] [] [1001] (.b4 [.one (.own 1001),.one (.d (.int .i64 0))]) [(1001,.row 61 x4 l)]:=by
 refine aP [] func20 ?_;refine av (Fn.aT [(1001,5002)] (Px s aD7)) ?_;refine dZ [] (X:=List Cs×e1×Nat) (fun _=>[(4,dY 5001),(5,ap 5002)]) (fun x=>aq4 x.1 x.2.1) (fun x=>x.2.1.1.length < x.2.2/\x.1.length+x.2.1.1.length<=s.length/\(pA x.2.2 x.2.1).map (x.1++ ·)=some l) (fun x=>x.2.2) ([],(s,0),s.length+1) ⟨Nat.lt_succ_self _,(by show 0+s.length<=s.length;omega),by rw[aj];simp⟩ ?_ ?_
 .exact ac.trans (ac.nil 4 5001 61 x4 rfl rfl) (ac.sub aA aA)
 rintro⟨acc,st,n⟩ ⟨hn,bW,mQ⟩;have hn:st.1.length < n:=hn;have bW:acc.length+st.1.length<=s.length:=bW;have mz:=YS st;have g1:=sx st 4 (by unfold hB;simp);have g2:=sx (q7 st).1 2 (by unfold hB;simp);have cL:=sx (uW st).1 2 (by unfold hB;simp);have g8:=aqx (t3 st).1 4 (by unfold hB;simp);have pJ:=YG (t4 st).1;change Fn _ _ _ _ _ (ab ((q7 st).2:Nat)) (jl (q7 st).1) at g1;change Fn _ _ _ _ _ (ab ((uW st).2:Nat)) (jl (uW st).1) at g2;change Fn _ _ _ _ _ (ab ((t3 st).2:Nat)) (jl (t3 st).1) at cL;change Fn _ _ _ _ _ (bN (t4 st).2) (jl (t4 st).1) at g8;have mQ:(pA n st).map (acc++ ·)=some l:=mQ;have dO:=fun ag=>aq0 hn ag mQ
 have aY:=fun ag=>aq1 ag mQ
 have cR:wz st=(decide ((t4 st).1.2=0)&&decide (((q7 st).2:Int)=1886286945)):=by
  unfold wz
  congr 1
  exact decide_eq_decide.2 (by unfold tK;omega)
 have cG:=@PD st;have bR:=aqZ st;have uf:Fd st=(((uW st).2:Int),((t3 st).2:Int),(t4 st).2):=rfl;rw[cR] at cG dO;rw[uf] at dO;clear cR uf mQ;generalize q7 st=bM at*;generalize uW st=bU at*;generalize t3 st=a3 at*;generalize t4 st=a4 at*;obtain⟨kr,cC⟩:=bM;obtain⟨bD,dg⟩:=bU;obtain⟨sI,jd⟩:=a3;obtain⟨⟨o2,c0⟩,d7⟩:=a4;obtain⟨b9,bC⟩:=st;simp only at mz g1 g2 cL g8 pJ dO aY cG hn bW bR;have bR:d7.length<=4294967296:=aE5
 refine av (Fn.aT [(1001,5002)] mz) ⟨fun h=>?_,fun h=>?_⟩
 .have ag:0 < b9.length:=by
   have h:decide ((0:Int) < ((b9.length:Nat):Int))=true:=h;have:=gd h;omega
  have dO:=dO ag;obtain⟨O,m,rfl,aC,mQ⟩:=dO;have cG:=cG O;rw[as8,decide_eq_true_iff,decide_eq_true_iff] at O;obtain⟨rfl,zn⟩:=O;rw[zn] at g1;refine av (Fn.aT [(1001,5002)] g1) <| av (Fn.aT [(1001,5002)] g2) <| av (Fn.aT [(1001,5002)] cL) <| av (Fn.aT [(1001,5002)] g8) ⟨bR,rfl,av (Fn.aT [(1001,5002)] pJ) <| dh <| dh ?_⟩;have n1:acc.length+1<=4294967296:=aE5
  refine⟨n1,rfl,?_⟩;exact⟨(acc++[((dg:Int),(jd:Int),d7)],(o2,0),m),⟨aC,(by show(acc++[((dg:Int),(jd:Int),d7)]).length+o2.length<=s.length;rw[as9];show acc.length+1+o2.length<=s.length;omega),mQ⟩,Nat.lt_succ_self m,ac.trans (cz [(4,dY 33),(5,ap 5002)] (aq5 (acc++[((dg:Int),(jd:Int),d7)]) (o2,0))) (ac.trans (ac.aT 33 5001 rfl) (ac.sub aA aA))⟩
 .have ag:b9.length=0:=by
   have h:decide ((0:Int) < ((b9.length:Nat):Int))=false:=h;have:=oj h;omega
  have aY:=aY ag;subst aY;exact⟨_,_,_,ac.aT 5001 1001 rfl,rfl,aA,aA,rfl⟩
abbrev Cu:bz:=.bV (.int .i64) (.bV (.int .i64) (.int .i64))
abbrev Fh:=Int×Int×Int
def lT (st:e1):=fS 4 st
def k7 (st:e1):=fS 1 (lT st).1
def rf:Nat->Int->e1->Option (List Fh)
 |0,_,_=>some []
 |n+1,a,st=>if st.1=[] then some [] else if(k7 st).1.2=0 then(rf n (a+((lT st).2:Int)) (k7 st).1).map ((a,((lT st).2:Int),((k7 st).2:Int)):: ·) else none
def YT {st:e1} (h:(k7 st).1.2=0):(k7 st).1.1.length+5=st.1.length:=by obtain⟨bM,bU⟩:=Cr (w:=1) (st:=(lT st).1) h;obtain⟨b1,b2⟩:=Cr (w:=4) (st:=st) bM;have a3:=at2 List.length bU;have b3:=at2 List.length b2;rw[as9,mO] at a3 b3;change _=1+(k7 st).1.1.length at a3;change _=4+(lT st).1.1.length at b3;omega
def aq7 {n:Nat} {a:Int} {st:e1} {acc l:List Fh} (hn:st.1.length < n) (ag:0 < st.1.length) (h:(rf n a st).map (acc++ ·)=some l):
  (k7 st).1.2=0/\ ∃m,n=m+1/\(k7 st).1.1.length < m/\(rf m (a+((lT st).2:Int)) (k7 st).1).map ((acc++[(a,((lT st).2:Int),((k7 st).2:Int))])++ ·)=some l:=by
 obtain⟨m,rfl⟩: ∃m,n=m+1:=⟨n - 1,aD7⟩;have a6: ¬st.1=[]:=fun e=>by rw[e] at ag;exact at1 ag aD8
 unfold rf at h;rw[mu a6] at h
 by_cases Z:(k7 st).1.2=0
 .rw[vj Z,Option.map_map] at h;have:=YT Z;refine⟨Z,m,rfl,aD7,?_⟩;rw[<-h]
  congr 1
  funext x
  simp
 .rw[mu Z] at h
  cases h
def aq8 {n:Nat} {a:Int} {st:e1} {acc l:List Fh} (ag:st.1.length=0) (h:(rf n a st).map (acc++ ·)=some l):acc=l:=by
 have a6:st.1=[]:=aw5 ag
 have e:rf n a st=some []:=by
  cases n with
  |zero=>rfl
  |succ n=>unfold rf;rw[vj a6]
 rw[e] at h;simpa using h
def aq9 (st:e1):(lT st).2 < 4294967296:=by have h:=Ji (i5 4 st);have G:=Pw 4 st;exact au8 h (ay1 (aB0 aD8 G) aD8)
abbrev aq' (acc:List (aa Cu)) (st:e1):ay:=[(5001,.row 66 Cu acc),(5002,.cells [.d (.b' .u8 st.1),.d (.int .i64 st.2)])]
abbrev ara (acc:List (aa Cu)) (st:e1):ay:=[(25,.row 66 Cu acc),(5002,.cells [.d (.b' .u8 st.1),.d (.int .i64 st.2)])]
def arb (s:aH3) (l:List Fh) (aw:s.length<=100000) (aj:rf (s.length+1) 0 (s,0)=some l):Fn prog 21 [bE .u8 s] [] [1001] (.b4 [.one (.own 1001),.one (.d (.int .i64 0))]) [(1001,.row 66 Cu l)]:=by
 refine aP [] func21 ?_;refine av (Fn.aT [(1001,5002)] (Px s aD7)) ?_;refine dZ [] (X:=List Fh×Int×e1×Nat) (fun x=>[(4,dY 5001),(5,ap 5002),(6,ab x.2.1)]) (fun x=>aq' x.1 x.2.2.1) (fun x=>x.2.2.1.1.length < x.2.2.2/\x.1.length+x.2.2.1.1.length<=s.length/\(0<=x.2.1/\x.2.1<=4294967296*(x.1.length:Int))/\(rf x.2.2.2 x.2.1 x.2.2.1).map (x.1++ ·)=some l) (fun x=>x.2.2.2) ([],0,(s,0),s.length+1) ⟨Nat.lt_succ_self _,(by show 0+s.length<=s.length;omega),⟨Int.le_refl 0,Int.le_refl 0⟩,by rw[aj];simp⟩ ?_ ?_
 .exact ac.trans (ac.nil 4 5001 66 Cu rfl rfl) (ac.sub aA aA)
 rintro⟨acc,a,st,n⟩ ⟨hn,bW,ha,mQ⟩;have hn:st.1.length < n:=hn;have bW:acc.length+st.1.length<=s.length:=bW;have ha:0<=a/\a<=4294967296*(acc.length:Int):=ha;have mz:=YS st;have g1:=sx st 4 (by unfold hB;simp);have g2:=sx (lT st).1 1 (by unfold hB;simp);have pJ:=YG (k7 st).1;change Fn _ _ _ _ _ (ab ((lT st).2:Nat)) (jl (lT st).1) at g1;change Fn _ _ _ _ _ (ab ((k7 st).2:Nat)) (jl (k7 st).1) at g2;have hx:=aq9 st;have mQ:(rf n a st).map (acc++ ·)=some l:=mQ;have dO:=fun ag=>aq7 hn ag mQ
 have aY:=fun ag=>aq8 ag mQ
 have cG:=@YT st;clear mQ;generalize lT st=bM at*;generalize k7 st=bU at*;obtain⟨kr,cC⟩:=bM;obtain⟨⟨o2,c0⟩,dg⟩:=bU;obtain⟨b9,bC⟩:=st;simp only at mz g1 g2 pJ dO aY cG hn bW hx;refine av (Fn.aT [(1001,5002)] mz) ⟨fun h=>?_,fun h=>?_⟩
 .have ag:0 < b9.length:=by
   have h:decide ((0:Int) < ((b9.length:Nat):Int))=true:=h;have:=gd h;omega
  have dO:=dO ag;obtain⟨rfl,m,rfl,aC,mQ⟩:=dO;have cG:=cG rfl;refine av (Fn.aT [(1001,5002)] g1) <| av (Fn.aT [(1001,5002)] g2) ⟨rfl,av (Fn.aT [(1001,5002)] pJ) <| dh ?_⟩;have n1:acc.length+1<=4294967296:=aE5
  have l4: -9223372036854775808<=a+(cC:Int)/\a+(cC:Int)<=9223372036854775807:=aE5
  refine⟨n1,rfl,l4,?_⟩;have cr:(acc++[(a,(cC:Int),(dg:Int))]).length=acc.length+1:=by rw[as9];rfl
  exact⟨(acc++[(a,(cC:Int),(dg:Int))],a+(cC:Int),(o2,0),m),⟨aC,(by show(acc++[(a,(cC:Int),(dg:Int))]).length+o2.length<=s.length;omega),(by show 0<=a+(cC:Int)/\a+(cC:Int)<=4294967296*((acc++[(a,(cC:Int),(dg:Int))]).length:Int);rw[cr];omega),mQ⟩,Nat.lt_succ_self m,ac.trans (cz [(4,dY 25),(5,ap 5002),(6,ab (a+(cC:Int)))] (ara (acc++[(a,(cC:Int),(dg:Int))]) (o2,0))) (ac.trans (ac.aT 25 5001 rfl) (ac.sub aA aA))⟩
 .have ag:b9.length=0:=by
   have h:decide ((0:Int) < ((b9.length:Nat):Int))=false:=h;have:=oj h;omega
  have aY:=aY ag;subst aY;exact⟨_,_,_,ac.aT 5001 1001 rfl,rfl,aA,aA,rfl⟩
end
section
open Go.ChangeMaps (setBlock map_eraseIdx)
section
variable {P:aI0} {ids:aH4} {K:aW} {B:ay}
def PE {o:Oper} {T kt et:aI3} {x i v:aI2} {c f:Nat} (ai:o.op= .insert T x i v) (bR:P.underlying T=some (.map kt et)) (jQ:P.underlying kt=some (.int .i64)) {es:List (aa aq×aa .fn)} {ch ch':a8} (hx:a1 K x= .c (.one (.mp c))) {key:Int} (Z:a1 K i= .c (.one (.d (.int .i64 key))))
  (aB:a1 K v= .c (.one (.c2 f []))) (J:ae B c=some ch) (hw:xq es ch) (o7:xq (dp (aF:=aq) (aJ:=.fn) es key (f,[])) ch') (N:Nat):bx P N ids o K B .undef ⟨[c],[],[(c,some ch')]⟩:=by
 have cC:x∈o.op.operands:=aE4
 have dg:i∈o.op.operands:=aE4
 have jd:v∈o.op.operands:=aE4
 refine bx.Nh J fun K' B' g1 g2 C ρ F a w ak au fG=>?_
 obtain⟨bg,bT,bY,O,aC,de⟩:=hw.holds.1 (ak.holds c _ fG);have af:=au.mp ((g1 x cC).trans hx);have ao:a.eval i= .int .i64 key:=au.int ((g1 i dg).trans Z)
 have br:a.eval v=kK (f,[]):=by
  have h:=au.ev ((g1 v jd).trans aB);obtain⟨aE,e,q⟩:=h;have q:aE=[]:=q;rw[e,q];rfl
 have cw:jn (bZ C B' F w) w .fn (f,[]) (kK (f,[])):=⟨rfl,⟨fun _=>rfl,fun e=>by cases e⟩,rfl⟩;obtain⟨eC,iM,aj,fV,o5⟩:=z8 (P:=P) (aF:=aq) (aJ:=.fn) bR jQ rfl O aC de key cw;have bv:=ml O;refine⟨{w with heap:=w.heap.setIfInBounds (ρ c).bf (.map (List.toArray eC) iM)},?_,t6 ((bg _).2 rfl),fun I aY=>o7.holds.2 ⟨bg,eC,iM,by simp[bv],fV.mono aY,o5⟩⟩;have aj:(Instr.mapUpdate T (.map (some (ρ c).bf)) (.int .i64 key) (kK (f,[]))).run P w= .ok () {w with heap:=w.heap.setIfInBounds (ρ c).bf (.map (List.toArray eC) iM)}:=aj;simp only[execOp,ai,aw3,af,ao,br,aj,au6,ax1]
def arc {o:Oper} {T kt et:aI3} {x i:aI2} {c:Nat} (ai:o.op= .lookup T x i false) (bR:P.underlying T=some (.map kt et)) (jQ:P.underlying kt=some (.int .i64)) {es:List (aa aq×aa .fn)} (hx:a1 K x= .c (.one (.mp c))) {key:Int} (Z:a1 K i= .c (.one (.d (.int .i64 key))))
  (J:ae B c=some (.az (xp es))) {f:Nat} (aj:bX (aF:=aq) (aJ:=.fn) es key=some (f,[])) (N:Nat):bx P N ids o K B (.c (.one (.c2 f []))) ⟨[c],[],[]⟩:=by
 have cC:x∈o.op.operands:=aE4
 have dg:i∈o.op.operands:=aE4
 refine bx.val fun K' B' g1 g2 C ρ F a w ak au=>?_
 obtain⟨bg,bT,bY,O,aC,de⟩:=(xq.holds (.inr rfl)).1 (ak.holds c _ ((g2 c aD9).trans J));have af:=au.mp ((g1 x cC).trans hx);have ao:a.eval i= .int .i64 key:=au.int ((g1 i dg).trans Z);have qQ:=fun e=>MapKept.run_checkKey (P:=P) (w:=w) jQ (sE (aF:=aq) (d:=.int .i64) rfl key) e 9999
 rcases z7 (I:=bZ C B' F w) (w:=w) (aF:=aq) (aJ:=.fn) (d:=.int .i64) rfl key es bT 0 aC with⟨bM,bU,_⟩ |⟨j,y,e,bM,bU,_,_,a5,_⟩
 .rw[bU] at aj;cases aj
 .have hf:=MapKept.run_findKey (P:=P) (w:=w) jQ bM;have aD:=Uz a5;rw[bU] at aj;injection aj with aj
  subst aj;refine⟨kK (f,[]),?_,⟨_,rfl,rfl⟩⟩
  have aj:(Instr.lookup T (.map (some (ρ c).bf)) (.int .i64 key) false).run P w= .ok (kK (f,[])) w:=by
   simp only[gM] at qQ hf;simp[Instr.lookup,run_underlying bR,az1 O,qQ,hf,Result.andThen,aD]
  simp only[execOp,ai,aw3,af,ao,aj,au6,ax1]
end
end
section
abbrev x5 (nm:aH3):aN:=.c (.agg [.ptr 1001 0,.d (.str nm),.ptr 1005 0])
abbrev oR (z R:Nat) (L:aH6) (o:bc):ay:=[(1001,.cells (uw z R)),(1002,.map .str .aL (cW L)),(1003,.az (.bt (jU L))),(1004,.az (.bt (gQ L))),(1005,.az o)]
abbrev PF (z R:Nat) (L:aH6) (o:bc) (b:aH3):ay:=[(1001,.cells (uw z R)),(1002,.map .str .aL (cW L)),(1003,.az (.bt (jU L))),(1004,.az (.bt (gQ L))),(1005,.az o),(1009,.row 5 .u8 b)]
def pB (z:Nat) (L:aH6) (nm:aH3) (r:gr):aH3×Int:=if 64 < kJ r then([],201) else mH z L nm (mi r) (kJ r)
def ard {z:Nat} {L:aH6} {nm:aH3} {a l:Int} (h:(mH z L nm a l).2≠0):(mH z L nm a l).1=[]:=by
 unfold mH at h⊢
 split
 .rfl
 .rename_i d H;rw[H] at h;simp only at h
  split
  .rename_i G;rw[vj G] at h;exact at1 rfl h
  .rfl
def arf {z:Nat} {L:aH6} {nm:aH3} {r:gr} (h:(pB z L nm r).2≠0):(pB z L nm r).1=[]:=by
 unfold pB at h⊢
 split
 .rfl
 .rename_i E;rw[mu E] at h;exact ard h
def arh {z R:Nat} {L:aH6} (h:b6 z R L) (o:bc) (nm:aH3) (r:gr):Fn prog 107 [x5 nm,sB r] (oR z R L o) [] (.b4 [.one (.d (.b' .u8 (pB z L nm r).1)),dw (pB z L nm r).2]) (oR z R L o):=by
 have aj:=T5 h nm (mi r) (kJ r);refine aP [] func107 ?_;refine⟨rfl,rfl,fun J=>?_,fun J=>?_⟩
 .have J:decide ((64:Int) < kJ r)=true:=J;have e:pB z L nm r=([],201):=by unfold pB;rw[vj (gd J)]
  rw[e];exact bb
 .have J:decide ((64:Int) < kJ r)=false:=J;have e:pB z L nm r=mH z L nm (mi r) (kJ r):=by unfold pB;rw[mu (oj J)]
  rw[<-e] at aj;exact av aj bb
def YU (k f:Nat):Prop:=(k=1/\f=107)\/(k=2/\f=108)\/(k=3/\f=109)
abbrev YV:List (aa aq×aa .fn):=dp (aF:=aq) (aJ:=.fn) [] (1:Int) (107,[])
abbrev YW:List (aa aq×aa .fn):=dp (aF:=aq) (aJ:=.fn) YV (2:Int) (108,[])
abbrev YX:List (aa aq×aa .fn):=dp (aF:=aq) (aJ:=.fn) YW (3:Int) (109,[])
def ari {k f:Nat} (h:YU k f):bX (aF:=aq) (aJ:=.fn) YX ((k:Nat):Int)=some (f,[]):=by rcases h with⟨rfl,rfl⟩ |⟨rfl,rfl⟩ |⟨rfl,rfl⟩ <;>rfl
def PG {z R:Nat} {L:aH6} {o:bc} {nm:aH3} {k f:Nat} (hf:YU k f) {c h a l e:Int} {x:aH3}
  (hx:Fn prog f [x5 nm,sB ((k:Int),c,h,a,l)] (oR z R L o) [] (.b4 [.one (.d (.b' .u8 x)),dw e]) (oR z R L o)) (arj:e≠0->x=[]) (al:x.length<=1000000000) (bR:uV e h x=true):
  Fn prog 51 [x5 nm,sB ((k:Int),c,h,a,l)] (oR z R L o) [1009] (dY 1009) (PF z R L o (mP e h x)):=by
 have aV:=ari hf;have cq:=aqX e h x al bR;refine aP [] func51 ?_;refine⟨rfl,rfl,rfl,bm (PE (ch':=.map aq .fn YV) rfl underlying181 underlying3 rfl rfl rfl rfl (.inl rfl) (.inl rfl)) ?_⟩;refine bm (PE (ch':=.map aq .fn YW) rfl underlying181 underlying3 rfl rfl rfl rfl (.inl rfl) (.inl rfl)) ?_;refine bm (PE (ch':=.az (xp YX)) rfl underlying181 underlying3 rfl rfl rfl rfl (.inl rfl) (.inr rfl)) ?_;refine bm (arc rfl underlying181 underlying3 rfl rfl rfl aV) ?_;refine av hx ⟨fun J=>?_,fun J=>?_⟩
 .have J:(!decide (e=0))=true:=J;have yt:x=[]:=arj (by simpa using J);subst yt;exact av (Fn.arg (Fn.aT [(1001,1009)] cq) ⟨aA,trivial⟩) bb
 .exact av (Fn.aT [(1001,1009)] cq) bb
def i7 (jm:gr->aH3):Nat->aH3->aH3×Nat×Int
 |0,b=>([],b.length,0)
 |n+1,b=>if b.length < 16 then([],b.length,0) else if re (b.take 16)=false then([],b.length,200)
  else if i6 (lX (b.take 16))=4 then([],b.length - 16,0)
  else(jm (lX (b.take 16))++(i7 jm n (b.drop 16)).1,(i7 jm n (b.drop 16)).2)
abbrev ark (z R:Nat) (L:aH6) (o:bc) (nm:aH3) (out:aH3):ay:=[(1001,.cells (uw z R)),(1002,.map .str .aL (cW L)),(1003,.az (.bt (jU L))),(1004,.az (.bt (gQ L))),(1005,.az o),(11,.cells [.ptr 1001 0,.d (.str nm),.ptr 1005 0]),(6001,.row 5 .u8 out)]
abbrev arl (z R:Nat) (L:aH6) (o:bc) (nm:aH3) (out:aH3):ay:=[(1001,.cells (uw z R)),(1002,.map .str .aL (cW L)),(1003,.az (.bt (jU L))),(1004,.az (.bt (gQ L))),(1005,.az o),(11,.cells [.ptr 1001 0,.d (.str nm),.ptr 1005 0]),(43,.row 5 .u8 out)]
def arm {z R:Nat} {L:aH6} {o:bc} {nm:aH3} {jm:gr->aH3} {C:gr->Prop}
  (arn: ∀r,C r->Fn prog 51 [x5 nm,sB r] (oR z R L o) [] (bE .u8 (jm r)) (oR z R L o)) (tb: ∀r,C r->(jm r).length<=30000) (b:aH3) (O:b.length<=100000)
  (dr: ∀k,16*k+16<=b.length->re ((b.drop (16*k)).take 16)=true->i6 (lX ((b.drop (16*k)).take 16))≠4->C (lX ((b.drop (16*k)).take 16))):
  Fn prog 17 [ap 1001,bN nm,ap 1005,bE .u8 b] (oR z R L o) [1009] (.b4 [.one (.own 1009),.one (.d (.int .i64 ((i7 jm b.length b).2.1:Nat))),.one (.d (.int .i64 (i7 jm b.length b).2.2))]) (PF z R L o (i7 jm b.length b).1):=by
 generalize h0:i7 jm b.length b=bo;refine aP [] func17 ?_;refine⟨rfl,?_⟩;refine dZ [] (X:=aH3×aH3×Nat) (fun x=>[(3,bE .u8 x.2.1),(11,ap 11),(12,dY 6001),(13,ab 0)]) (fun x=>ark z R L o nm x.1) (fun x=>x.2.1.length < 16*x.2.2+16/\(x.2.1.length<=b.length/\x.1.length<=30000*(b.length - x.2.1.length))/\(∃k,x.2.1=b.drop (16*k))/\(x.1++(i7 jm x.2.2 x.2.1).1,(i7 jm x.2.2 x.2.1).2)=bo) (fun x=>x.2.2) ([],b,b.length) ⟨(by show b.length < 16*b.length+16;omega),⟨at0 _,at6 _⟩,⟨0,rfl⟩,h0⟩ ?_ ?_
 .exact ac.trans (ac.nil 12 6001 5 .u8 rfl rfl) (ac.sub aA aA)
 rintro⟨out,x,n⟩ ⟨hn,⟨YY,ID⟩,Z,aj⟩;have hn:x.length < 16*n+16:=hn;have YY:x.length<=b.length:=YY;have ID:out.length<=30000*(b.length - x.length):=ID;have aj:(out++(i7 jm n x).1,(i7 jm n x).2)=bo:=aj
 have aY:x.length < 16->i7 jm n x=([],x.length,0):=by
  intro hx
  cases n with
  |zero=>rfl
  |succ n=>unfold i7;rw[vj hx]
 have au:16<=x.length-> ∃m,n=m+1/\i7 jm n x=(if re (x.take 16)=false then([],x.length,200) else if i6 (lX (x.take 16))=4 then([],x.length - 16,0) else(jm (lX (x.take 16))++(i7 jm m (x.drop 16)).1,(i7 jm m (x.drop 16)).2)):=by
  intro hx;obtain⟨m,rfl⟩: ∃m,n=m+1:=⟨n - 1,aD7⟩;exact⟨m,rfl,by conv=>lhs;unfold i7;rw[mu aD7]⟩
 have Fi:16<=x.length->re (x.take 16)=true->i6 (lX (x.take 16))≠4->C (lX (x.take 16)):=by
  obtain⟨k,Z⟩:=Z;have Z:x=b.drop (16*k):=Z;intro E G ah;rw[Z] at E G ah⊢;rw[ax8] at E;exact dr k aD7 G ah
 have ey: ∃k,x.drop 16=b.drop (16*k):=by
  obtain⟨k,Z⟩:=Z;have Z:x=b.drop (16*k):=Z;exact⟨k+1,by rw[Z,List.drop_drop];congr 1⟩
 have eS:(List.take x.length x).drop 16=x.drop 16:=by rw[av0]
 have da:((List.take x.length x).drop 16).length=x.length - 16:=by rw[av0,ax8]
 have bd:=aqS (x.take 16) aF0;clear Z;refine⟨fun h=>?_,fun h=>?_⟩
 .have hx:16<=x.length:=by
   have h:decide ((16:Int)<=((x.length:Nat):Int))=true:=h;have:=gd h;omega
  obtain⟨m,rfl,aw⟩:=au hx;have Fi:=Fi hx;rw[aw] at aj;clear aw au aY;have m1:0<=(16:Int)/\(16:Int)<=((x.length:Nat):Int):=aE5
  have m2:(0:Int)<=16/\(16:Int)<=((x.length:Nat):Int):=aE5
  cases bu:re (x.take 16) with
  |false=>
   rw[bu] at bd;rw[bu,vj rfl,av2] at aj;subst aj;exact⟨m1,av bd ⟨rfl,fR ⟨_,_,_,ac.aT 6001 1009 rfl,rfl,aA,aA,rfl⟩⟩⟩
  |true=>
   rw[bu] at bd;rw[bu,mu aD8] at aj;have Fi:=Fi bu;generalize lX (x.take 16)=r at*
   by_cases aS:i6 r=4
   .rw[vj aS,av2] at aj;subst aj;refine⟨m1,av bd ⟨rfl,dh ?_⟩⟩;exact⟨fun _=>⟨m2,_,_,_,ac.aT 6001 1009 rfl,rfl,⟨rfl,at2 Int.ofNat da,rfl,trivial⟩,aA,rfl⟩,fun h=>at1 (show decide (i6 r=4)=false from h) (by rw[aS];decide)⟩
   .rw[mu aS] at aj;have J:=Fi aS;have ha:=arn r J;have tb:=tb r J;generalize jm r=y at*;have n1:out.length+y.length<=4294967296:=aE5
    refine⟨m1,av bd ⟨rfl,dh ⟨fun h=>at1 (gd (show decide (i6 r=4)=true from h)) aS,fun _=>av ha ⟨n1,rfl,m2,?_⟩⟩⟩⟩;have cr:(out++y).length=out.length+y.length:=as9;have cv:(x.drop 16).length=x.length - 16:=ax8;exact⟨(out++y,x.drop 16,m),⟨(by show(x.drop 16).length < 16*m+16;omega),⟨(by show(x.drop 16).length<=b.length;omega),(by show(out++y).length<=30000*(b.length - (x.drop 16).length);omega)⟩,ey,(by rw[<-aj];show((out++y)++_,_)=(out++(y++_),_);rw[aw8])⟩,Nat.lt_succ_self m,ac.trans (ac.sub (K':=[(3,bE .u8 (x.drop 16)),(11,ap 11),(12,dY 43),(13,ab 0)]) (B':=arl z R L o nm (out++y)) ⟨eS,rfl,rfl,rfl,trivial⟩ aA) <| ac.trans (ac.aT 43 6001 rfl) (ac.sub aA aA)⟩
 .have hx:x.length < 16:=by
   have h:decide ((16:Int)<=((x.length:Nat):Int))=false:=h;have:=oj h;omega
  rw[aY hx,av2] at aj;subst aj;exact⟨_,_,_,ac.aT 6001 1009 rfl,rfl,aA,aA,rfl⟩
end
section
abbrev rh (x:cK):List sA:=[(4,x.2.1),(1,x.2.2)]
def wB (x:cK):aH3:=if qn (rh x)=true then lY (rh x) else[]
def gE (l:aI6):aH3:=l.flatMap wB
def YZ (x:cK): ∀f,f∈rh x->hB f.1:=by intro f hf;simp only[rh,at7,List.not_mem_nil,or_false] at hf;unfold hB;rcases hf with rfl |rfl <;>simp
def Y0 (x:cK):(wB x).length<=5:=by
 unfold wB
 split
 .show(dy x.2.1.toNat 4++(dy x.2.2.toNat 1++[])).length<=5;rw[as9,as9,mO,mO];exact at0 5
 .exact at6 _
def PH (l:aI6):(gE l).length<=5*l.length:=by
 induction l with
 |nil=>exact at6 _
 |cons x l bk=>
  show(wB x++gE l).length<=5*(l.length+1);have:=Y0 x;rw[as9];omega
def aro {l:aI6} {k:Nat} (h:k < l.length):gE (l.take (k+1))=gE (l.take k)++wB l[k]:=by unfold gE;rw[<-Cq h,List.flatMap_append];simp
abbrev Y1 (l:aI6) (k:Nat):aW:=[(3,dY 5001),(8,bE gA l),(9,ab (l.length:Nat)),(10,ab (k:Nat))]
abbrev Y2 (l:aI6) (k:Nat):aW:=[(3,dY 27),(8,bE gA l),(9,ab (l.length:Nat)),(10,ab (k:Nat))]
def arp (l:aI6) (al:l.length<=100000):Fn prog 232 [bE gA l] [] [] (bE .u8 (gE l)) []:=by
 refine Fn.dH (d:=1001) (ba:=[]) (aO:=[]) (e:=5) (u:=.u8) (xs:=gE l) ?_ rfl rfl;refine aP [6] func232 ?_;refine dZ [6] (X:=Nat) (fun k=>Y1 l k) (fun k=>k9 5001 (gE (l.take k))) (fun k=>k<=l.length) (fun k=>l.length - k) 0 (at6 _) ?_ ?_
 .exact ac.trans (ac.nil 3 5001 5 .u8 rfl rfl) (ac.sub aA aA)
 intro k Z;have Z:k<=l.length:=Z;refine⟨fun h=>?_,fun h=>?_⟩
 .have cd:k < l.length:=by
   have h:decide ((k:Int) < ((l.length:Nat):Int))=true:=h;have:=gd h;omega
  have kp:eR l k=some l[k]:=as7 cd;have ed:=aro cd;have O:=PH (l.take k);have iq:(l.take k).length<=100000:=aF0
  have G5:=fun(hf:qn (rh l[k])=true)=>PA (rh l[k]) (YZ _) aD9 hf
  have Lz:=fun(hf:qn (rh l[k])=false)=>aqJ (rh l[k]) (YZ _) aD9 hf
  have hx:wB l[k]=if qn (rh l[k])=true then lY (rh l[k]) else[]:=rfl
  have t8:=Y0 l[k];generalize l[k]=x at*;have tM:(0:Int)<=((k:Nat):Int):=aE5
  have m1:c5 (((k:Nat):Int)+1):=aE5
  refine(Bool.eq_false_or_eq_true (qn (rh x))).elim (fun hf=>?_) (fun hf=>?_)
  .have ag:=G5 hf;rw[vj hf] at hx;rw[hx] at ed t8;generalize lY (rh x)=y at*;generalize gE (l.take k)=aH at*;have m2:aH.length+y.length<=4294967296:=aE5
   refine⟨tM,x,kp,rfl,av (Fn.aT [(1001,5002)] ag) <| bw [] (bn) ⟨m2,rfl,?_⟩⟩;exact⟨m1,k+1,cd,by show l.length - (k+1) < l.length - k;omega,ac.trans (ac.sub (K':=Y2 l (k+1)) (B':=k9 27 (gE (l.take (k+1)))) aA ⟨at2 (fun aH=>some (a8.row 5 .u8 aH)) ed.symm,trivial⟩) (ac.trans (ac.aT 27 5001 rfl) (ac.sub aA aA))⟩
  .have ag:=Lz hf;rw[mu (by rw[hf];decide)] at hx;rw[hx,av2] at ed;generalize gE (l.take k)=aH at*;have m2:aH.length+0<=4294967296:=aE5
   refine⟨tM,x,kp,rfl,av ag <| bG.le (cz ((6,bE .u8 [])::Y1 l k) (k9 5001 aH)) <| bw [] (bn) ⟨m2,rfl,?_⟩⟩;exact⟨m1,k+1,cd,by show l.length - (k+1) < l.length - k;omega,ac.trans (ac.sub (K':=Y2 l (k+1)) (B':=k9 27 (gE (l.take (k+1)))) aA ⟨at2 (fun aH=>some (a8.row 5 .u8 aH)) ((av2 aH).trans ed.symm),trivial⟩) (ac.trans (ac.aT 27 5001 rfl) (ac.sub aA aA))⟩
 .have cd:k=l.length:=by
   have h:decide ((k:Int) < ((l.length:Nat):Int))=false:=h;have:=oj h;omega
  subst cd;exact⟨_,_,_,ac.aT 5001 1001 rfl,rfl,rfl,⟨at2 (fun aH=>some (a8.row 5 .u8 (gE aH))) (av0 ..),trivial⟩,rfl⟩
def oS (l:aI6) (a n:Int):aH3×Int:=if me l a n=[] then([],1) else(gE (me l a n),0)
def Y3 {l:aI6} {a n:Int} (h:(oS l a n).2≠0):(oS l a n).1=[]:=by
 unfold oS at h⊢
 split
 .rfl
 .rename_i E;rw[mu E] at h;exact at1 rfl h
def Y4 (l:aI6) (r:gr) (al:l.length<=100000) (dP: ∀x,x∈l-> -4611686018427387904<=x.2.1/\x.2.1<=4611686018427387903):Fn prog 173 [bE gA l,sB r] [] [] (.b4 [.one (.d (.b' .u8 (oS l (mi r) (kJ r)).1)),dw (oS l (mi r) (kJ r)).2]) []:=by
 have J:=Vf l (mi r) (kJ r) aD7 dP;have bW:=H8 l (mi r) (kJ r);have hx:=arp (me l (mi r) (kJ r)) aD7;unfold oS;generalize me l (mi r) (kJ r)=c at*
 by_cases ar:c=[]
 .rw[vj ar];subst ar;refine aP [] func173 ?_;exact⟨rfl,av J <| fR bb⟩
 .rw[mu ar];refine aP [] func173 ?_;refine⟨rfl,av J ⟨fun h=>?_,fun _=>?_⟩⟩
  .exfalso;have h:((c.length:Nat):Int)=0:=gd h;exact ar (aw5 aD7)
  .exact av hx bb
def wC (z:Nat) (L:aH6) (nm:aH3) (r:gr):aH3×Int:=if(pq z L nm).2=0 then oS (pq z L nm).1 (mi r) (kJ r) else([],(pq z L nm).2)
def arq {z:Nat} {L:aH6} {nm:aH3} {r:gr} (h:(wC z L nm r).2≠0):(wC z L nm r).1=[]:=by
 unfold wC at h⊢
 split
 .rename_i E;rw[vj E] at h;exact Y3 h
 .rfl
def Y5 {z R:Nat} {L:aH6} (h:b6 z R L) (nm:aH3):(pq z L nm).1.length<=65536/\(∀x,x∈(pq z L nm).1-> -4611686018427387904<=x.2.1/\x.2.1<=4611686018427387903)/\((pq z L nm).2=0\/(pq z L nm).2=140):=by
 unfold pq
 cases H:dk L nm with
 |none=>exact⟨at6 _,(fun x hx=>by cases hx),.inr rfl⟩
 |some d=>
  obtain⟨ax,j5,_⟩:=h.fK d (cP H).1;have lK:=ax.ez;have:=NQ (ks:=qP z L nm d.im.t.length) (by rw[HF];omega);exact⟨this.1,this.2,.inl rfl⟩
def ars {z R:Nat} {L:aH6} (h:b6 z R L) (o:bc) (nm:aH3) (r:gr):Fn prog 108 [x5 nm,sB r] (oR z R L o) [] (.b4 [.one (.d (.b' .u8 (wC z L nm r).1)),dw (wC z L nm r).2]) (oR z R L o):=by
 have aj:=akn h nm;obtain⟨i1,i2,i3⟩:=Y5 h nm;have ag:=Y4 (pq z L nm).1 r aD7 i2;unfold wC;generalize pq z L nm=w at*;obtain⟨l,e⟩:=w;simp only at aj i1 i2 ag⊢
 by_cases U:e=0
 .rw[vj U];subst U;refine aP [] func108 ?_;exact⟨rfl,rfl,av aj <| dh <| av ag bb⟩
 .rw[mu U];refine aP [] func108 ?_;exact⟨rfl,rfl,av aj ⟨fun _=>bb,fun h=>at1 (show(!decide (e=0))=false from h) aG8⟩⟩
abbrev Jl (l:aI1):ay:=[(1005,.cells [.mp 1006]),(1006,.map .str .aL (eb l)),(1007,.az (.bt (mK l))),(1008,.az (.bt (kC l)))]
def jJ (l:aI1):bc:=.iQ 1005 (Jl l)
def oT (l:aI1) (r:gr):aH3×Int:=match(nQ l)[(nr r).toNat]? with
 |none=>([],112)
 |some nm=>match dE l nm with
  |none=>([],110)
  |some e=>if e.us=true then oS (kh e.s e.g e.es) (mi r) (kJ r) else([],110)
def art {l:aI1} {r:gr} (h:(oT l r).2≠0):(oT l r).1=[]:=by
 unfold oT at h⊢
 split
 .rfl
 .rename_i nm hn;rw[hn] at h;simp only at h
  split
  .rfl
  .rename_i e U;rw[U] at h;simp only at h
   split
   .rename_i aZ;rw[vj aZ] at h;exact Y3 h
   .rfl
def aru {l:aI1} {nm:aH3} (h:nm∈nQ l): ∃e,dE l nm=some e:=by
 unfold nQ pZ at h;have h:=(List.mergeSort_perm (mc (eb l)) leB).mem_iff.1 h;rw[EB] at h
 cases U:dE l nm with
 |none=>exact at1 h (NY U)
 |some e=>exact⟨e,rfl⟩
def Y6 {s g:Int} {es:aH5} (aw:0<=s/\s<=4096):(kh s g es).length<=4096/\ ∀x,x∈kh s g es-> -4611686018427387904<=x.2.1/\x.2.1<=4611686018427387903:=by have h:=NQ (ks:=h3 g es s.toNat) (by rw[zx];omega);have G:=(Ew (h3 g es s.toNat)).len;rw[zx] at G;exact⟨by unfold kh;omega,h.2⟩
abbrev PI (z R:Nat) (L:aH6) (l:aI1):ay:=[(1001,.cells (uw z R)),(1002,.map .str .aL (cW L)),(1003,.az (.bt (jU L))),(1004,.az (.bt (gQ L))),(1005,.cells [.mp 1006]),(1006,.map .str .aL (eb l)),(1007,.az (.bt (mK l))),(1008,.az (.bt (kC l)))]
def arv {z R:Nat} {L:aH6} {l:aI1} (h:eA l) (nm:aH3) (r:gr) (aj:0<=nr r):Fn prog 109 [x5 nm,sB r] (PI z R L l) [] (.b4 [.one (.d (.b' .u8 (oT l r).1)),dw (oT l r).2]) (PI z R L l):=by
 have eM:=Fn.aT [(1001,1005),(1002,1006),(1003,1007),(1004,1008)] (akY h);have vP:(nQ l).length<=8:=by rw[akX];exact h.len
 by_cases J:(nQ l).length<=(nr r).toNat
 .have bC:oT l r=([],112):=by
   unfold oT;rw[aA3 J]
  rw[bC];generalize nQ l=ns at*;refine aP [] func109 ?_;refine⟨rfl,rfl,av eM ⟨fun _=>?_,fun bd=>?_⟩⟩
  .exact bb
  .exfalso;have bd: ¬((ns.length:Nat):Int)<=nr r:=oj bd;omega
 .have e3:(nr r).toNat < (nQ l).length:=aE5
  obtain⟨e,U⟩:=aru (av5 e3)
  have bC:oT l r=if e.us=true then oS (kh e.s e.g e.es) (mi r) (kJ r) else([],110):=by
   unfold oT;rw[as7 e3];simp only;rw[U]
  have aV:eR (nQ l) (nr r).toNat=some (nQ l)[(nr r).toNat]:=as7 e3;have rk:=Fn.aT [(1001,1005),(1002,1006),(1003,1007),(1004,1008)] (VC h U);obtain⟨cl,cY,ek,eL⟩:=h.ok e (lR U).1;have fH:=Fn.aT [(1001,5001),(1002,5002)] (Vj e.s e.g e.es cl cY.1);have hi:=Y6 (g:=e.g) (es:=e.es) cl;have ag:=Y4 (kh e.s e.g e.es) r aD7 hi.2;rw[bC];generalize(nQ l)[(nr r).toNat]=cC at*;generalize nQ l=ns at*;generalize kh e.s e.g e.es=U6 at*;generalize oS U6 (mi r) (kJ r)=bV at*;refine aP [5] func109 ?_;refine⟨rfl,rfl,av eM ⟨fun bd=>?_,fun _=>?_⟩⟩
  .exfalso;have bd:((ns.length:Nat):Int)<=nr r:=gd bd;omega
  refine⟨aj,cC,aV,av rk ⟨rfl,eG aE0,bw [] (bn) ⟨fun aZ=>?_,fun aZ=>?_⟩⟩⟩
  .have aZ:e.us=false:=by
    have aZ:(!e.us)=true:=aZ;simpa using aZ
   rw[mu (by rw[aZ];decide)];exact bb
  .have aZ:e.us=true:=by
    have aZ:(!e.us)=false:=aZ;simpa using aZ
   rw[vj aZ];exact av fH <| av ag ⟨eG aE0,bb⟩
def Y7 (z R:Nat) (L:aH6) (l:aI1) (d:Nat):ae (Jl l++[(1001,.cells (uw z R)),(1002,.map .str .aL (cW L)),(1003,.az (.bt (jU L))),(1004,.az (.bt (gQ L)))]) d=ae (PI z R L l) d:=by
 by_cases af:1001=d
 .subst af;rfl
 by_cases ao:1002=d
 .subst ao;rfl
 by_cases br:1003=d
 .subst br;rfl
 by_cases c0:1004=d
 .subst c0;rfl
 by_cases ft:1005=d
 .subst ft;rfl
 by_cases hl:1006=d
 .subst hl;rfl
 by_cases ng:1007=d
 .subst ng;rfl
 by_cases Cd:1008=d
 .subst Cd;rfl
 simp[co,af,ao,br,c0,ft,hl,ng,Cd]
def Y8 (z R:Nat) (L:aH6) (o:bc) (d:Nat):ae (oR z R L o) d=ae ((1005,.az o)::[(1001,.cells (uw z R)),(1002,.map .str .aL (cW L)),(1003,.az (.bt (jU L))),(1004,.az (.bt (gQ L)))]) d:=by
 by_cases af:1001=d
 .subst af;rfl
 by_cases ao:1002=d
 .subst ao;rfl
 by_cases br:1003=d
 .subst br;rfl
 by_cases c0:1004=d
 .subst c0;rfl
 by_cases ft:1005=d
 .subst ft;rfl
 simp[co,af,ao,br,c0,ft]
def arw {z R:Nat} {L:aH6} {l:aI1} (h:eA l) (nm:aH3) (r:gr) (aj:0<=nr r):Fn prog 109 [x5 nm,sB r] (oR z R L (jJ l)) [] (.b4 [.one (.d (.b' .u8 (oT l r).1)),dw (oT l r).2]) (oR z R L (jJ l)):=by have E:=Fn.Ce (arv (z:=z) (R:=R) (L:=L) h nm r aj) (Y7 z R L l) (Y7 z R L l);have G:=Fn.close (c:=1005) (o:=jJ l) (o':=jJ l) (bq:=Jl l) (dI:=Jl l) (iR:=[]) [1006,1007,1008] E (fun _ _ _ _ h=>h) (fun _ _ _ _ h=>h) rfl rfl;exact Fn.Ce G (Y8 z R L (jJ l)) (Y8 z R L (jJ l))
def nY (z:Nat) (L:aH6) (nm:aH3) (l:aI1) (r:gr):aH3×Int:=if i6 r=1 then pB z L nm r else if i6 r=2 then wC z L nm r else oT l r
def oU (z:Nat) (L:aH6) (nm:aH3) (l:aI1) (r:gr):aH3:=mP (nY z L nm l r).2 (uU r) (nY z L nm l r).1
def arx {z R:Nat} {L:aH6} (h:b6 z R L) (nm:aH3) (r:gr):(pB z L nm r).1.length<=1024/\0<=(pB z L nm r).2/\(pB z L nm r).2<=1000:=by
 unfold pB
 split
 .exact⟨at6 _,aD8,aD8⟩
 rename_i as1;unfold mH
 split
 .exact⟨at6 _,aD8,aD8⟩
 .rename_i d H
  split
  .rename_i hi;have:=tf hi;rw[zb h.tonJ H (h.b5 nm).1];exact⟨aD7,(by show(0:Int)<=0;decide),(by show(0:Int)<=1000;decide)⟩
  .rename_i hi;refine⟨at6 _,?_⟩;unfold dS
   split
   .decide
   .split <;>decide
def Y9 (l:aI6) (a n:Int) (al:l.length<=4096):(oS l a n).1.length<=20480/\0<=(oS l a n).2/\(oS l a n).2<=1000:=by
 unfold oS
 split
 .exact⟨at6 _,aD8,aD8⟩
 .have E:=H8 l a n;have G:=PH (me l a n);exact⟨by show(gE (me l a n)).length<=20480;omega,by show(0:Int)<=0;decide,by show(0:Int)<=1000;decide⟩
def ary {z R:Nat} {L:aH6} (h:b6 z R L) (nm:aH3):(pq z L nm).1.length<=256:=by
 unfold pq
 cases H:dk L nm with
 |none=>exact at6 _
 |some d=>
  obtain⟨ax,j5,_⟩:=h.fK d (cP H).1;have lK:=ax.ez;have:=(Ew (qP z L nm d.im.t.length)).len;rw[HF] at this;exact ay1 this lK
def Y' {z R:Nat} {L:aH6} (h:b6 z R L) {l:aI1} (H:eA l) (nm:aH3) (r:gr):(nY z L nm l r).1.length<=20480/\0<=(nY z L nm l r).2/\(nY z L nm l r).2<=1000:=by
 unfold nY
 split
 .have:=arx h nm r;exact⟨aD7,this.2⟩
 split
 .unfold wC;obtain⟨i1,i2,i3⟩:=Y5 h nm;have al:=ary h nm
  split
  .exact Y9 _ _ _ aD7
  .rcases i3 with i3 |i3 <;>rw[i3] <;>exact⟨at6 _,aD8,aD8⟩
 .unfold oT
  split
  .exact⟨at6 _,aD8,aD8⟩
  .split
   .exact⟨at6 _,aD8,aD8⟩
   .rename_i e U
    split
    .exact Y9 _ _ _ (Y6 (H.ok e (lR U).1).1).1
    .exact⟨at6 _,aD8,aD8⟩
def arz {z R:Nat} {L:aH6} (h:b6 z R L) {l:aI1} (H:eA l) (nm:aH3) (r:gr):(oU z L nm l r).length<=30000:=by have:=Y' h H nm r;unfold oU mP;rw[as9,as9,as9,mO,mO,mO,Pv];omega
def Fj (r:gr):Prop:=tL r=true/\wy (i6 r)=true/\i6 r≠4
def Fj.of {s:aH3} (h:re s=true) (aS:i6 (lX s)≠4):Fj (lX s):=by refine⟨aqR s,?_,aS⟩;unfold re at h;simp only[as8] at h;exact h.2.2
def arA {z R:Nat} {L:aH6} (h:b6 z R L) {l:aI1} (H:eA l) (nm:aH3) (r:gr) (aj:Fj r):Fn prog 51 [x5 nm,sB r] (oR z R L (jJ l)) [] (bE .u8 (oU z L nm l r)) (oR z R L (jJ l)):=by
 obtain⟨hf,Z,aS⟩:=aj;obtain⟨i1,i2,i3⟩:=Y' h H nm r
 have ey:i6 r=1\/i6 r=2\/i6 r=3:=by
  unfold wy at Z;simp only[as8,aw0] at Z;omega
 have bd:fA 2 (uU r)=true:=by
  unfold tL at hf;simp only[as8] at hf;exact hf.2.2.1
 have yI:0<=nr r:=by
  unfold tL at hf;simp only[as8] at hf;exact(sz.1 hf.2.1).1
 have bR:uV (nY z L nm l r).2 (uU r) (nY z L nm l r).1=true:=by
  unfold uV;have af:fA 2 (nY z L nm l r).2=true:=sz.2 ⟨i2,aD7⟩;have ao:fA 4 (((nY z L nm l r).1.length:Nat):Int)=true:=sz.2 ⟨aD7,by rw[az8];omega⟩;rw[af,bd,ao];rfl
 unfold oU;rcases ey with ey |ey |ey
 .have e:nY z L nm l r=pB z L nm r:=by unfold nY;rw[vj ey]
  rw[e] at bR i1⊢;obtain⟨k,c,hn,a,n⟩:=r;have ey:k=1:=ey;subst ey;exact Fn.dH (PG (k:=1) (.inl ⟨rfl,rfl⟩) (arh h (jJ l) nm (1,c,hn,a,n)) arf aD7 bR) rfl rfl
 .have e:nY z L nm l r=wC z L nm r:=by unfold nY;rw[mu aD7,vj ey]
  rw[e] at bR i1⊢;obtain⟨k,c,hn,a,n⟩:=r;have ey:k=2:=ey;subst ey;exact Fn.dH (PG (k:=2) (.inr (.inl ⟨rfl,rfl⟩)) (ars h (jJ l) nm (2,c,hn,a,n)) arq aD7 bR) rfl rfl
 .have e:nY z L nm l r=oT l r:=by unfold nY;rw[mu aD7,mu aD7]
  rw[e] at bR i1⊢;obtain⟨k,c,hn,a,n⟩:=r;have ey:k=3:=ey;subst ey;exact Fn.dH (PG (k:=3) (.inr (.inr ⟨rfl,rfl⟩)) (arw H nm (3,c,hn,a,n) yI) art aD7 bR) rfl rfl
def arB {z R:Nat} {L:aH6} (h:b6 z R L) {l:aI1} (H:eA l) (nm:aH3) (b:aH3) (O:b.length<=100000):
  Fn prog 17 [ap 1001,bN nm,ap 1005,bE .u8 b] (oR z R L (jJ l)) [1009] (.b4 [.one (.own 1009),.one (.d (.int .i64 ((i7 (oU z L nm l) b.length b).2.1:Nat))),.one (.d (.int .i64 (i7 (oU z L nm l) b.length b).2.2))]) (PF z R L (jJ l) (i7 (oU z L nm l) b.length b).1):=
 arm (C:=Fj) (jm:=oU z L nm l) (fun r aj=>arA h H nm r aj) (fun r _=>arz h H nm r) b O (fun k _ E G=>Fj.of E G)
end
section
def Za: ∀(l:aI6) (n:Nat) (a:Int),fL a l=true->0<=a->(∀x,x∈l->0<=x.2.2/\x.2.2 < 256)->(gE l).length < n->rf n a (gE l,0)=some l
 | [],n,a,_,_,_,_=>by
  cases n with
  |zero=>rfl
  |succ n=>unfold rf;rw[vj (show(gE [],(0:Int)).1=[] from rfl)]
 |x::l,n,a,h,ha,Z,hn=>by
  rw[zw] at h
  split at h
  .rename_i J;obtain⟨cu,cp,fD⟩:=J;obtain⟨cl,cY⟩:=Z x (au7 ..)
   have hf:qn (rh x)=true:=by
    show(fA 4 x.2.1&&(fA 1 x.2.2&&true))=true;rw[sz.2 ⟨aD7,by show x.2.1.toNat < 4294967296;omega⟩,sz.2 ⟨cl,by show x.2.2.toNat < 256;omega⟩];rfl
   have af:wB x=dy x.2.1.toNat 4++(dy x.2.2.toNat 1++[]):=by unfold wB;rw[vj hf];rfl
   have e:gE (x::l)=dy x.2.1.toNat 4++(dy x.2.2.toNat 1++gE l):=by
    show wB x++gE l=_;rw[af,av2,aw8]
   have bW:(gE (x::l)).length=5+(gE l).length:=by rw[e,as9,as9,mO,mO];omega
   obtain⟨m,rfl⟩: ∃m,n=m+1:=⟨n - 1,aD7⟩
   have r1:lT (gE (x::l),0)=((dy x.2.2.toNat 1++gE l,0),x.2.1.toNat):=by
    unfold lT;rw[e];exact sy (by show x.2.1.toNat < 4294967296;omega) _
   have r2:k7 (gE (x::l),0)=((gE l,0),x.2.2.toNat):=by
    unfold k7;rw[r1];exact sy (by show x.2.2.toNat < 256;omega) _
   have a6: ¬(gE (x::l),(0:Int)).1=[]:=fun bC=>by
    have:=at2 List.length bC;rw[show((gE (x::l),(0:Int)).1).length=(gE (x::l)).length from rfl,bW] at this;simp at this
   unfold rf;rw[mu a6,r2,vj rfl,r1];simp only;rw[show a+((x.2.1.toNat:Nat):Int)=a+x.2.1 by omega,Za l m (a+x.2.1) h aD7 (fun y aD=>Z y (at4 _ aD)) aD7];show some ((a,((x.2.1.toNat:Nat):Int),((x.2.2.toNat:Nat):Int))::l)=some (x::l);rw[show((x.2.1.toNat:Nat):Int)=x.2.1 by omega,show((x.2.2.toNat:Nat):Int)=x.2.2 by omega,<-cu]
  .cases h
def arC {l:aI6} {x:cK} (h:x∈l) (E:1<=x.2.1):x.2.2∈eV l:=by unfold eV;rw[List.mem_flatMap];exact⟨x,h,List.mem_replicate.2 ⟨aD7,rfl⟩⟩
end
section
def arD (jm:gr->aH3) {r:gr} (hf:tL r=true) (Z:wy (i6 r)=true) (aS:i6 r≠4):i7 jm (lW r).length (lW r)=(jm r,0,0):=by
 have bd:=aqE hf Z
 have al:(lW r).length=16:=by
  unfold lW;simp only[as9,mO]
 have cq:(lW r).take 16=lW r:=ax3 aD7;have H:(lW r).drop 16=[]:=List.drop_eq_nil_of_le aD7;rw[al];unfold i7;rw[mu aD7,cq,bd.1,bd.2,mu aD8,mu aS,H];show(jm r++(i7 jm 15 []).1,(i7 jm 15 []).2)=_;show(jm r++[],0,0)=_;rw[av2]
def arE {e h:Int} {b:aH3} (hf:uV e h b=true):pA ((mP e h b).length+1) (mP e h b,0)=some [(e,h,b)]:=by have:=aq2 (n:=(mP e h b).length) (t:=[]) hf;rw[av2,aq3] at this;exact this
end
section
section
variable {ids:aH4} {K:aW} {B:ay}
end
abbrev arF:=Nat×(aa aq×aa .da)
abbrev cR (e:arF):Int:=e.2.1
end
section
structure Jm (n:Nat) (w:bQ):Prop where
 ok:eU w
 Cp:j3 w
 bi:w.z=1
 aR:b7 w.L w.aU=n
def Jm.len {n:Nat} {w:bQ} (h:Jm n w):(iK w).length=32*n:=by rw[Pp h.ok,h.aR,h.bi];omega
def Zb {n:Nat} {w:bQ} (h:Jm n w) (ej:n<=6):Fn prog 10 [ap 1401,ab (n:Int)] (cV w) [] (bN (iK w)) (cV w):=by
 have e:mH w.z w.L w.aU 0 (2*(n:Int))=(iK w,0):=by
  rw[show(2:Int)*(n:Int)=((b7 w.L w.aU*2 ^w.z:Nat):Int) by rw[h.aR,h.bi];omega];exact apM h.ok
 have mb:=X8 w h.ok.cs 0 (2*(n:Int));rw[e] at mb;refine aP [] func10 ?_;exact⟨aD7,av mb bb⟩
end
end Go.Proofs.YtgclhiekndohdaaGreat
