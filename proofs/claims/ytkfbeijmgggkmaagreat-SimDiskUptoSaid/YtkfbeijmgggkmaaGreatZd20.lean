/-
A part of the proof of this claim: lemmas, with no condition beyond what each says.
-/
import Derived.Test.YtkfbeijmgggkmaaGreatZd19
set_option linter.unusedVariables false
set_option linter.unusedSimpArgs false
set_option maxRecDepth 10000
set_option maxHeartbeats 4000000
namespace Go.Proofs.YtkfbeijmgggkmaaGreat
open Go.RowKit Go.Proofs
section
section
variable {z R:Nat} {L:List aL} {aR:aC3} {db lb:Nat} {kd:Int} {fB:Value} {de pu:Option Nat} {m:Made} {es:gb} {M:ee}
abbrev l0 (z R:Nat) (L:List aL) (es:gb) (M:ee) (aR:aC3) (db lb:Nat) (kd:Int) (fB:Value) (de pu:Option Nat) (m:Made):az:=[oG z R L,p7 es M,(1401,.cells (Ik z aR db lb kd fB de pu m))]
theorem ua:Fn Tryz.prog 80 [aq 1401] (l0 z R L es M aR db lb kd fB de pu m) [] gO (l0 z R L es M aR db lb 0 .nilIface none none m):=by
 refine aU [] Tryz.func80 ?_;exact⟨_,_,_,ac.trans (ac.vD 1401 8 rfl rfl) (ac.vD 1401 9 rfl rfl),rfl,trivial,aC,rfl⟩
theorem Im (k:Int) (T:Nat) (p:Value):Fn Tryz.prog 72 [aq 1401,ab k,.c (.one (.bJ (.iface T p)))] (l0 z R L es M aR db lb kd fB de pu m) [] (ab 0) (l0 z R L es M aR db lb k (.iface T p) de pu m):=by
 refine aU [] Tryz.func72 ?_;exact bg
theorem anI:Fn Tryz.prog 32 [aq 1401] (l0 z R L es M aR db lb kd fB de pu m) [] (bT aR) (l0 z R L es M aR db lb kd fB de pu m):=by
 refine aU [] Tryz.func32 ?_;exact bg
theorem W':Fn Tryz.prog 19 [aq 1401] (l0 z R L es M aR db lb kd fB de pu m) [] (ab kd) (l0 z R L es M aR db lb kd fB de pu m):=by
 refine aU [] Tryz.func19 ?_;exact bg
theorem anJ:Fn Tryz.prog 15 [aq 1401] (l0 z R L es M aR db lb kd fB de pu m) [] (dr lb) (l0 z R L es M aR db lb kd fB de pu m):=by
 refine aU [] Tryz.func15 ?_;exact bg
theorem Xa (h:cb z R L) (a l:Int):Fn Tryz.prog 14 [aq 1401,ab a,ab l] (l0 z R L es M aR db lb kd fB de pu m) [] (.ci [.one (.d (.co .u8 (rM z L aR a l).1)),dz (rM z L aR a l).2]) (l0 z R L es M aR db lb kd fB de pu m):=by
 refine aU [] Tryz.func14 ?_;exact av ((agP h aR a l).ch) ⟨eF ay7,bg⟩
theorem Xb (q:Nat) (ch:ba) (B:az) (h:ag B q=none) (c:Nat):ag (B++[(q,ch)]) c=ag ((q,ch)::B) c:=by
 simp only[iN,cd]
 by_cases e:q=c
 .subst e;simp[h]
 .simp only[if_neg e]
  cases ag B c <;>rfl
theorem anK {f:FuncId} {args:List aP} {res:aP} (h:Fn Tryz.prog f args [(1004,.aG (.bx (ig L)))] [] res [(1004,.aG (.bx (ig L)))]) (E:nZ 1001 [1002,1003,1004] args (bO z R L) [] [] []=true:=by first |rfl |decide)
  (G:n0 1001 (mO [1002,1003,1004] [] []) res (bO z R L) []=true:=by first |rfl |decide):Fn Tryz.prog f args [oG z R L] [] res [oG z R L]:=
 Fn.ch (Fn.Il (Fn.qv [(1001,.cells (Lq z R)),(1002,.map .str .aM (c6 L)),(1003,.aG (.bx (md L)))] h rfl rfl) (fun c=>Xb 1004 _ [_,_,_] rfl c) (fun c=>Xb 1004 _ [_,_,_] rfl c)) E G
theorem Ou (h:cb z R L) {d:aL} (H:dk L aR=some d):Fn Tryz.prog 68 [aq 1401] (l0 z R L es M aR db lb kd fB de pu m) [] (ab (d.im.t.length:Nat)) (l0 z R L es M aR db lb kd fB de pu m):=by
 have aj:=h.toiP.M (cR H).1;refine aU [] Tryz.func68 ?_;exact av ((jM _ _ L h.toiP aR d H).ch) <| av (anK (h5 (np d.im) aj rfl rfl rfl rfl)) ⟨eF ay7,bg⟩
structure dE where
 kd:Int
 a:Int
 l:Int
 b:aC3
 nm:aC3
 fp:aC3
 ks:List lZ
abbrev In (s:dE):List bB:=[.d (.int .i64 s.kd),.d (.int .i64 s.a),.d (.int .i64 s.l),.d (.co .u8 s.b),.d (.str s.nm),.d (.str s.fp),.d (.co lY s.ks)]
abbrev iq (s:dE):aP:=.c (.agg (In s))
abbrev r6 (s:dE):az:=[(2,.cells [.ptr 1401 0]),(3,.cells (In s))]
abbrev xb (z R:Nat) (L:List aL) (es:gb) (M:ee) (aR:aC3) (db lb:Nat) (kd:Int) (fB:Value) (de pu:Option Nat) (m:Made) (s:dE):az:=l0 z R L es M aR db lb kd fB de pu m++r6 s
theorem anL (h:cb z R L) (s:dE) (O:s.b.length<=1000000000):Fn Tryz.prog 62 [aq 2,aq 3] (xb z R L es M aR db lb kd fB de pu m s) [] (ab (fe z L aR s.a s.b).e) (xb z R (fe z L aR s.a s.b).L es M aR db lb kd fB de pu m s):=by
 refine aU [] Tryz.func62 ?_;exact av ((LX h aR s.a s.b O).ch) ⟨eF ay7,bg⟩
theorem anM (h:cb z R L) (s:dE):Fn Tryz.prog 64 [aq 2,aq 3] (xb z R L es M aR db lb kd fB de pu m s) [] (ab (h7 z L aR s.a s.l).e) (xb z R (h7 z L aR s.a s.l).L es M aR db lb kd fB de pu m s):=by
 refine aU [] Tryz.func64 ?_;exact av ((Tk h aR s.a s.l).ch) ⟨eF ay7,bg⟩
theorem anN (h:cb z R L) (s:dE):Fn Tryz.prog 66 [aq 2,aq 3] (xb z R L es M aR db lb kd fB de pu m s) [] (ab (iQ L aR s.a s.l).e) (xb z R (iQ L aR s.a s.l).L es M aR db lb kd fB de pu m s):=by
 refine aU [] Tryz.func66 ?_;exact av ((Tl h aR s.a s.l).ch) ⟨eF ay7,bg⟩
end
end
section
abbrev jV (z R:Nat) (L:List aL) (b:Nat) (j:kX):az:=[oG z R L,(1501,.b5 1001 (W4 z b j))]
theorem Fn.qX {f:FuncId} {args:List aP} {z R:Nat} {L L':List aL} {res:aP} {b:Nat} {bp dG:az} (h:Fn Tryz.prog f (.c (.one (.ptr 2001 0))::args) (bO z R L++bp) [] res (bO z R L'++dG)) (aa:KH 2001 1001 1501 args (bO z R L) bp res (bO z R L') dG=true)
  (E:nZ 1001 [1002,1003,1004] (.c (.one (.d (.aM (some b))))::args) (bO z R L) [(1501,.b5 1001 (n3 b 2001 1001 bp))] [] []=true) (G:n0 1001 (mO [1002,1003,1004] [] []) res (bO z R L') [(1501,.b5 1001 (n3 b 2001 1001 dG))]=true):
  Fn Tryz.prog f (.c (.one (.d (.aM (some b))))::args) [oG z R L,(1501,.b5 1001 (n3 b 2001 1001 bp))] [] res [oG z R L',(1501,.b5 1001 (n3 b 2001 1001 dG))]:=
 Fn.y2 (h.adp aa) E G
section
variable {z R:Nat} {L:List aL} {top base nm:aC3} {l:aC4} {over done:Bool} {b:Nat} {n rm:Int} {g:List (Nat×aC3)}
theorem anO (h:lz z R L top l):Fn Tryz.prog 290 [dr b] (jV z R L b (.de top base l over)) [] (.ci [.one (.d (.bool (ff z L top base l over).done)),dz (ff z L top base l over).e]) (jV z R (ff z L top base l over).L b (.de top base (ff z L top base l over).l (ff z L top base l over).over)):=
 Fn.qX (bp:=s5 ..) (dG:=s5 ..) (h.Mz base over) rfl rfl rfl
theorem Io:Fn Tryz.prog 289 [dr b] (jV z R L b (.de top base l over)) [] (fI over) (jV z R L b (.de top base l over)):=
 Fn.qX (bp:=s5 ..) (dG:=s5 ..) (ahr z R L top base l over) rfl rfl rfl
theorem anP:Fn Tryz.prog 288 [dr b] (jV z R L b (.de top base l over)) [] gO (jV z R L b (.de top base [] true)):=
 Fn.qX (bp:=s5 ..) (dG:=s5 ..) (ahs z R L top base l over) rfl rfl rfl
theorem anQ (h:cb z R L) (a aX:Int) (ve:aX<=9223372036854775807) {d:aL} (H:dk L top=some d):Fn Tryz.prog 102 [dr b,ab a,ab aX] (jV z R L b (.de top base l over)) [] gO (jV z R L b (.de top base (qE z L top l over a aX) over)):=
 Fn.qX (bp:=s5 ..) (dG:=s5 ..) (ahB h base l over a aX ve H) rfl rfl rfl
theorem anR (h:cb z R L) {d:aL} (H:dk L top=some d):Fn Tryz.prog 301 [dr b] (jV z R L b (.pl top base over)) [] (.ci [.one (.d (.bool (hS z L top base over).done)),dz (hS z L top base over).e]) (jV z R (hS z L top base over).L b (.pl top base (hS z L top base over).over)):=
 Fn.qX (bp:=vE ..) (dG:=vE ..) (aiQ h base over H) rfl rfl rfl
theorem Ip:Fn Tryz.prog 300 [dr b] (jV z R L b (.pl top base over)) [] (fI over) (jV z R L b (.pl top base over)):=
 Fn.qX (bp:=vE ..) (dG:=vE ..) (aiE z R L top base over) rfl rfl rfl
theorem anS:Fn Tryz.prog 299 [dr b] (jV z R L b (.pl top base over)) [] gO (jV z R L b (.pl top base true)):=
 Fn.qX (bp:=vE ..) (dG:=vE ..) (aiF z R L top base over) rfl rfl rfl
theorem anT (h:ga z R L nm l g):Fn Tryz.prog 297 [dr b] (jV z R L b (.pu nm n rm l g over done)) [] (.ci [.one (.d (.bool (ka z L nm rm l g over done).tQ)),dz (ka z L nm rm l g over done).e])
  (jV z R L b (.pu nm n rm (ka z L nm rm l g over done).l (ka z L nm rm l g over done).g (ka z L nm rm l g over done).over (ka z L nm rm l g over done).done)):=
 Fn.qX (bp:=nI ..) (dG:=nI ..) (h.Mz n rm over done) rfl rfl rfl
theorem Ov:Fn Tryz.prog 296 [dr b] (jV z R L b (.pu nm n rm l g over done)) [] (fI over) (jV z R L b (.pu nm n rm l g over done)):=
 Fn.qX (bp:=nI ..) (dG:=nI ..) (ah8 z R L nm n rm l g over done) rfl rfl rfl
theorem Xc:Fn Tryz.prog 78 [dr b] (jV z R L b (.pu nm n rm l g over done)) [] (fI done) (jV z R L b (.pu nm n rm l g over done)):=
 Fn.qX (bp:=nI ..) (dG:=nI ..) (ah9 z R L nm n rm l g over done) rfl rfl rfl
theorem anU:Fn Tryz.prog 198 [dr b] (jV z R L b (.pu nm n rm l g over done)) [] gO (jV z R L b (.pu nm n rm [] g true done)):=
 Fn.qX (bp:=nI ..) (dG:=nI ..) (T5 z R L nm n rm l g over done) rfl rfl rfl
theorem anV (h:ga z R L nm l g) (a aX:Int) (G:aX<=9223372036854775807):Fn Tryz.prog 100 [dr b,ab a,ab aX] (jV z R L b (.pu nm n rm l g over done)) [] (ab (jR z L nm rm a aX l g over).e)
  (jV z R L b (.pu nm n rm (jR z L nm rm a aX l g over).l (jR z L nm rm a aX l g over).g (jR z L nm rm a aX l g over).over done)):=
 Fn.qX (bp:=nI ..) (dG:=nI ..) (h.ait n rm over done a aX G) rfl rfl rfl
theorem Xd (h:ga z R L nm l g):Fn Tryz.prog 121 [dr b] (jV z R L b (.pu nm n rm l g over true)) [] (.ci [.one (.d (.co tY (ou g))),.one (.d (.int .i64 n)),.one (.d (.bool true))]) (jV z R L b (.pu nm n rm l g over true)):=
 Fn.qX (bp:=nI ..) (dG:=nI ..) (h.aiu n rm over) rfl rfl rfl
end
end
section
def p8 (z:Nat) (L:List aL) (a aX:Int):kX->kX
 | .pu nm n rm l g over done=>if(jR z L nm rm a aX l g over).e=0 then .pu nm n rm (jR z L nm rm a aX l g over).l (jR z L nm rm a aX l g over).g (jR z L nm rm a aX l g over).over done else .no
 |j=>j
def Eg (z:Nat) (L:List aL) (a aX:Int):kX->kX
 | .de top base l over=>.de top base (qE z L top l over a aX) over
 |j=>j
def Eh (a aX:Int) (j:kX) (eo:Option (Nat×Ed)):Option (Nat×Ed):=match xa 0 j with
 |none=>eo
 |some _=>eo.map fun p=>(p.1,p.2.1,p.2.2.1,nw p.2.1 p.2.2.1 p.2.2.2 a aX)
def gI (w:b0) (a aX:Int) (r:mY):b0:=if r.e=0 then {w with L:=r.L,ds:=w.ds.map (lk a aX),bM:=Eg w.z r.L a aX (p8 w.z w.L a aX w.bM),bH:={w.bH with eo:=Eh a aX (p8 w.z w.L a aX w.bM) w.bH.eo}} else {w with L:=r.L,bM:=p8 w.z w.L a aX w.bM}
def xc (z R:Nat) (L:List aL) (aR:aC3):kX->Prop
 | .no=>True
 | .de top base l over=>top=aR/\over=false/\lz z R L top l
 | .pl top base over=>top=aR/\over=false
 | .pu nm n rm l g over done=>nm=aR/\over=false/\done=false/\n=((b4 L aR:Nat):Int)/\ga z R L nm l g
theorem anW (q b:Nat) (s g:Int) (es:List (Z al×Z al)) (a aX:Int) (aw:0<=s/\s<=4096) (aZ:1<=g/\g<=64):Fn Tryz.prog 103 [dr b,ab a,ab aX] [(1601,.aG (.bx [(b,fo s g es)]))] [] (ab (if yu s a aX then 0 else 1)) [(1601,.aG (.bx [(b,fo s g (nw s g es a aX))]))]:=
 Fn.nj [1002] 1601 (ME s g es a aX aw aZ)
abbrev Iq (w:b0) (s:dE) (f:Nat) (r:mY):Prop:= ∀(kd:Int) (fB:Value) (de pu:Option Nat),Fn Tryz.prog f [aq 2,aq 3] (xb w.z w.R w.L w.es w.M w.aR w.db w.lb kd fB de pu w.bH s) [] (ab r.e) (xb w.z w.R r.L w.es w.M w.aR w.db w.lb kd fB de pu w.bH s)
theorem Xe (w:b0) (s:dE) (f:Nat) (a aX:Int) (r:mY) (V:w.bM= .no\/ ∃top base over,w.bM= .pl top base over) (j3:d9 w.ds) (hf:Iq w s f r):
  Fn Tryz.prog 61 [aq 1401,ab a,ab aX,.c (.one (.cY f [.p 2 0,.p 3 0]))] (cQ w++r6 s) [] (ab r.e) (cQ (gI w a aX r)++r6 s):=by
 obtain⟨z,R,L,aR,db,ds,es,M,lb,Q,b,bM,bH⟩:=w;simp only at V j3;have hw:=Fn.nj (b:=db) [1002,1003,1004] 1101 (Om j3 a aX);have ae:w9 b bM=none:=by rcases V with rfl |⟨_,_,_,rfl⟩ <;>rfl
 have ao:xa b bM=none:=by rcases V with rfl |⟨_,_,_,rfl⟩ <;>rfl
 have bm:p8 z L a aX bM=bM:=by rcases V with rfl |⟨_,_,_,rfl⟩ <;>rfl
 have c0:Eg z r.L a aX bM=bM:=by rcases V with rfl |⟨_,_,_,rfl⟩ <;>rfl
 have fQ:Eh a aX bM bH.eo=bH.eo:=by rcases V with rfl |⟨_,_,_,rfl⟩ <;>rfl
 have hf:=hf (Ec bM) (qW b bM) (w9 b bM) (xa b bM)
 by_cases U:r.e=0
 .have qj:gI ⟨z,R,L,aR,db,ds,es,M,lb,Q,b,bM,bH⟩ a aX r=⟨z,R,r.L,aR,db,ds.map (lk a aX),es,M,lb,Q,b,bM,bH⟩:=by
   unfold gI;simp only[bm,c0,fQ,if_pos U]
  rw[qj];refine aU [] Tryz.func61 ?_;refine⟨fun _ h=>(by rw[ao] at h;cases h),fun _=>av hf ⟨fun h=>absurd h aB8,fun h=>av hw ?_⟩⟩;refine⟨fun _ h=>(by rw[ae] at h;cases h),fun _=>?_⟩;exact⟨fun _ h=>(by rw[ao] at h;cases h),fun _=>eG br rfl U.symm⟩
 .have qj:gI ⟨z,R,L,aR,db,ds,es,M,lb,Q,b,bM,bH⟩ a aX r=⟨z,R,r.L,aR,db,ds,es,M,lb,Q,b,bM,bH⟩:=by
   unfold gI;simp only[bm,if_neg U]
  rw[qj];refine aU [] Tryz.func61 ?_;exact⟨fun _ h=>(by rw[ao] at h;cases h),fun _=>av hf ⟨fun h=>bg,fun h=>absurd h aB8⟩⟩
theorem anX (w:b0) (s:dE) (f:Nat) (a aX:Int) (r:mY) {top base:aC3} {l:aC4} {over:Bool} (V:w.bM= .de top base l over) (j3:d9 w.ds) (e8:cb w.z w.R r.L) {d:aL} (H:dk r.L top=some d) (ve:aX<=9223372036854775807) (hf:Iq w s f r):
  Fn Tryz.prog 61 [aq 1401,ab a,ab aX,.c (.one (.cY f [.p 2 0,.p 3 0]))] (cQ w++r6 s) [] (ab r.e) (cQ (gI w a aX r)++r6 s):=by
 obtain⟨z,R,L,aR,db,ds,es,M,lb,Q,b,bM,bH⟩:=w;simp only at V j3 e8;subst V;have hw:=Fn.nj (b:=db) [1002,1003,1004] 1101 (Om j3 a aX);have aA:=anQ (b:=b) (base:=base) (l:=l) (over:=over) e8 a aX ve H;have hf:=hf 1 (qW b (.de top base l over)) (some b) none
 by_cases U:r.e=0
 .have qj:gI ⟨z,R,L,aR,db,ds,es,M,lb,Q,b,.de top base l over,bH⟩ a aX r=⟨z,R,r.L,aR,db,ds.map (lk a aX),es,M,lb,Q,b,.de top base (qE z r.L top l over a aX) over,bH⟩:=by
   unfold gI;simp only[if_pos U,p8,Eg,Eh,xa]
  rw[qj];refine aU [] Tryz.func61 ?_;exact⟨fun _ h=>az4,fun _=>av hf ⟨fun h=>absurd h aB8,fun h=>av hw ⟨fun _ _=>av aA ⟨fun _ h=>az4,fun _=>eG br rfl U.symm⟩,fun h=>az4⟩⟩⟩
 .have qj:gI ⟨z,R,L,aR,db,ds,es,M,lb,Q,b,.de top base l over,bH⟩ a aX r=⟨z,R,r.L,aR,db,ds,es,M,lb,Q,b,.de top base l over,bH⟩:=by
   unfold gI;simp only[if_neg U,p8]
  rw[qj];refine aU [] Tryz.func61 ?_;exact⟨fun _ h=>az4,fun _=>av hf ⟨fun h=>bg,fun h=>absurd h aB8⟩⟩
theorem anY (w:b0) (s:dE) (f:Nat) (a aX:Int) (r:mY) {nm:aC3} {n rm:Int} {l:aC4} {g:List (Nat×aC3)} {over done:Bool} (V:w.bM= .pu nm n rm l g over done) (j3:d9 w.ds) (ai:ga w.z w.R w.L nm l g) (ve:aX<=9223372036854775807)
  (rU: ∀p,w.bH.eo=some p->(0<=p.2.1/\p.2.1<=4096)/\1<=p.2.2.1/\p.2.2.1<=64) (hf:Iq w s f r):
  Fn Tryz.prog 61 [aq 1401,ab a,ab aX,.c (.one (.cY f [.p 2 0,.p 3 0]))] (cQ w++r6 s) [] (ab r.e) (cQ (gI w a aX r)++r6 s):=by
 obtain⟨z,R,L,aR,db,ds,es,M,lb,Q,b,bM,bH⟩:=w;simp only at V j3 ai rU;subst V;have hw:=Fn.nj (b:=db) [1002,1003,1004] 1101 (Om j3 a aX);have O:=anV (b:=b) (n:=n) (rm:=rm) (over:=over) (done:=done) ai a aX ve;have Kl:p8 z L a aX (.pu nm n rm l g over done)=if(jR z L nm rm a aX l g over).e=0 then .pu nm n rm (jR z L nm rm a aX l g over).l (jR z L nm rm a aX l g over).g (jR z L nm rm a aX l g over).over done else .no:=rfl
 unfold gI;simp only[Kl];generalize jR z L nm rm a aX l g over=y at*
 by_cases aD:y.e=0
 .have hf:=hf 3 (qW b (.pu nm n rm l g over done)) none (some b);simp only[if_pos aD]
  by_cases U:r.e=0
  .simp only[if_pos U];obtain⟨f4,eW,eo⟩:=bH
   cases eo with
   |none=>
    show Fn _ _ _ _ _ _ (cQ ⟨z,R,r.L,aR,db,ds.map (lk a aX),es,M,lb,Q,b,.pu nm n rm y.l y.g y.over done,⟨f4,eW,none⟩⟩++r6 s);refine aU [] Tryz.func61 ?_;exact⟨fun _ _=>av O ⟨fun h=>absurd h (by simp[aD]),fun _=>av hf ⟨fun h=>absurd h aB8,fun h=>av hw ⟨fun _ h=>az4,fun _=>⟨fun _ _=>⟨fun _ h=>az4,fun _=>eG br rfl U.symm⟩,fun h=>az4⟩⟩⟩⟩,fun h=>az4⟩
   |some p=>
    obtain⟨ke,aQ,Ow,Ox⟩:=p;obtain⟨cj,cT⟩:=rU _ rfl;have aw:=anW 1601 ke aQ Ow Ox a aX cj cT;show Fn _ _ _ _ _ _ (cQ ⟨z,R,r.L,aR,db,ds.map (lk a aX),es,M,lb,Q,b,.pu nm n rm y.l y.g y.over done,⟨f4,eW,some (ke,aQ,Ow,nw aQ Ow Ox a aX)⟩⟩++r6 s);refine aU [] Tryz.func61 ?_;exact⟨fun _ _=>av O ⟨fun h=>absurd h (by simp[aD]),fun _=>av hf ⟨fun h=>absurd h aB8,fun h=>av hw ⟨fun _ h=>az4,fun _=>⟨fun _ _=>⟨fun _ _=>av aw <| eG br rfl U.symm,fun h=>az4⟩,fun h=>az4⟩⟩⟩⟩,fun h=>az4⟩
  .simp only[if_neg U];refine aU [] Tryz.func61 ?_;exact⟨fun _ _=>av O ⟨fun h=>absurd h (by simp[aD]),fun _=>av hf ⟨fun h=>bg,fun h=>absurd h aB8⟩⟩,fun h=>az4⟩
 .have hf:=hf 0 .nilIface none none;have aZ:=ua (z:=z) (R:=R) (L:=L) (aR:=aR) (db:=db) (lb:=lb) (kd:=3) (fB:=qW b (.pu nm n rm l g over done)) (de:=none) (pu:=some b) (m:=bH) (es:=es) (M:=M);simp only[if_neg aD]
  by_cases U:r.e=0
  .simp only[if_pos U];show Fn _ _ _ _ _ _ (cQ ⟨z,R,r.L,aR,db,ds.map (lk a aX),es,M,lb,Q,b,.no,bH⟩++r6 s);refine aU [3] Tryz.func61 ?_;exact⟨fun _ _=>av O ⟨fun _=>av aZ <| bu [] (ac.qV 1501 1001 rfl) <| av hf ⟨fun h=>absurd h aB8,fun h=>av hw ⟨fun _ h=>az4,fun _=>⟨fun _ h=>az4,fun _=>eG br rfl U.symm⟩⟩⟩,fun h=>absurd h (by simp[aD])⟩,fun h=>az4⟩
  .simp only[if_neg U];refine aU [3] Tryz.func61 ?_;exact⟨fun _ _=>av O ⟨fun _=>av aZ <| bu [] (ac.qV 1501 1001 rfl) <| av hf ⟨fun h=>bg,fun h=>absurd h aB8⟩,fun h=>absurd h (by simp[aD])⟩,fun h=>az4⟩
end
section
structure qY (L:List bW):Prop extends nA L where
 Ir:qS L
end
section
theorem Is (es:gb) (k:aC3) (a:Option Nat):iF (mx es k a) k=a/\ ∀j,j≠k->iF (mx es k a) j=iF es j:=by
 obtain⟨E,G⟩:=zV (aI:=.str) (aK:=.aM) qr (k:Z .str) (a:Z .aM) es;refine⟨?_,fun j V=>?_⟩
 .show((bY (aI:=.str) (aK:=.aM) (dx (aI:=.str) (aK:=.aM) es k a) k).getD (cO .aM))=a;rw[E];rfl
 .show((bY (aI:=.str) (aK:=.aM) (dx (aI:=.str) (aK:=.aM) es k a) j).getD (cO .aM))=_;rw[G j V];rfl
theorem Xf {es:gb} (h:e5 es) (k:aC3):iF (jU es k) k=none/\ ∀j,j≠k->iF (jU es k) j=iF es j:=by
 obtain⟨E,G⟩:=CC (aI:=.str) (aK:=.aM) qr (k:Z .str) es h;refine⟨?_,fun j V=>?_⟩
 .show((bY (aI:=.str) (aK:=.aM) (gM (aI:=.str) (aK:=.aM) es k) k).getD (cO .aM))=none;rw[E];rfl
 .show((bY (aI:=.str) (aK:=.aM) (gM (aI:=.str) (aK:=.aM) es k) j).getD (cO .aM))=_;rw[G j V];rfl
theorem anZ {es:gb} (h:e5 es) (G: ∀p,p∈es->s1 p=p6\/s1 p=gA):es.length<=2:=by
 match es,h,G with
 | [],_,_=>exact aq8 _
 | [_],_,_=>exact Nat.le_succ 1
 | [_,_],_,_=>exact aq0 _
 |x::y::aB::l,h,G=>
  exfalso
  have ne: ∀{p q:Z .str×Z .aM},f0 .str p.1 q.1=false->s1 p≠s1 q:=fun {p q} e bf=>by
   have:f0 .str p.1 q.1=true:=(qr p.1 q.1).2 bf;rw[e] at this
   cases this
  obtain⟨bZ,cg⟩:=List.pairwise_cons.1 h;obtain⟨b1,b2⟩:=List.pairwise_cons.1 cg;have cU:=ne (bZ y ay6);have dU:=ne (bZ aB ay6);have ls:=ne (b1 aB ay6);rcases G x ay6 with ae |ae <;>rcases G y ay6 with ao |ao <;>rcases G aB ay6 with bm |bm <;>simp_all
structure my (es:gb) (M:ee) (Q:List bW):Prop where
 iy:e5 es
 two: ∀p,p∈es->s1 p=p6\/s1 p=gA
 bx:s2 es M 0
 Xg: ∀p,p∈M->p.2.fl=[]/\p.2.nE=p.2.bK
 co:(iF es p6=none/\Q=[])\/ ∃a m,iF es p6=some a/\hV M a=some m/\D7 m 512 4096 (jw Q)/\((jw Q).length:Int)<=dv 512*16
theorem Xh:(p6:aC3)≠gA:=by decide
theorem an0 {M:ee} {a:Nat} {m:cn} (h:hV M a=some m):a∈M.map (·.1):=ar8 (f:=fun p:Nat×cn=>p.1) (N5 h)
theorem my.an1 {es:gb} {M:ee} {Q:List bW} (h:my es M Q):iF (jU es gA) gA=none/\(jU es gA).length < 16/\ ∀b,iF (mx (jU es gA) gA (some b)) gA=some b:=by
 have G:(jU es gA).length<=2:=anZ (e5.ng h.iy) fun p ai=>h.two p (zW ai)
 exact⟨(Xf h.iy gA).1,ay4,fun b=>(Is _ _ _).1⟩
theorem my.an2 {es:gb} {M:ee} {Q Q':List bW} (h:my es M Q) {b:Nat} (O:b∉M.map (·.1)):my (vB 512 es Q' b) ((b,t' 512 4096 Q' b)::M) (if w7 512 Q'=0 then Q' else Q):=by
 have cj:e5 (jU es gA):=e5.ng h.iy;have cT:e5 (mx (jU es gA) gA (some b)):=e5.put qr cj
 have t2: ∀p,p∈mx (jU es gA) gA (some b)->s1 p=p6\/s1 p=gA:=fun p ai=>by
  rcases D9 ai with rfl |ai
  .exact .inr rfl
  .exact h.two p (zW ai)
 have hf: ∀m,(m=t' 512 4096 Q' b)-> ∀p,p∈((b,m)::M:ee)->m.fl=[]/\m.nE=m.bK->p.2.fl=[]/\p.2.nE=p.2.bK:=fun m _ p ai aA=>by
  rcases aq5.1 ai with rfl |ai
  .exact aA
  .exact h.Xg p ai
 by_cases J:((jw Q').length:Int)<=dv 512*16
 .have pw:=am9 (n:=512) (R:=4096) rfl ay5 ay5 J;have ae:w7 512 Q'=0:=if_pos J;have ao:vB 512 es Q' b=_:=if_pos J;have bm:t' 512 4096 Q' b=_:=if_pos J;have ai:=(h.bx.ng gA).add (k:=gA) (m:=vA 512 4096 (jw Q')) O pw.ok (by rw[pw.ia];exact aq0 _);have g1:=(Is (jU es gA) gA (some b)).1;rw[ae,if_pos rfl,ao,bm];refine⟨e5.put qr (e5.ng cT),fun p ai=>?_,ai.aV g1,fun p ai=>hf _ bm.symm p ai ⟨pw.ia,pw.WM⟩,.inr ⟨b,_,(Is _ _ _).1,if_pos rfl,pw,J⟩⟩;rcases D9 ai with rfl |ai
  .exact .inl rfl
  .exact t2 p (zW ai)
 .have ae:w7 512 Q'=1:=if_neg J;have ao:vB 512 es Q' b=_:=if_neg J;have bm:t' 512 4096 Q' b=_:=if_neg J;have ai:=(h.bx.ng gA).add (k:=gA) (m:=kW 512 4096) O (hh.new rfl) (aq0 _);rw[ae,if_neg ay5,ao,bm];refine⟨cT,t2,ai,fun p ai=>hf _ bm.symm p ai ⟨rfl,rfl⟩,?_⟩;have g1:iF (mx (jU es gA) gA (some b)) p6=iF es p6:=((Is _ _ _).2 _ Xh).trans ((Xf h.iy _).2 _ Xh);rw[g1];rcases h.co with E |⟨a,m,E,G,af⟩
  .exact .inl E
  .refine .inr ⟨a,m,E,?_,af⟩;rw[t6,if_neg (fun e=>O (by have e:b=a:=e;rw[e];exact an0 G))];exact G
theorem my.oE {es:gb} {M:ee} {Q:List bW} (h:my es M Q) (ks:List lZ):mt (yT ks es) M=M:=by
 unfold mt;refine(as2 fun p ai=>?_).trans (List.map_id M);obtain⟨E,G⟩:=h.Xg p ai
 have af:yT ks es p.1 p.2=p.2:=by
  unfold yT
  split
  .obtain⟨a,n',Fo,WM,Ox,ia⟩:=p;simp only at E G;subst E G;rfl
  .rfl
 rw[af];rfl
def Ei:kX->Bool
 | .pu .. =>true
 |_=>false
structure lE (w:b0):Prop where
 cs:cb w.z w.R w.L
 kd:(dk w.L w.aR).isSome=true
 ds:d9 w.ds
 ea: ∀e,e∈w.ds->vs e/\e.s=((b4 w.L w.aR*2 ^w.z:Nat):Int)
 q:qY w.Q
 nJ:my w.es w.M w.Q
 eo: ∀p,w.bH.eo=some p->p.2.1=((b4 w.L w.aR*2 ^w.z:Nat):Int)/\p.2.2.1=1/\e5 p.2.2.2
structure eX (w:b0):Prop extends lE w where
 bM:xc w.z w.R w.L w.aR w.bM
 rQ:Ei w.bM=true->gY (ep w.bH.f4)=true
end
section
theorem Oy (w:b0) (ap:eX w) (s:dE) (f:Nat) (a aX:Int) (r:mY) (ak:i0 w.L w.aR r.L) (ve:aX<=9223372036854775807) (hf:Iq w s f r):
  Fn Tryz.prog 61 [aq 1401,ab a,ab aX,.c (.one (.cY f [.p 2 0,.p 3 0]))] (cQ w++r6 s) [] (ab r.e) (cQ (gI w a aX r)++r6 s):=by
 have V:=ap.bM
 cases h:w.bM with
 |no=>exact Xe w s f a aX r (.inl h) ap.ds hf
 |pl t b o=>exact Xe w s f a aX r (.inr ⟨t,b,o,h⟩) ap.ds hf
 |de t b l o=>
  rw[h] at V;obtain⟨E,G,af⟩:=V;obtain⟨d,H⟩:=at4.1 (show(dk r.L t).isSome=true by rw[(ak.aQ t).2];exact af.iy);exact anX w s f a aX r h ap.ds (ak.cs ap.cs) H ve hf
 |pu nm n rm l g o tQ=>
  rw[h] at V;obtain⟨E,G,af,aW,bG⟩:=V
  exact anY w s f a aX r h ap.ds bG ve (fun p ai=>by
   obtain⟨cj,cT,_⟩:=ap.eo p ai;have O:=ap.cs.b3;obtain⟨d,H⟩:=at4.1 ap.kd;have an3:=(ap.cs.gl d (cR H).1).1.eS;have aw:b4 w.L w.aR=d.im.t.length:=az9
   have iu:2 ^w.z<=2 ^3:=Nat.pow_le_pow_right ay5 O;have aA:b4 w.L w.aR*2 ^w.z<=256*8:=av1 ay4 iu;rw[cj,cT];omega) hf
theorem an4 (w:b0) (ap:eX w) (s:dE) (O:s.b.length<=1000000):Fn Tryz.prog 33 [aq 1401,iq s] (cQ w) [] (ab (fe w.z w.L w.aR s.a s.b).e) (cQ (gI w s.a ((s.b.length:Int)/16) (fe w.z w.L w.aR s.a s.b))):=by
 have J:=Oy w ap s 62 s.a ((s.b.length:Int)/16) (fe w.z w.L w.aR s.a s.b) (wL ap.cs _ _ _) ay4 (fun _ _ _ _=>anL ap.cs s ay4);generalize fe w.z w.L w.aR s.a s.b=r at J⊢;generalize gI w s.a ((s.b.length:Int)/16) r=w' at J⊢;generalize r.e=e at J⊢;refine aU [] Tryz.func33 ?_;refine⟨rfl,rfl,?_⟩;have cA:0<=((s.b.length:Nat):Int)/\(0:Int) < 16:=az2
 have cF: -9223372036854775808<=((s.b.length:Nat):Int)/16/\((s.b.length:Nat):Int)/16<=9223372036854775807:=az2
 exact⟨cA,cF,av J bg⟩
theorem an5 (w:b0) (ap:eX w) (s:dE) (ak:s.l<=9223372036854775807):Fn Tryz.prog 34 [aq 1401,iq s] (cQ w) [] (ab (h7 w.z w.L w.aR s.a s.l).e) (cQ (gI w s.a s.l (h7 w.z w.L w.aR s.a s.l))):=by
 have J:=Oy w ap s 64 s.a s.l (h7 w.z w.L w.aR s.a s.l) (Di ap.cs _ _ _) ak (fun _ _ _ _=>anM ap.cs s);generalize h7 w.z w.L w.aR s.a s.l=r at J⊢;generalize gI w s.a s.l r=w' at J⊢;generalize r.e=e at J⊢;refine aU [] Tryz.func34 ?_;exact⟨rfl,rfl,av J bg⟩
def vF:kX->Bool
 | .de .. =>true
 |_=>false
theorem an6 (b:Nat) (j:kX):(vF j=true->w9 b j=some b)/\(vF j=false->w9 b j=none):=by cases j <;>exact⟨fun h=>(by first |rfl |cases h),fun h=>(by first |rfl |cases h)⟩
theorem Xi (w:b0) (ap:eX w) (s:dE) (ak:s.l<=9223372036854775807) (r:mY) (ax:r=if vF w.bM=true then⟨143,w.L⟩ else iQ w.L w.aR s.a s.l) (w':b0) (hw:w'=if vF w.bM=true then w else gI w s.a s.l r):Fn Tryz.prog 35 [aq 1401,iq s] (cQ w) [] (ab r.e) (cQ w'):=by
 obtain⟨lf,qH⟩:=an6 w.b w.bM
 cases aA:vF w.bM with
 |true=>
  rw[aA] at ax hw;have lf:=lf aA;rw[if_pos rfl] at ax hw;subst ax hw;refine aU [] Tryz.func35 ?_;refine⟨rfl,rfl,?_⟩;exact⟨fun _ _=>bg,fun h=>(by rw[lf] at h;cases h)⟩
 |false=>
  rw[aA] at ax hw;have qH:=qH aA;rw[if_neg ay5] at ax hw;subst ax;subst hw;have J:=Oy w ap s 66 s.a s.l (iQ w.L w.aR s.a s.l) (tV ap.cs _ _ _) ak (fun _ _ _ _=>anN ap.cs s);generalize iQ w.L w.aR s.a s.l=r at J⊢;generalize gI w s.a s.l r=w' at J⊢;generalize r.e=e at J⊢;refine aU [] Tryz.func35 ?_;refine⟨rfl,rfl,?_⟩;exact⟨fun _ h=>(by rw[qH] at h;cases h),fun _=>av J bg⟩
end
section
def po:kX->Bool
 | .no=>true
 |_=>false
theorem It {j:kX} (h:po j=false) (b:Nat): ∃T,qW b j=Ij T b:=by cases j <;>first |(cases h;done) |exact⟨_,rfl⟩
def ek (w:b0):Nat:=b4 w.L w.aR
theorem lE.dk {w:b0} (h:lE w): ∃d,Go.Proofs.YtkfbeijmgggkmaaGreat.dk w.L w.aR=some d/\d.im.t.length=ek w:=by
 obtain⟨d,H⟩:=at4.1 h.kd;exact⟨d,H,by unfold ek b4;rw[H]⟩
theorem eX.dk {w:b0} (h:eX w): ∃d,Go.Proofs.YtkfbeijmgggkmaaGreat.dk w.L w.aR=some d/\d.im.t.length=ek w:=h.tolE.dk
theorem an7 (w:b0) (s:dE) (V:po w.bM=false):Fn Tryz.prog 36 [aq 1401,iq s] (cQ w) [] (ab 143) (cQ w):=by
 obtain⟨T,b6⟩:=It V w.b;refine aU [] Tryz.func36 ?_;refine⟨rfl,_,_,fun N=>Gb rfl Tryz.underlying73 (by exact congrArg (fun v=>aP.c (.one (.bJ v))) b6) N,rfl,?_⟩;exact bg
theorem Xj (z R:Nat) (L:List aL) (nm:aC3) (size:Int) (back:aC3) (p:Nat×Nat):(hR z R L nm size back p).e=(hR z R L nm size back (0,0)).e:=by
 unfold hR
 repeat' split
 all_goals rfl
theorem Oz {z R:Nat} {L:List aL} (h:cb z R L) (nm:aC3) (size:Int) (back:aC3) (ak:nm.length<=4294967296):
  Fn Tryz.prog 27 [aq 1001,bT nm,ab size,bT back] [oG z R L] [] (ab (hR z R L nm size back (0,0)).e) [(1001,.aG (.jf fun p:{p:Nat×Nat//cb z R (hR z R L nm size back p).L}=>Ee z R (hR z R L nm size back p.1).L))]:=by
 have E:=agT h nm size back ak;simp only[Xj] at E;exact cx.jf (aO:=[]) (cx.W9 (aJ:=[]) (aO:=fun _=>[]) (by simp only[at6];exact E) rfl fun _=>rfl)
abbrev m8 (bo:Int->b0->Prop):Type:={p:Int×b0//bo p.1 p.2}
def Xk (w:b0) (s:dE) (e:Int) (w':b0):Prop:= ∃p:Nat×Nat,cb w.z w.R (hR w.z w.R w.L s.nm ((ek w:Nat):Int) w.aR p).L/\e=(hR w.z w.R w.L s.nm ((ek w:Nat):Int) w.aR p).e/\
 ((e=0/\w'={w with L:=(hR w.z w.R w.L s.nm ((ek w:Nat):Int) w.aR p).L,aR:=s.nm})\/(e≠0/\w'={w with L:=(hR w.z w.R w.L s.nm ((ek w:Nat):Int) w.aR p).L}))
theorem an8 (w:b0) (ap:eX w) (s:dE) (V:w.bM= .no) (ak:s.nm.length<=1000000):cx Tryz.prog 36 [aq 1401,iq s] (cQ w) [] (X:=m8 (Xk w s)) (fun p=>ab p.1.1) (fun p=>cQ p.1.2):=by
 obtain⟨d,H,aN⟩:=ap.dk;have cC:=Ou (db:=w.db) (lb:=w.lb) (kd:=Ec w.bM) (fB:=qW w.b w.bM) (de:=w9 w.b w.bM) (pu:=xa w.b w.bM) (m:=w.bH) (es:=w.es) (M:=w.M) ap.cs H;rw[aN] at cC;have y3:=Oz ap.cs s.nm ((ek w:Nat):Int) w.aR ay4;have b6:qW w.b w.bM= .nilIface:=by rw[V];rfl
 refine hO [3,4] Tryz.func36 ?_;refine⟨rfl,_,_,fun N=>qs rfl Tryz.underlying73 (by exact congrArg (fun v=>aP.c (.one (.bJ v))) b6) N,rfl,?_⟩;refine bw.mR 68 ay5 ?_;refine bu [4] (br) <| ws rfl rfl rfl cC <| av y3 ⟨eF ay7,bw.e4 (di.jf 1001 rfl) fun g=>?_⟩;obtain⟨p,ai⟩:=g;have Bb:=Xj w.z w.R w.L s.nm ((ek w:Nat):Int) w.aR p;refine bu [] (br) ⟨fun h=>?_,fun h=>?_⟩
 .have h:=gd h;exact⟨⟨(_,{w with L:=(hR w.z w.R w.L s.nm ((ek w:Nat):Int) w.aR p).L,aR:=s.nm}),p,ai,Bb.symm,.inl ⟨h,rfl⟩⟩,_,_,_,br,rfl,rfl,aC,rfl⟩
 .have h:=mu h;exact⟨⟨(_,{w with L:=(hR w.z w.R w.L s.nm ((ek w:Nat):Int) w.aR p).L}),p,ai,Bb.symm,.inr ⟨h,rfl⟩⟩,_,_,_,br,rfl,rfl,aC,rfl⟩
theorem an9 (w:b0) (s:dE) (V:po w.bM=false):Fn Tryz.prog 38 [aq 1401,iq s] (cQ w) [] (ab 143) (cQ w):=by
 obtain⟨T,b6⟩:=It V w.b;refine aU [] Tryz.func38 ?_;refine⟨rfl,_,_,fun N=>Gb rfl Tryz.underlying73 (by exact congrArg (fun v=>aP.c (.one (.bJ v))) b6) N,rfl,?_⟩;exact bg
theorem an' (w:b0) (s:dE) (V:po w.bM=false):Fn Tryz.prog 39 [aq 1401,iq s] (cQ w) [] (ab 143) (cQ w):=by
 obtain⟨T,b6⟩:=It V w.b;refine aU [] Tryz.func39 ?_;refine⟨rfl,_,_,fun N=>Gb rfl Tryz.underlying73 (by exact congrArg (fun v=>aP.c (.one (.bJ v))) b6) N,rfl,?_⟩;exact bg
theorem aoa (w:b0) (s:dE) (V:po w.bM=false):Fn Tryz.prog 40 [aq 1401,iq s] (cQ w) [] (ab 143) (cQ w):=by
 obtain⟨T,b6⟩:=It V w.b;refine aU [] Tryz.func40 ?_;refine⟨rfl,_,_,fun N=>Gb rfl Tryz.underlying73 (by exact congrArg (fun v=>aP.c (.one (.bJ v))) b6) N,rfl,?_⟩;exact bg
def Xl (w:b0) (e:Int) (w':b0):Prop:=e=oo w.L w.aR/\((e=0/\ ∃b,w'={w with b:=b,bM:=.de w.aR (fm w.L w.aR).1 (tW w.L w.aR) false})\/(e≠0/\w'=w))
theorem aob (w:b0) (ap:eX w) (s:dE) (V:w.bM= .no):cx Tryz.prog 38 [aq 1401,iq s] (cQ w) [] (X:=m8 (Xl w)) (fun p=>ab p.1.1) (fun p=>cQ p.1.2):=by
 have e8:=ap.cs;obtain⟨z,R,L,aR,db,ds,es,M,lb,Q,eK,bM,bH⟩:=w;simp only at V e8;subst V
 by_cases U:oo L aR=0
 .have O:=Fn.y2 (aJ:=[]) (aO:=s5 aR (fm L aR).1 (tW L aR) false) (ahw e8 aR U) rfl rfl;refine hO [6] Tryz.func38 ?_;refine⟨rfl,_,_,fun N=>qs rfl Tryz.underlying73 rfl N,rfl,?_⟩;refine av O ⟨eF ay7,dt <| bw.e4 (di.mark 2001 2009 rfl ay5) fun b=>bw.le (ac.F9 5 2001 2009 b rfl rfl) <| bu [] (ac.Ii 1501 2001 1001 2009 b (s5 aR (fm L aR).1 (tW L aR) false) rfl rfl aC rfl) ⟨_,_,fun N=>Ga rfl Tryz.underlying74 rfl N,rfl,?_⟩⟩;exact av (Im (z:=z) (R:=R) (L:=L) (aR:=aR) (db:=db) (lb:=lb) (kd:=0) (fB:=.nilIface) (de:=some b) (pu:=none) (m:=bH) (es:=es) (M:=M) 1 74 (.pointer (some ⟨b,0,none⟩))) ⟨⟨(0,⟨z,R,L,aR,db,ds,es,M,lb,Q,b,.de aR (fm L aR).1 (tW L aR) false,bH⟩),U.symm,.inl ⟨rfl,b,rfl⟩⟩,_,_,_,br,rfl,rfl,aC,rfl⟩
 .have O:=Fn.ch (aht e8 aR U);refine hO [] Tryz.func38 ?_;refine⟨rfl,_,_,fun N=>qs rfl Tryz.underlying73 rfl N,rfl,?_⟩;exact av O ⟨eF ay7,fun h=>⟨⟨(oo L aR,⟨z,R,L,aR,db,ds,es,M,lb,Q,eK,.no,bH⟩),rfl,.inr ⟨U,rfl⟩⟩,_,_,_,br,rfl,rfl,aC,rfl⟩,fun h=>absurd h aB8⟩
def Xm (w:b0) (s:dE) (e:Int) (w':b0):Prop:=e=tZ w.L w.aR s.fp/\((e=0/\ ∃b,w'={w with b:=b,bM:=.pl w.aR s.fp false})\/(e≠0/\w'=w))
theorem aoc (w:b0) (ap:eX w) (s:dE) (V:w.bM= .no):cx Tryz.prog 39 [aq 1401,iq s] (cQ w) [] (X:=m8 (Xm w s)) (fun p=>ab p.1.1) (fun p=>cQ p.1.2):=by
 have e8:=ap.cs;obtain⟨z,R,L,aR,db,ds,es,M,lb,Q,eK,bM,bH⟩:=w;simp only at V e8;subst V
 by_cases U:tZ L aR s.fp=0
 .have O:=Fn.y2 (aJ:=[]) (aO:=vE aR s.fp false) (aiD e8 aR s.fp U) rfl rfl;refine hO [6] Tryz.func39 ?_;refine⟨rfl,_,_,fun N=>qs rfl Tryz.underlying73 rfl N,rfl,?_⟩;refine av O ⟨eF ay7,dt <| bw.e4 (di.mark 2001 2009 rfl ay5) fun b=>bw.le (ac.F9 5 2001 2009 b rfl rfl) <| bu [] (ac.Ii 1501 2001 1001 2009 b (vE aR s.fp false) rfl rfl aC rfl) ⟨_,_,fun N=>Ga rfl Tryz.underlying136 rfl N,rfl,?_⟩⟩;exact av (Im (z:=z) (R:=R) (L:=L) (aR:=aR) (db:=db) (lb:=lb) (kd:=0) (fB:=.nilIface) (de:=none) (pu:=none) (m:=bH) (es:=es) (M:=M) 2 136 (.pointer (some ⟨b,0,none⟩))) ⟨⟨(0,⟨z,R,L,aR,db,ds,es,M,lb,Q,b,.pl aR s.fp false,bH⟩),U.symm,.inl ⟨rfl,b,rfl⟩⟩,_,_,_,br,rfl,rfl,aC,rfl⟩
 .have O:=Fn.ch (aiB e8 aR s.fp U);refine hO [] Tryz.func39 ?_;refine⟨rfl,_,_,fun N=>qs rfl Tryz.underlying73 rfl N,rfl,?_⟩;exact av O ⟨eF ay7,fun h=>⟨⟨(tZ L aR s.fp,⟨z,R,L,aR,db,ds,es,M,lb,Q,eK,.no,bH⟩),rfl,.inr ⟨U,rfl⟩⟩,_,_,_,br,rfl,rfl,aC,rfl⟩,fun h=>absurd h aB8⟩
end
section
def s6 (l:List bd) (nm:aC3):Int:=if gY nm=false then 1 else if(dd l nm).isSome=true\/8<=l.length then 111 else 0
def Ej (l:List bd) (nm:aC3) (on us:Bool) (s g:Int) (es:List (Z al×Z al)) (l':List bd):Prop:=d9 l'/\((s6 l nm=0/\gY nm=true/\dd l nm=none/\l.length < 8/\ ∃a b,l'=l++[⟨nm,a,b,on,us,s,g,es⟩])\/(s6 l nm≠0/\l'=l))
theorem Xn {l:List bd} (h:d9 l) (db:Nat) (nm:aC3) (hn:nm.length<=4294967296) (s g:Int) (es:List (Z al×Z al)) (bv:(0<=s/\s<=4096)/\(1<=g/\g<=64)/\e5 es):
  Fn Tryz.prog 70 [dr db,bT nm,aq 2001] ((1101,.aG (.bx [(db,r4 l)]))::iC 2001 2002 s g es) [] (ab (s6 l nm)) ((1101,.aG (.jf fun p:{l':List bd//Ej l nm true true s g es l'}=>.bx [(db,r4 p.1)]))::iC 2001 2002 s g es):=by
 refine cx.jf (cx.nj [1002,1003,1004] 1101 (?_:cx Tryz.prog 70 [aq 1001,bT nm,aq 2001] (eA l++iC 2001 2002 s g es) [] (fun _=>ab (s6 l nm)) (fun p:{l':List bd//Ej l nm true true s g es l'}=>eA p.1++iC 2001 2002 s g es)) rfl (fun _=>rfl) rfl ⟨rfl,rfl⟩ rfl (fun _=>rfl))
 cases ax:gY nm with
 |false=>
  have e:s6 l nm=1:=if_pos ax;exact(ajW nm hn ax s g es).x.to (fun _=>⟨l,h,.inr ⟨by rw[e];decide,rfl⟩⟩) (fun _=>by rw[e]) fun _=>rfl
 |true=>
  by_cases au:(dd l nm).isSome=true\/8<=l.length
  .have e:s6 l nm=111:=(if_neg (by rw[ax];decide)).trans (if_pos au);exact(ajX nm hn ax au s g es).x.to (fun _=>⟨l,h,.inr ⟨by rw[e];decide,rfl⟩⟩) (fun _=>by rw[e]) fun _=>rfl
  .have e:s6 l nm=0:=(if_neg (by rw[ax];decide)).trans (if_neg au)
   have E:dd l nm=none:=by
    cases aa:dd l nm with
    |none=>rfl
    |some x=>exact absurd (.inl (by rw[aa];rfl)) au
   have G:l.length < 8:=by
    have: ¬8<=l.length:=fun bf=>au (.inr bf)
    omega
   exact(UJ h nm hn ax E G s g es bv).to (fun p=>⟨_,p.2,.inl ⟨e,ax,E,G,_,_,rfl⟩⟩) (fun _=>by rw[e]) fun _=>rfl
theorem OA {z R:Nat} {L:List aL} (h:cb z R L) {aR:aC3} {d:aL} (H:dk L aR=some d):b4 L aR*2 ^z<=2048:=by
 have an3:=(h.gl d (cR H).1).1.eS;have aw:b4 L aR=d.im.t.length:=az9
 have iu:2 ^z<=2 ^3:=Nat.pow_le_pow_right ay5 h.b3;have aA:b4 L aR*2 ^z<=256*8:=av1 ay4 iu;omega
def Iu (w:b0) (s:dE):Int:=if ot ((ek w*2 ^w.z:Nat):Int) s.a=true then s6 w.ds s.nm else 1
abbrev OB (w:b0) (s:dE):bc:=.jf fun p:{l':List bd//(ot ((ek w*2 ^w.z:Nat):Int) s.a=true/\Ej w.ds s.nm true true ((ek w*2 ^w.z:Nat):Int) s.a [] l')\/(ot ((ek w*2 ^w.z:Nat):Int) s.a=false/\l'=w.ds)}=>.bx [(w.db,r4 p.1)]
abbrev aod (w:b0):az:=[oG w.z w.R w.L,p7 w.es w.M,W8 w,W5 w,W6 w,W7 w]
theorem aoe (w:b0) (ap:eX w) (s:dE) (hn:s.nm.length<=1000000):Fn Tryz.prog 37 [aq 1401,iq s] (cQ w) [] (ab (Iu w s)) ((1101,.aG (OB w s))::aod w):=by
 obtain⟨d,H,aN⟩:=ap.dk;have aA:ek w*2 ^w.z<=2048:=OA ap.cs H;have cC:=Ou (db:=w.db) (lb:=w.lb) (kd:=Ec w.bM) (fB:=qW w.b w.bM) (de:=w9 w.b w.bM) (pu:=xa w.b w.bM) (m:=w.bH) (es:=w.es) (M:=w.M) ap.cs H;rw[aN] at cC;have yt:=ap.cs.b3;have kf:((ek w:Nat):Int)*((2 ^((w.z:Nat):Int).toNat:Nat):Int)=((ek w*2 ^w.z:Nat):Int):=by rw[aw9,Int.natCast_mul]
 cases aa:ot ((ek w*2 ^w.z:Nat):Int) s.a with
 |false=>
  have U:Iu w s=1:=if_neg (by rw[aa];decide);have l6:=ahY (((ek w:Nat):Int)*((2 ^((w.z:Nat):Int).toNat:Nat):Int)) s.a (by rw[kf];exact aa);refine aU [1] Tryz.func37 ?_;refine⟨rfl,bw.mR 68 ay5 <| bu [] (br) <| ws rfl rfl rfl cC ?_⟩;exact⟨⟨ay4,ay4,ay4⟩,⟨by rw[kf];omega,by rw[kf];omega⟩,av l6 ⟨eF ay7,fb ⟨_,_,_,ac.aG 1101 (o':=OB w s) rfl fun I F x p h=>⟨⟨w.ds,.inr ⟨aa,rfl⟩⟩,h⟩,rfl,U.symm,aC,rfl⟩⟩⟩
 |true=>
  have U:Iu w s=s6 w.ds s.nm:=if_pos aa;have l6:=MC (((ek w:Nat):Int)*((2 ^((w.z:Nat):Int).toNat:Nat):Int)) s.a (by rw[kf];exact aa);obtain⟨cj,cT⟩:=G' aa;have y3:=Xn ap.ds w.db s.nm ay4 ((ek w*2 ^w.z:Nat):Int) s.a [] ⟨cj,cT,List.Pairwise.nil⟩;rw[<-U,<-kf] at y3;refine aU [1] Tryz.func37 ?_;refine⟨rfl,bw.mR 68 ay5 <| bu [] (br) <| ws rfl rfl rfl cC ?_⟩;refine⟨⟨ay4,ay4,ay4⟩,⟨by rw[kf];omega,by rw[kf];omega⟩,av l6 ⟨eF ay7,dt <| av y3 ⟨eF ay7,?_⟩⟩⟩
  exact⟨_,_,_,ac.aG 1101 (o':=OB w s) rfl fun I F x p h=>(by
   obtain⟨g,h⟩:=h;exact⟨⟨g.1,.inl ⟨aa,by rw[<-kf];exact g.2⟩⟩,h⟩),rfl,rfl,aC,rfl⟩
end
section
theorem OC {Q:List bW} (h:nA Q):(jw Q).length<=100000000:=by
 have E:=yL kA 35000 Q fun b O=>Vu (DW h O)
 have G:=h.len;unfold jw;rw[aq1,qJ];omega
theorem OD {Q:List bW} (h:nA Q) (lb:Nat):Fn Tryz.prog 21 [dr lb] [(1301,.aG (.bx [(lb,r5 Q)]))] [] (bQ .u8 (jw Q)) [(1301,.aG (.bx [(lb,r5 Q)]))]:=
 Fn.nj [1002] 1301 (Vw Q (by have:=h.len;omega) fun b O=>DW h O)
theorem OE {Q:List bW} (h:qY Q):Fn Tryz.prog 84 [bQ .u8 (jw Q)] [] [3001,3002] (.ci [.one (.ptr 3001 0),dz 0]) (lD 3001 3002 Q):=by
 have H:=VK (jw Q) (OC h.tonA) (some (Q.map t8)) (WS h.Ir (fun b O=>DW h.tonA O) h.len);simp only[Oe] at H;exact Fn.aV [(1001,3001),(1002,3002)] H
theorem aof (n:Int) (Ih:2<=n) (hn:rX n=true) (ax:n<=4096) {Q:List bW} (h:nA Q) {es:gb} {M:ee} {Ek:List bW} (hf:my es M Ek):
  Fn Tryz.prog 143 [aq 3001,aq 1201,ab n] (p7 es M::lD 3001 3002 Q) [] (ab (w7 n Q)) ((1201,.aG (.jf fun b:{b:Nat//b∉M.map (·.1)}=>y1 (vB n es Q b.1) ((b.1,t' n 4096 Q b.1)::M)))::lD 3001 3002 Q):=by
 obtain⟨E,G,af⟩:=hf.an1;have J:=cx.aV [(1001,1201),(1002,1202),(1003,1203)] (anv 4096 n Ih hn ax es (M:=M) E G af (Q:=Q) (by have:=h.len;omega) fun b O=>DW h O);exact cx.jf (cx.close (c:=1201) (bp:=nF 1201 1202 1203 4096 es M) (o':=fun b:{b:Nat//b∉M.map (·.1)}=>y1 (vB n es Q b.1) ((b.1,t' n 4096 Q b.1)::M)) [1202,1203] J (fun _ _ _ _ h=>h) (fun _ _ _ _ _ h=>h) rfl fun _=>rfl)
def pp (Q:List bW):Int:=w7 512 Q
def oH (es:gb) (Q:List bW) (b:Nat):gb:=vB 512 es Q b
def oI (Q:List bW) (b:Nat):cn:=t' 512 4096 Q b
theorem OF {Q:List bW} (h:nA Q) {es:gb} {M:ee} {Ek:List bW} (hf:my es M Ek):Fn Tryz.prog 143 [aq 3001,aq 1201,ab 512] (p7 es M::lD 3001 3002 Q) [] (ab (pp Q)) ((1201,.aG (.jf fun b:{b:Nat//b∉M.map (·.1)}=>y1 (oH es Q b.1) ((b.1,oI Q b.1)::M)))::lD 3001 3002 Q):=aof 512 ay5 rfl ay5 h hf
def vG (w:b0) (Q:List bW) (e:Int) (w':b0):Prop:=e=pp Q/\ ∃b,b∉w.M.map (·.1)/\((pp Q=0/\ ∃lb,w'={w with es:=oH w.es Q b,M:=(b,oI Q b)::w.M,lb:=lb,Q:=Q})\/(pp Q≠0/\w'={w with es:=oH w.es Q b,M:=(b,oI Q b)::w.M}))
theorem Xo (w:b0) {Q:List bW} {F:Nat->gb} {S:Nat->cn}
  (J:Fn Tryz.prog 143 [aq 3001,aq 1201,ab 512] (p7 w.es w.M::lD 3001 3002 Q) [] (ab 0) ((1201,.aG (.jf fun b:{b:Nat//b∉w.M.map (·.1)}=>y1 (F b.1) ((b.1,S b.1)::w.M)))::lD 3001 3002 Q)):
  cx Tryz.prog 86 [aq 1401,aq 3001] (cQ w++lD 3001 3002 Q) [] (X:={b:Nat//b∉w.M.map (·.1)}×Nat) (fun _=>ab 0) (fun p=>cQ {w with es:=F p.1.1,M:=(p.1.1,S p.1.1)::w.M,lb:=p.2,Q:=Q}):=by
 refine hO [2,3] Tryz.func86 ?_;exact av J <| bw.e4 (di.jf 1201 rfl) fun b=>bu [3] (br) <| fb <| bw.le (ac.close 3001 (lD 3001 3002 Q) (o:=r5 Q) aC rfl fun I F x p h=>jn.aV [(3001,1001),(3002,1002)] h) <| bw.e4 (di.name 1 3001 rfl rfl) fun lb=>bu [] (ac.trans (ac.put 1301 3001 ay5 rfl rfl) (ac.Ea 1301 rfl)) ⟨(b,lb),_,_,_,br,rfl,rfl,aC,rfl⟩
theorem Xp (w:b0) {Q:List bW} {e:Int} (U:e≠0) {F:Nat->gb} {S:Nat->cn}
  (J:Fn Tryz.prog 143 [aq 3001,aq 1201,ab 512] (p7 w.es w.M::lD 3001 3002 Q) [] (ab e) ((1201,.aG (.jf fun b:{b:Nat//b∉w.M.map (·.1)}=>y1 (F b.1) ((b.1,S b.1)::w.M)))::lD 3001 3002 Q)):
  cx Tryz.prog 86 [aq 1401,aq 3001] (cQ w++lD 3001 3002 Q) [] (X:={b:Nat//b∉w.M.map (·.1)}) (fun _=>ab e) (fun p=>cQ {w with es:=F p.1,M:=(p.1,S p.1)::w.M}):=by
 refine hO [2] Tryz.func86 ?_;exact av J <| bw.e4 (di.jf 1201 rfl) fun b=>bu [] (br) ⟨fun h=>absurd (gd h) U,fun _=>⟨b,_,_,_,br,rfl,rfl,aC,rfl⟩⟩
theorem aog (w:b0) {Q Ek:List bW} (h:nA Q) (hf:my w.es w.M Ek):cx Tryz.prog 86 [aq 1401,aq 3001] (cQ w++lD 3001 3002 Q) [] (X:=m8 (vG w Q)) (fun p=>ab p.1.1) (fun p=>cQ p.1.2):=by
 by_cases U:pp Q=0
 .have J:=OF h hf;rw[U] at J;exact(Xo w (F:=oH w.es Q) (S:=oI Q) J).to (fun p=>⟨(0,{w with es:=oH w.es Q p.1.1,M:=(p.1.1,oI Q p.1.1)::w.M,lb:=p.2,Q:=Q}),U.symm,p.1.1,p.1.2,.inl ⟨U,p.2,rfl⟩⟩) (fun _=>rfl) fun _=>rfl
 .have g': ∀p:{b:Nat//b∉w.M.map (·.1)},vG w Q (pp Q) {w with es:=oH w.es Q p.1,M:=(p.1,oI Q p.1)::w.M}:=fun p=>⟨Eq.refl _,p.1,p.2,.inr ⟨U,Eq.refl _⟩⟩
  have E:=Xp w U (F:=oH w.es Q) (S:=oI Q) (OF h hf);generalize pp Q=e at g' E;exact E.to (fun p=>⟨(e,{w with es:=oH w.es Q p.1,M:=(p.1,oI Q p.1)::w.M}),g' p⟩) (fun _=>rfl) fun _=>rfl
def Xq (w:b0) (s:dE) (e:Int) (w':b0):Prop:=(rW w.Q s.nm≠0/\e=rW w.Q s.nm/\w'=w)\/(rW w.Q s.nm=0/\vG w (qI w.Q s.nm) e w')
theorem aoh (w:b0) (ap:eX w) (s:dE):cx Tryz.prog 44 [aq 1401,iq s] (cQ w) [] (X:=m8 (Xq w s)) (fun p=>ab p.1.1) (fun p=>cQ p.1.2):=by
 have U:=OD ap.q.tonA w.lb;have H:=OE ap.q;have ax:=ak1 w.Q s.nm (by have:=ap.q.len;omega);have J:=aog w (Vj ap.q.tonA s.nm) ap.nJ;refine hO [5] Tryz.func44 ?_;refine⟨rfl,av U <| av H <| av (Fn.aV [(1001,3001),(1002,3002),(1003,3003)] ax) ?_⟩
 by_cases au:rW w.Q s.nm=0
 .exact⟨fun h=>absurd h (by simp[au]),fun _=>bw.iL e3 ay7 <| lP (cx.aV [(3002,3003)] J) fun g=>⟨⟨g.1,.inr ⟨au,g.2⟩⟩,_,_,_,br,rfl,rfl,aC,rfl⟩⟩
 .exact⟨fun h=>⟨⟨(_,w),.inl ⟨au,rfl,rfl⟩⟩,_,_,_,br,rfl,rfl,aC,rfl⟩,fun h=>absurd h (by simp[au])⟩
end
section
theorem OG {l:List bd} (h:d9 l) (db:Nat) {nm:aC3} {e:bd} (U:dd l nm=some e):Fn Tryz.prog 24 [dr db,bT nm] [(1101,.aG (.bx [(db,r4 l)]))] [5001,5002] (.ci [.agg (jD e.nm e.on e.us),dz 0]) ((1101,.aG (.bx [(db,r4 l)]))::iC 5001 5002 e.s e.g e.es):=
 (cx.nj (X:=Unit) (bp:=eA l) (aJ:=[]) (dG:=fun _=>eA l) (aO:=fun _=>iC 5001 5002 e.s e.g e.es) (res:=fun _=>.ci [.agg (jD e.nm e.on e.us),dz 0]) [1002,1003,1004] 1101 (by rw[at6];exact(akd h U).x) rfl (fun _=>rfl) rfl ⟨rfl,rfl⟩ rfl fun _=>rfl).fn
theorem Xr {l:List bd} (db:Nat) {nm:aC3} (U:dd l nm=none):Fn Tryz.prog 24 [dr db,bT nm] [(1101,.aG (.bx [(db,r4 l)]))] [] (.ci [.agg [.d (.str []),.d (.lit false),.d (.lit false),.bJ (.pointer none)],dz 112]) [(1101,.aG (.bx [(db,r4 l)]))]:=
 Fn.nj [1002,1003,1004] 1101 (ake U)
theorem OH {Q:List bW} (h:nA Q) (lb:Nat):Fn Tryz.prog 20 [dr lb] [(1301,.aG (.bx [(lb,r5 Q)]))] [] (bT (t1 Q)) [(1301,.aG (.bx [(lb,r5 Q)]))]:=
 Fn.nj [1002] 1301 (akk Q (by have:=h.len;omega))
theorem aoi {Q:List bW} (h:nA Q) (lb:Nat):Fn Tryz.prog 16 [dr lb] [(1301,.aG (.bx [(lb,r5 Q)]))] [] (bQ .str (Q.map ep)) [(1301,.aG (.bx [(lb,r5 Q)]))]:=
 Fn.nj [1002] 1301 (akK Q (by have:=h.len;omega))
theorem eX.aoj {w:b0} (h:eX w):dd w.ds []=none:=by
 cases aa:dd w.ds [] with
 |none=>rfl
 |some e=>
  obtain⟨E,G⟩:=kx aa;have af:=(h.ea e E).1.nm;rw[G] at af
  cases af
theorem aok (w:b0) (ap:eX w) (s:dE) (au:s.fp=[]):Fn Tryz.prog 75 [aq 1401,iq s] (cQ w) [] (.ci [mP,dz 0]) (cQ w):=by
 have aZ:=Xr w.db ap.aoj;rw[<-au] at aZ;refine aU [] Tryz.func75 ?_;exact⟨rfl,av aZ ⟨rfl,eF ay7,fun _=>bg,fun h=>absurd h (by simp[au])⟩⟩
theorem aol (w:b0) (ap:eX w) (s:dE) (au:s.fp≠[]) (aa:dd w.ds s.fp=none):Fn Tryz.prog 75 [aq 1401,iq s] (cQ w) [] (.ci [mP,dz 112]) (cQ w):=by
 have aZ:=Xr w.db aa;refine aU [] Tryz.func75 ?_;exact⟨rfl,av aZ ⟨rfl,eF ay7,fun h=>absurd h (by simp[au]),fun _=>fb bg⟩⟩
def qZ (w:b0) (e:bd):Int:=if e.us=false then 110 else if t1 w.Q=[] then 181 else 0
theorem aom (w:b0) (ap:eX w) (s:dE) (au:s.fp≠[]) {e:bd} (aa:dd w.ds s.fp=some e) (a1:qZ w e≠0):Fn Tryz.prog 75 [aq 1401,iq s] (cQ w) [] (.ci [mP,dz (qZ w e)]) (cQ w):=by
 have aZ:=OG ap.ds w.db aa;have ak:=OH ap.q.tonA w.lb
 cases a6:e.us with
 |false=>
  have U:qZ w e=110:=if_pos a6;rw[U];refine aU [] Tryz.func75 ?_;exact⟨rfl,av aZ ⟨rfl,eF ay7,fun h=>absurd h (by simp[au]),fun _=>dt ⟨fun _=>bg,fun h=>absurd h (by simp[a6])⟩⟩⟩
 |true=>
  have U:qZ w e=181:=by
   unfold qZ at a1⊢;rw[if_neg (by rw[a6];decide)] at a1⊢
   split
   .rfl
   .rename_i h;rw[if_neg h] at a1;exact absurd rfl a1
  have aT:t1 w.Q=[]:=by
   unfold qZ at U;rw[if_neg (by rw[a6];decide)] at U
   split at U
   .assumption
   .cases U
  rw[U];refine aU [] Tryz.func75 ?_;exact⟨rfl,av aZ ⟨rfl,eF ay7,fun h=>absurd h (by simp[au]),fun _=>dt ⟨fun h=>absurd h (by simp[a6]),fun _=>av ak ⟨fun _=>bg,fun h=>absurd h (by simp[aT])⟩⟩⟩⟩
theorem aon (w:b0) (ap:eX w) (s:dE) (au:s.fp≠[]) {e:bd} (aa:dd w.ds s.fp=some e) (a1:qZ w e=0):Fn Tryz.prog 75 [aq 1401,iq s] (cQ w) [5001,5002] (.ci [.one (.ptr 5001 0),dz 0]) (cQ w++iC 5001 5002 e.s e.g e.es):=by
 have aZ:=OG ap.ds w.db aa;have ak:=OH ap.q.tonA w.lb
 have a6:e.us=true:=by
  unfold qZ at a1
  cases a6:e.us with
  |true=>rfl
  |false=>rw[if_pos a6] at a1;cases a1
 have aT:t1 w.Q≠[]:=fun aT=>by
  unfold qZ at a1;rw[if_neg (by rw[a6];decide),if_pos aT] at a1
  cases a1
 refine aU [] Tryz.func75 ?_;exact⟨rfl,av aZ ⟨rfl,eF ay7,fun h=>absurd h (by simp[au]),fun _=>dt ⟨fun h=>absurd h (by simp[a6]),fun _=>av ak ⟨fun h=>absurd h (by simp[aT]),fun _=>bg⟩⟩⟩⟩
theorem ac.vH {ids:aC4} {K:aY} {B:az} (c j d m b:Nat) {l:List bB} (J:ag B c=some (.cells l)) (V:l[j]? =some (.ptr d 0)) (aA:ag B m=some (.b5 d (fc b))):ac ids K B K ((c,.cells (l.set j (.d (.aM (some b)))))::B):=by
 rintro N C a w ⟨hn,H,ρ,F,aj,ar⟩;have O:=pF (N:=N) (a:=a) aj aA
 obtain⟨bI,a1⟩:=aj.hI (w':=w) (ch:=.cells (l.set j (.d (.aM (some b))))) J (cS.refl _ _) fun I a8=>by
  obtain⟨E,aE,T,G,af⟩:=aj.holds c _ J;refine⟨E,aE,T,G,cc.set (s:=.ptr d 0) (t:=.d (.aM (some b))) (fun v h=>?_) V (cc.mono a8 _ _ (fun _ _=>rfl) af)⟩;have h:v= .pointer (some ⟨(ρ d).bk,0,none⟩):=h;rw[O] at h;exact h
 exact⟨hn,H,ρ,F,bI,ar.mono a1 fun _ _ _=>rfl⟩
theorem ac.vI {ids:aC4} {K:aY} {B:az} (c m b:Nat) {o:bc} (J:ag B c=some (.aG o)) (aA:ag B m=some (.b5 c (fc b))):ac ids K B K ((c,.aG (o.at b))::B):=by
 rintro N C a w ⟨hn,H,ρ,F,aj,ar⟩;have O:=pF (N:=N) (a:=a) aj aA;obtain⟨bI,a1⟩:=aj.hI (w':=w) (ch:=.aG (o.at b)) J (cS.refl _ _) fun I a8=>⟨O,o.cp _ _ _ _ _ _ (aj.holds c _ J) a8 (fun _ _=>rfl) (aq0 _)⟩
 exact⟨hn,H,ρ,F,bI,ar.mono a1 fun _ _ _=>rfl⟩
abbrev vJ (nm pa:aC3) (bi aQ:Int) (fp:aC3) (eo:Option (Nat×Ed)):Made:=⟨(nm,pa,bi,aQ,([]:List ky)),fp,eo⟩
def r7 (w:b0) (s:dE):Bool:= !gY s.nm||(w.Q.map ep).contains s.nm
def OI (w:b0) (s:dE) (e:Int) (w':b0):Prop:=
 (r7 w s=true/\e=1/\w'=w)\/(r7 w s=false/\
  (
   (s.fp=[]/\((s.l < 0/\e=1/\w'=w)\/(0<=s.l/\e=0/\ ∃b,w'={w with b:=b,bM:=.pu w.aR ((ek w:Nat):Int) s.l (ih (fun _=>true) w.z (ek w*2 ^w.z)) [] false false,bH:=vJ s.nm [] w.z ((ek w:Nat):Int) s.fp none})))\/
   (s.fp≠[]/\dd w.ds s.fp=none/\e=112/\w'=w)\/
   (s.fp≠[]/\ ∃x,dd w.ds s.fp=some x/\((qZ w x≠0/\e=qZ w x/\w'=w)\/(qZ w x=0/\((s.l < 0/\e=1/\w'=w)\/(0<=s.l/\e=0/\ ∃b ke,w'={w with b:=b,bM:=.pu w.aR ((ek w:Nat):Int) s.l (ih (mZ x.g x.es) w.z (ek w*2 ^w.z)) [] false false,bH:=vJ s.nm (t1 w.Q) w.z ((ek w:Nat):Int) s.fp (some (ke,((ek w*2 ^w.z:Nat):Int),1,[]))})))))))
theorem aoo {s:Int} (au:0<=s) (E:s<=4096):ot s 1=true:=by
 unfold ot;simp[au,E]
theorem aop (w:b0) (ap:eX w) (s:dE) (V:w.bM= .no) (hn:s.nm.length<=1000000):cx Tryz.prog 40 [aq 1401,iq s] (cQ w) [] (X:=m8 (OI w s)) (fun p=>ab p.1.1) (fun p=>cQ p.1.2):=by
 obtain⟨d,H,aN⟩:=ap.dk;have e8:=ap.cs;have ak:=aoi ap.q.tonA w.lb;have DI:=OH ap.q.tonA w.lb;have ax:=qB s.nm ay4;have y4:=LJ (w.Q.map ep) s.nm (by rw[ar1];have:=ap.q.len;omega);have aoq:=fun au=>aok w ap s au
 have KR:=fun au aa=>aol w ap s au aa
 have A6:=fun au e (aa:dd w.ds s.fp=some e) a1=>aom w ap s au aa a1
 have aor:=fun au e (aa:dd w.ds s.fp=some e) a1=>aon w ap s au aa a1
 have cC:=fun(fB:Value) (de pu:Option Nat)=>Ou (db:=w.db) (lb:=w.lb) (kd:=0) (fB:=fB) (de:=de) (pu:=pu) (m:=w.bH) (es:=w.es) (M:=w.M) ap.cs H
 have pg:=fun e (aa:dd w.ds s.fp=some e)=>ap.ea e (kx aa).1
 have aA:ek w*2 ^w.z<=2048:=OA ap.cs H;have aos:b4 w.L w.aR=ek w:=rfl;rw[aN] at cC;rw[aos] at pg
 cases kn:gY s.nm with
 |false=>
  have yO:r7 w s=true:=by unfold r7;rw[kn];rfl
  obtain⟨z,R,L,aR,db,ds,es,M,lb,Q,eK,bM,bH⟩:=w;simp only at V;subst V;refine hO [] Tryz.func40 ?_;refine⟨rfl,_,_,fun N=>qs rfl Tryz.underlying73 rfl N,rfl,?_⟩;exact av ax ⟨fun _=>⟨eF ay7,⟨(1,_),.inl ⟨yO,rfl,rfl⟩⟩,_,_,_,br,rfl,rfl,aC,rfl⟩,fun h=>absurd h (by simp[kn])⟩
 |true=>
 cases hC:(w.Q.map ep).contains s.nm with
 |true=>
  have yO:r7 w s=true:=by unfold r7;rw[kn,hC];rfl
  obtain⟨z,R,L,aR,db,ds,es,M,lb,Q,eK,bM,bH⟩:=w;simp only at V;subst V;refine hO [] Tryz.func40 ?_;refine⟨rfl,_,_,fun N=>qs rfl Tryz.underlying73 rfl N,rfl,?_⟩;exact av ax ⟨fun h=>absurd h (by simp[kn]),fun _=>av ak <| av y4 ⟨eF ay7,fun _=>⟨⟨(1,_),.inl ⟨yO,rfl,rfl⟩⟩,_,_,_,br,rfl,rfl,aC,rfl⟩,fun h=>absurd (hC.symm.trans h) ay5⟩⟩
 |false=>
 have Bi:r7 w s=false:=by unfold r7;rw[kn,hC];rfl
 by_cases au:s.fp=[]
 .have cf:=aoq au
  by_cases q0:s.l < 0
  .have O:=Fn.ch (aie e8 H s.l q0);obtain⟨z,R,L,aR,db,ds,es,M,lb,Q,eK,bM,bH⟩:=w;simp only at V;subst V;refine hO [] Tryz.func40 ?_;refine⟨rfl,_,_,fun N=>qs rfl Tryz.underlying73 rfl N,rfl,?_⟩;exact av ax ⟨fun h=>absurd h (by simp[kn]),fun _=>av ak <| av y4 ⟨eF ay7,fun h=>absurd (hC.symm.trans h) ay5,fun _=>av cf <| dt <| av O ⟨eF ay7,fb ⟨⟨(1,_),.inr ⟨Bi,.inl ⟨au,.inl ⟨q0,rfl,rfl⟩⟩⟩⟩,_,_,_,br,rfl,rfl,aC,rfl⟩⟩⟩⟩
  .have q0:0<=s.l:=az2
   have O:=Fn.y2 (aJ:=[]) (aO:=nI w.z w.aR (d.im.t.length:Nat) s.l (ih (fun _=>true) w.z (d.im.t.length*2 ^w.z)) [] false false) (aig e8 H s.l q0) rfl rfl;rw[aN] at O;obtain⟨z,R,L,aR,db,ds,es,M,lb,Q,eK,bM,bH⟩:=w;simp only at V;subst V;refine hO [11,12,15] Tryz.func40 ?_;refine⟨rfl,_,_,fun N=>qs rfl Tryz.underlying73 rfl N,rfl,?_⟩;refine av ax ⟨fun h=>absurd h (by simp[kn]),fun _=>av ak <| av y4 ⟨eF ay7,fun h=>absurd (hC.symm.trans h) ay5,fun _=>av cf <| dt <| av O ⟨eF ay7,dt <| bw.mR 68 ay5 <| bu [12,15] (br) <| ws rfl rfl rfl (cC .nilIface none none) ⟨eF ay7,bu [15] (ac.trans (ac.vD 1401 16 rfl rfl) (ac.trans (ac.sJ 1401 (l':=Ik z aR db lb 0 .nilIface none none (vJ s.nm [] z ((ek ⟨z,R,L,aR,db,ds,es,M,lb,Q,eK,.no,bH⟩:Nat):Int) s.fp none)) rfl aC) (ac.W2 1601 rfl))) <| bw.e4 (di.mark 2001 2009 rfl ay5) fun b=>bw.le (ac.F9 7 2001 2009 b rfl rfl) <| bu [] (ac.Ii 1501 2001 1001 2009 b (nI z aR ((ek ⟨z,R,L,aR,db,ds,es,M,lb,Q,eK,.no,bH⟩:Nat):Int) s.l (ih (fun _=>true) z (ek ⟨z,R,L,aR,db,ds,es,M,lb,Q,eK,.no,bH⟩*2 ^z)) [] false false) rfl rfl aC rfl) ⟨_,_,fun N=>Ga rfl Tryz.underlying75 rfl N,rfl,?_⟩⟩⟩⟩⟩;exact av (Im (z:=z) (R:=R) (L:=L) (aR:=aR) (db:=db) (lb:=lb) (kd:=0) (fB:=.nilIface) (de:=none) (pu:=some b) (m:=(vJ s.nm [] z ((ek ⟨z,R,L,aR,db,ds,es,M,lb,Q,eK,.no,bH⟩:Nat):Int) s.fp none)) (es:=es) (M:=M) 3 75 (.pointer (some ⟨b,0,none⟩))) ⟨⟨(0,⟨z,R,L,aR,db,ds,es,M,lb,Q,b,.pu aR ((ek ⟨z,R,L,aR,db,ds,es,M,lb,Q,eK,.no,bH⟩:Nat):Int) s.l (ih (fun _=>true) z (ek ⟨z,R,L,aR,db,ds,es,M,lb,Q,eK,.no,bH⟩*2 ^z)) [] false false,(vJ s.nm [] z ((ek ⟨z,R,L,aR,db,ds,es,M,lb,Q,eK,.no,bH⟩:Nat):Int) s.fp none)⟩),.inr ⟨Bi,.inl ⟨au,.inr ⟨q0,rfl,b,rfl⟩⟩⟩⟩,_,_,_,br,rfl,rfl,aC,rfl⟩
 .cases aa:dd w.ds s.fp with
  |none=>
   have cf:=KR au aa;obtain⟨z,R,L,aR,db,ds,es,M,lb,Q,eK,bM,bH⟩:=w;simp only at V;subst V;refine hO [] Tryz.func40 ?_;refine⟨rfl,_,_,fun N=>qs rfl Tryz.underlying73 rfl N,rfl,?_⟩;exact av ax ⟨fun h=>absurd h (by simp[kn]),fun _=>av ak <| av y4 ⟨eF ay7,fun h=>absurd (hC.symm.trans h) ay5,fun _=>av cf <| fb ⟨⟨(112,_),.inr ⟨Bi,.inr (.inl ⟨au,aa,rfl,rfl⟩)⟩⟩,_,_,_,br,rfl,rfl,aC,rfl⟩⟩⟩
  |some x=>
   by_cases a1:qZ w x=0
   .have cf:=aor au x aa a1;obtain⟨hx,sn⟩:=pg x aa;obtain⟨g1,g2⟩:=G' hx.ok
    by_cases q0:s.l < 0
    .have O:=Fn.y2 (aJ:=yx x.s x.g x.es) (aO:=yx x.s x.g x.es) (aii e8 H s.l q0 x.s x.g x.es) rfl rfl;obtain⟨z,R,L,aR,db,ds,es,M,lb,Q,eK,bM,bH⟩:=w;simp only at V;subst V;refine hO [] Tryz.func40 ?_;refine⟨rfl,_,_,fun N=>qs rfl Tryz.underlying73 rfl N,rfl,?_⟩;exact av ax ⟨fun h=>absurd h (by simp[kn]),fun _=>av ak <| av y4 ⟨eF ay7,fun h=>absurd (hC.symm.trans h) ay5,fun _=>av cf <| dt <| av O ⟨eF ay7,fb ⟨⟨(1,_),.inr ⟨Bi,.inr (.inr ⟨au,x,aa,.inr ⟨a1,.inl ⟨q0,rfl,rfl⟩⟩⟩)⟩⟩,_,_,_,br,rfl,rfl,aC,rfl⟩⟩⟩⟩
    .have q0:0<=s.l:=az2
     have O:=Fn.y2 (aJ:=yx ((d.im.t.length*2 ^w.z:Nat):Int) x.g x.es) (aO:=nI w.z w.aR (d.im.t.length:Nat) s.l (ih (mZ x.g x.es) w.z (d.im.t.length*2 ^w.z)) [] false false++yx ((d.im.t.length*2 ^w.z:Nat):Int) x.g x.es) (aik e8 H s.l q0 x.g x.es g2.1) rfl rfl;rw[aN] at O;rw[sn] at cf;have D8:=MD ((ek w*2 ^w.z:Nat):Int) x.g x.es;have Mj:=MC ((ek w*2 ^w.z:Nat):Int) 1 (aoo ay4 ay4);obtain⟨z,R,L,aR,db,ds,es,M,lb,Q,eK,bM,bH⟩:=w;simp only at V;subst V;refine hO [11,12,15] Tryz.func40 ?_;refine⟨rfl,_,_,fun N=>qs rfl Tryz.underlying73 rfl N,rfl,?_⟩;refine av ax ⟨fun h=>absurd h (by simp[kn]),fun _=>av ak <| av y4 ⟨eF ay7,fun h=>absurd (hC.symm.trans h) ay5,fun _=>av cf <| dt <| av O ⟨eF ay7,dt <| bw.mR 68 ay5 <| bu [12,15] (br) <| ws rfl rfl rfl (cC .nilIface none none) ⟨eF ay7,bu [15] (ac.trans (ac.sJ 1401 (l':=(Ik z aR db lb 0 .nilIface none none (vJ s.nm [] z ((ek ⟨z,R,L,aR,db,ds,es,M,lb,Q,eK,.no,bH⟩:Nat):Int) s.fp none)).set 16 (.bJ (.pointer none))) rfl aC) (ac.W2 1601 rfl)) <| av DI <| av (Fn.aV [(1001,5001),(1002,5002)] D8) <| av (Fn.aV [(2001,6001),(2002,6002)] Mj) <| bw.e4 (di.mark 6001 6009 rfl ay5) fun ke=>bw.e4 (di.mark 2001 2009 rfl ay5) fun b=>bw.le (ac.vH 1401 16 6001 6009 ke rfl rfl rfl) <| bw.le (ac.close 6001 (iC 6001 6002 ((ek ⟨z,R,L,aR,db,ds,es,M,lb,Q,eK,.no,bH⟩*2 ^z:Nat):Int) 1 []) (o:=fo ((ek ⟨z,R,L,aR,db,ds,es,M,lb,Q,eK,.no,bH⟩*2 ^z:Nat):Int) 1 []) aC rfl fun I F x p h=>jn.aV [(6001,1001),(6002,1002)] h) <| bw.le (ac.trans (ac.vI 6001 6009 ke rfl rfl) (ac.put 1601 6001 ay5 rfl rfl)) <| bw.le (ac.F9 7 2001 2009 b rfl rfl) <| bu [] (ac.Ii 1501 2001 1001 2009 b (nI z aR ((ek ⟨z,R,L,aR,db,ds,es,M,lb,Q,eK,.no,bH⟩:Nat):Int) s.l (ih (mZ x.g x.es) z (ek ⟨z,R,L,aR,db,ds,es,M,lb,Q,eK,.no,bH⟩*2 ^z)) [] false false) rfl rfl aC rfl) ⟨_,_,fun N=>Ga rfl Tryz.underlying75 rfl N,rfl,?_⟩⟩⟩⟩⟩;exact av (Im (z:=z) (R:=R) (L:=L) (aR:=aR) (db:=db) (lb:=lb) (kd:=0) (fB:=.nilIface) (de:=none) (pu:=some b) (m:=(vJ s.nm (t1 Q) z ((ek ⟨z,R,L,aR,db,ds,es,M,lb,Q,eK,.no,bH⟩:Nat):Int) s.fp (some (ke,((ek ⟨z,R,L,aR,db,ds,es,M,lb,Q,eK,.no,bH⟩*2 ^z:Nat):Int),1,[])))) (es:=es) (M:=M) 3 75 (.pointer (some ⟨b,0,none⟩))) ⟨⟨(0,⟨z,R,L,aR,db,ds,es,M,lb,Q,b,.pu aR ((ek ⟨z,R,L,aR,db,ds,es,M,lb,Q,eK,.no,bH⟩:Nat):Int) s.l (ih (mZ x.g x.es) z (ek ⟨z,R,L,aR,db,ds,es,M,lb,Q,eK,.no,bH⟩*2 ^z)) [] false false,(vJ s.nm (t1 Q) z ((ek ⟨z,R,L,aR,db,ds,es,M,lb,Q,eK,.no,bH⟩:Nat):Int) s.fp (some (ke,((ek ⟨z,R,L,aR,db,ds,es,M,lb,Q,eK,.no,bH⟩*2 ^z:Nat):Int),1,[])))⟩),.inr ⟨Bi,.inr (.inr ⟨au,x,aa,.inr ⟨a1,.inr ⟨q0,rfl,b,ke,rfl⟩⟩⟩)⟩⟩,_,_,_,br,rfl,rfl,aC,rfl⟩
   .have cf:=A6 au x aa a1;obtain⟨z,R,L,aR,db,ds,es,M,lb,Q,eK,bM,bH⟩:=w;simp only at V;subst V;refine hO [] Tryz.func40 ?_;refine⟨rfl,_,_,fun N=>qs rfl Tryz.underlying73 rfl N,rfl,?_⟩;exact av ax ⟨fun h=>absurd h (by simp[kn]),fun _=>av ak <| av y4 ⟨eF ay7,fun h=>absurd (hC.symm.trans h) ay5,fun _=>av cf ⟨fun _=>⟨⟨(_,_),.inr ⟨Bi,.inr (.inr ⟨au,x,aa,.inl ⟨a1,rfl,rfl⟩⟩)⟩⟩,_,_,_,br,rfl,rfl,aC,rfl⟩,fun h=>absurd h (by simp[a1])⟩⟩⟩
end
section
theorem Xs (A B:az) (h:((cr A).all fun d=>(ag B d).isNone)=true) (c:Nat):ag (B++A) c=ag (A++B) c:=by
 rw[iN,iN]
 cases ha:ag A c with
 |none=>cases ag B c <;>rfl
 |some x=>
  have:=as4.1 h c (gv.2 ⟨x,ha⟩);rw[ax8.1 this]
theorem Fn.swap {P:Program} {f:FuncId} {args:List aP} {A B A' B':az} {bb:aC4} {res:aP} (h:Fn P f args (A++B) bb res (A'++B')) (E:((cr A).all fun d=>(ag B d).isNone)=true) (G:((cr A').all fun d=>(ag B' d).isNone)=true):Fn P f args (B++A) bb res (B'++A'):=
 Fn.Il h (Xs A B E) (Xs A' B' G)
theorem aot {s g bC g2:Int} {es eB ei:List (Z al×Z al)} {b:Nat} {r:Int} (h:Fn Tryz.prog 124 [aq 1001,aq 3001] (Hm s g es bC g2 ei) [] (ab r) (Hm s g eB bC g2 ei)):
  Fn Tryz.prog 124 [aq 1001,dr b] (iC 1001 1002 s g es++[(1601,.aG (.bx [(b,fo bC g2 ei)]))]) [] (ab r) (iC 1001 1002 s g eB++[(1601,.aG (.bx [(b,fo bC g2 ei)]))]):=by
 have cI:Fn Tryz.prog 124 [aq 1001,aq 3001] ((3001,.aG (fo bC g2 ei))::iC 1001 1002 s g es) [] (ab r) ((3001,.aG (fo bC g2 ei))::iC 1001 1002 s g eB):=
  Fn.close (bp:=iC 3001 3002 bC g2 ei) (dG:=iC 3001 3002 bC g2 ei) [3002] (Fn.swap (A:=iC 1001 1002 s g es) (A':=iC 1001 1002 s g eB) h rfl rfl) (fun _ _ _ _ h=>jn.aV [(1001,3001),(1002,3002)] h) (fun _ _ _ _ h=>jn.aV [(3001,1001),(3002,1002)] h) rfl rfl
 have cE:Fn Tryz.prog 124 [aq 1001,aq 3001] ((3001,.aG ((fo bC g2 ei).at b))::iC 1001 1002 s g es) [] (ab r) ((3001,.aG ((fo bC g2 ei).at b))::iC 1001 1002 s g eB):=Fn.anH (b:=b) cI rfl
 refine Fn.via (X:=Unit) (args':=fun _=>[aq 1001,aq 3001]) (uQ:=fun _=>(3001,.aG ((fo bC g2 ei).at b))::(1601,.aG (.bx (kr [(b,fo bC g2 ei)] b)))::iC 1001 1002 s g es) (nc:=fun _=>(3001,.aG ((fo bC g2 ei).at b))::iC 1001 1002 s g es) (jo:=fun _=>[]) (res':=fun _=>ab r) (n2:=fun _=>(3001,.aG ((fo bC g2 ei).at b))::iC 1001 1002 s g eB) cE.1 2 rfl ?_ (fun _=>cE) (fun _=>aC) (fun _=>rfl) (fun _=>rfl)
  (fun _=>⟨ab r,iC 1001 1002 s g eB++[(1601,.aG (.bx (e' [(b,fo bC g2 ei)] b (fo bC g2 ei))))],?_,rfl,⟨rfl,rfl,?_,trivial⟩,rfl⟩)
 .rintro N C a w aw
  have g8:ac (cr (iC 1001 1002 s g es++[(1601,.aG (.bx [(b,fo bC g2 ei)]))])) (oY 0 [aq 1001,dr b]) (iC 1001 1002 s g es++[(1601,.aG (.bx [(b,fo bC g2 ei)]))]) (oY 0 [aq 1001,aq 3001]) ((3001,.aG ((fo bC g2 ei).at b))::(1601,.aG (.bx (kr [(b,fo bC g2 ei)] b)))::iC 1001 1002 s g es):=
   ac.trans (ac.CK 1601 3001 b rfl (if_pos rfl) rfl) (ac.trans (ac.Rx 1 3001 b rfl rfl) (ac.sub aC aC))
  exact⟨(),g8 N C a w aw⟩
 .exact ac.trans (ac.RC (o:=fo bC g2 ei) (L:=[(b,fo bC g2 ei)]) 1601 3001 b rfl rfl (if_pos rfl) ay5) (ac.sub aC aC)
 .show some (ba.aG (.bx (e' [(b,fo bC g2 ei)] b (fo bC g2 ei))))=_;rw[show e' [(b,fo bC g2 ei)] b (fo bC g2 ei)=[(b,fo bC g2 ei)] from if_pos rfl]
theorem Xt {nm:aC3} {u:bd->bd} (a6: ∀x,(u x).nm=x.nm): ∀{l:List bd} {e:bd},dd l nm=some e->dd (mj l nm u) nm=some (u e)
 | [],_,h=>by cases h
 |d::l,e,h=>by
  rw[wU] at h;show dd ((if d.nm=nm then u d else d)::mj l nm u) nm=_;rw[wU]
  by_cases c:d.nm=nm
  .rw[if_pos c] at h;injection h with h
   subst h;rw[if_pos c,if_pos ((a6 d).trans c)]
  .rw[if_neg c] at h;rw[if_neg c,if_neg c];exact Xt a6 h
theorem Xu {nm:aC3}: ∀{l:List bd} {e:bd},(l.map (·.nm)).Nodup->dd l nm=some e->dd (ld l nm) nm=none/\(ld l nm).length < l.length
 | [],_,_,h=>by cases h
 |d::l,e,hn,h=>by
  rw[ar4,as8] at hn;rw[wU] at h;unfold ld
  by_cases c:d.nm=nm
  .rw[if_pos c];refine⟨?_,Nat.lt_succ_self _⟩
   cases aa:dd l nm with
   |none=>rfl
   |some x=>
    obtain⟨cj,cT⟩:=kx aa;exact absurd (by rw[c,<-cT];exact ar8 cj) hn.1
  .rw[if_neg c] at h⊢;obtain⟨cj,cT⟩:=Xu hn.2 h;exact⟨by rw[wU,if_neg c];exact cj,by simp only[at8];omega⟩
abbrev gQ (m:Made) (g:List (Nat×aC3)):bW:=(ep m.f4,dA m.f4,c2 m.f4,eH m.f4,ou g)
abbrev p9 (m:Made) (g:List (Nat×aC3)):Made:=⟨gQ m g,m.eW,m.eo⟩
def Iv (ds:List bd) (eW:aC3) (x:bd) (bC g2:Int) (ei:List (Z al×Z al)) (a b:Nat):List bd:=mj (ld (mj ds eW ow) eW++[⟨eW,a,b,true,true,x.s,x.g,AT x.s x.g (ow x).es (sM bC g2 ei)⟩]) eW fun e=>{e with on:=x.on}
def vK (w:b0) (g:List (Nat×aC3)) (e:Int) (w':b0):Prop:=(gG w.Q (gQ w.bH g)≠0/\e=gG w.Q (gQ w.bH g)/\w'={w with bH:=p9 w.bH g})\/
 (gG w.Q (gQ w.bH g)=0/\ ∃e6,vG {w with bH:=p9 w.bH g} (g4 w.Q (gQ w.bH g)) e e6/\
  (((e≠0\/w.bH.eo=none\/dd w.ds w.bH.eW=none)/\w'=e6)\/(e=0/\ ∃ke bC g2 ei x a b,w.bH.eo=some (ke,bC,g2,ei)/\dd w.ds w.bH.eW=some x/\d9 (Iv w.ds w.bH.eW x bC g2 ei a b)/\w'={e6 with ds:=Iv w.ds w.bH.eW x bC g2 ei a b})))
theorem Xv {z R:Nat} {L:List aL} {nm:aC3} {l:aC4} {g:List (Nat×aC3)} (ai:ga z R L nm l g) (m:Made) (p:ky) (h:p∈cB (gQ m g)):(mo p).length<=4294967296:=by
 obtain⟨k,_,rfl⟩:=as9.1 (show p∈ou g from h)
 exact MH k g fun q aT=>by
  have E:=(ai.gt q aT).2;have G:2 ^z<=2 ^3:=Nat.pow_le_pow_right ay5 ai.cs.b3;omega
theorem aou (w:b0) (ap:lE w) {nm:aC3} {n rm:Int} {l:aC4} {g:List (Nat×aC3)} {over:Bool} (V:w.bM= .pu nm n rm l g over true) (ai:ga w.z w.R w.L nm l g) (qq:gY (ep w.bH.f4)=true) (eQ:gG w.Q (gQ w.bH g)≠0):
  cx Tryz.prog 79 [aq 1401] (cQ w) [] (X:=m8 (vK w g)) (fun p=>ab p.1.1) (fun p=>cQ p.1.2):=by
 have jm:=Xd (b:=w.b) (n:=n) (rm:=rm) (over:=over) ai;have U:=OD ap.q.tonA w.lb;have H:=OE ap.q;have T9:=ai.ML;have qG:=Nb w.Q (gQ w.bH g) (by have:=ap.q.len;omega) (by have:=Dg qq;show(ep w.bH.f4).length<=_;omega) (by show(ou g).length<=_;rw[MG];omega) (Xv ai w.bH);obtain⟨z,R,L,aR,db,ds,es,M,lb,Q,eK,bM,bH⟩:=w;simp only at V;subst V;refine hO [] Tryz.func79 ?_;refine av jm <| av U <| av H <| av (Fn.aV [(1001,3001),(1002,3002),(1003,3003)] qG) ⟨fun h=>absurd (gd h) eQ,fun _=>?_⟩;exact⟨fun _=>⟨eF ay7,⟨(_,⟨z,R,L,aR,db,ds,es,M,lb,Q,eK,.pu nm n rm l g over true,p9 bH g⟩),.inl ⟨eQ,rfl,rfl⟩⟩,_,_,_,br,rfl,rfl,aC,rfl⟩,fun h=>absurd h (by simp only at eQ;simp[eQ])⟩
theorem aov {w:b0} {g:List (Nat×aC3)} (eQ:gG w.Q (gQ w.bH g)=0) (a1:pp (g4 w.Q (gQ w.bH g))=0) {b lb:Nat} (O:b∉w.M.map (·.1)) {ke:Nat} {bC g2:Int} {ei:List (Z al×Z al)} {x:bd} (aw:w.bH.eo=some (ke,bC,g2,ei)) (aa:dd w.ds w.bH.eW=some x) {l':List bd}
  (tT:s6 (ld (mj w.ds w.bH.eW ow) w.bH.eW) w.bH.eW=0) (ak:Ej (ld (mj w.ds w.bH.eW ow) w.bH.eW) w.bH.eW true true x.s x.g (AT x.s x.g (ow x).es (sM bC g2 ei)) l'):
  vK w g 0 {w with bH:=p9 w.bH g,es:=oH w.es (g4 w.Q (gQ w.bH g)) b,M:=(b,oI (g4 w.Q (gQ w.bH g)) b)::w.M,lb:=lb,Q:=g4 w.Q (gQ w.bH g),ds:=mj l' w.bH.eW fun e=>{e with on:=x.on}}:=by
 rcases ak.2 with⟨_,_,_,_,a,d5,rfl⟩ |⟨h,_⟩
 .refine .inr ⟨eQ,{w with bH:=p9 w.bH g,es:=oH w.es (g4 w.Q (gQ w.bH g)) b,M:=(b,oI (g4 w.Q (gQ w.bH g)) b)::w.M,lb:=lb,Q:=g4 w.Q (gQ w.bH g)},⟨a1.symm,b,O,.inl ⟨a1,lb,?_⟩⟩,.inr ⟨rfl,ke,bC,g2,ei,x,a,d5,aw,aa,ak.1.UK (fun e=>{e with on:=x.on}) w.bH.eW (fun _=>⟨rfl,rfl,rfl⟩) fun _ h=>h,?_⟩⟩
  .with_reducible rfl
  .unfold Iv
   with_reducible rfl
 .exact absurd tT h
theorem aow (w:b0) (ap:lE w) {nm:aC3} {n rm:Int} {l:aC4} {g:List (Nat×aC3)} {over:Bool} (V:w.bM= .pu nm n rm l g over true) (ai:ga w.z w.R w.L nm l g) (qq:gY (ep w.bH.f4)=true) (eQ:gG w.Q (gQ w.bH g)=0):
  cx Tryz.prog 79 [aq 1401] (cQ w) [] (X:=m8 (vK w g)) (fun p=>ab p.1.1) (fun p=>cQ p.1.2):=by
 have jm:=Xd (b:=w.b) (n:=n) (rm:=rm) (over:=over) ai;have U:=OD ap.q.tonA w.lb;have H:=OE ap.q;have T9:=ai.ML;have qG:=Nb w.Q (gQ w.bH g) (by have:=ap.q.len;omega) (by have:=Dg qq;show(ep w.bH.f4).length<=_;omega) (by show(ou g).length<=_;rw[MG];omega) (Xv ai w.bH);rw[eQ] at qG;have J:=OF (ap.q.tonA.add (gQ w.bH g)) ap.nJ;have dH:=Fn.nj (b:=w.db) [1002,1003,1004] 1101 (aj7 ap.ds w.bH.eW);have Bj:d9 (mj w.ds w.bH.eW ow):=ap.ds.UK ow w.bH.eW (fun _=>⟨rfl,rfl,rfl⟩) fun e k=>⟨k.1,k.2.1,Hn k.2.2 _ _⟩
 have pg:=ap.ea;have rU:=ap.eo;have hX:=ap.ds;obtain⟨aqR,aox,_⟩:=ap.dk;have aA:=OA ap.cs aox;obtain⟨z,R,L,aR,db,ds,es,M,lb,Q,eK,bM,bH⟩:=w;obtain⟨f4,eW,eo⟩:=bH;simp only at V eQ pg rU Bj hX aA;subst V
 by_cases a1:pp (g4 Q (gQ ⟨f4,eW,eo⟩ g))=0
 .simp only[a1] at J;have J:=Xo ⟨z,R,L,aR,db,ds,es,M,lb,Q,eK,.pu nm n rm l g over true,p9 ⟨f4,eW,eo⟩ g⟩ (F:=oH es (g4 Q (gQ ⟨f4,eW,eo⟩ g))) (S:=oI (g4 Q (gQ ⟨f4,eW,eo⟩ g))) J
  cases eo with
  |none=>
   refine hO [5,6] Tryz.func79 ?_;refine av jm <| av U <| av H <| av (Fn.aV [(1001,3001),(1002,3002),(1003,3003)] qG) <| fb <| bw.iL e3 ay7 ⟨_,_,_,fun g=>_,fun g=>_,cx.aV [(3002,3003)] J,aC,rfl,fun _=>rfl,fun x=>?_⟩;obtain⟨⟨b,O⟩,El⟩:=x;exact bu [] (br) <| dt ⟨fun _ h=>az4,fun _=>⟨eF ay7,⟨(0,_),.inr ⟨eQ,_,⟨a1.symm,b,O,.inl ⟨a1,El,rfl⟩⟩,.inl ⟨.inr (.inl rfl),rfl⟩⟩⟩,_,_,_,br,rfl,rfl,aC,rfl⟩⟩
  |some p=>
   obtain⟨ke,bC,g2,ei⟩:=p;obtain⟨cj,cT,eg⟩:=rU _ rfl;have cj:bC=((b4 L aR*2 ^z:Nat):Int):=cj;have cT:g2=1:=cT
   cases aa:dd ds eW with
   |none=>
    simp only[Hv aa,Ht aa] at dH;refine hO [5,6] Tryz.func79 ?_;refine av jm <| av U <| av H <| av (Fn.aV [(1001,3001),(1002,3002),(1003,3003)] qG) <| fb <| bw.iL e3 ay7 ⟨_,_,_,fun g=>_,fun g=>_,cx.aV [(3002,3003)] J,aC,rfl,fun _=>rfl,fun y=>?_⟩;obtain⟨⟨b,O⟩,El⟩:=y;exact bu [] (br) <| dt ⟨fun _ _=>av dH ⟨eF ay7,fb ⟨⟨(0,_),.inr ⟨eQ,_,⟨a1.symm,b,O,.inl ⟨a1,El,rfl⟩⟩,.inl ⟨.inr (.inr aa),rfl⟩⟩⟩,_,_,_,br,rfl,rfl,aC,rfl⟩⟩,fun h=>az4⟩
   |some x=>
    simp only[Hu aa] at dH;obtain⟨BW,sn⟩:=pg x (kx aa).1;obtain⟨cA,cF,dF,fj⟩:=hX.ok x (kx aa).1;have F3:eW.length<=64:=(kx aa).2▸fj;have bv:gY eW=true:=(kx aa).2▸BW.nm;have ct:=Xt (u:=ow) (fun _=>rfl) aa;have aZ:=OG Bj db ct;have Du:=aot (b:=ke) (aju x.s x.g (ow x).es bC g2 ei cA cF ay4 ay4 ay4);have aoy:=Fn.nj (b:=db) [1002,1003,1004] 1101 (aj9 Bj eW);obtain⟨eD,bt⟩:=Xu Bj.jd ct;have y3:=Xn (Bj.ng eW) db eW ay4 x.s x.g (AT x.s x.g (ow x).es (sM bC g2 ei)) ⟨cA,cF,ajx (Hn dF _ _) _ _⟩
    have tT:s6 (ld (mj ds eW ow) eW) eW=0:=(if_neg (by rw[bv];decide)).trans (if_neg (by
     have:=Bj.len;rw[eD];rintro(h |h)
     .cases h
     .omega))
    simp only[tT] at y3;refine hO [5,6,12] Tryz.func79 ?_;refine av jm <| av U <| av H <| av (Fn.aV [(1001,3001),(1002,3002),(1003,3003)] qG) <| fb <| bw.iL e3 ay7 ⟨_,_,_,fun g=>_,fun g=>_,cx.aV [(3002,3003)] J,aC,rfl,fun _=>rfl,fun y=>?_⟩;obtain⟨⟨b,O⟩,El⟩:=y;refine bu [12] (br) <| dt ⟨fun _ _=>av dH ⟨eF ay7,dt <| av aZ ⟨rfl,eF ay7,av (Fn.aV [(1001,5001),(1002,5002)] Du) ⟨eF ay7,av aoy ⟨eF ay7,av (Fn.aV [(2001,5001),(2002,5002)] y3) ⟨eF ay7,bw.e4 (di.jf 1101 rfl) fun aB=>?_⟩⟩⟩⟩⟩,fun h=>az4⟩;obtain⟨l',gf⟩:=aB;have aoz:=Fn.nj (b:=db) [1002,1003,1004] 1101 (aj6 gf.1 eW x.on);exact bu [] (br) <| av aoz ⟨eF ay7,⟨(0,_),aov (w:=⟨z,R,L,aR,db,ds,es,M,lb,Q,eK,.pu nm n rm l g over true,⟨f4,eW,some (ke,bC,g2,ei)⟩⟩) (lb:=El) eQ a1 O (Eq.refl _) aa tT gf⟩,_,_,_,br,rfl,rfl,aC,rfl⟩
 .have g': ∀b:{b:Nat//b∉M.map (·.1)},vG ⟨z,R,L,aR,db,ds,es,M,lb,Q,eK,.pu nm n rm l g over true,p9 ⟨f4,eW,eo⟩ g⟩ (g4 Q (gQ ⟨f4,eW,eo⟩ g)) (pp (g4 Q (gQ ⟨f4,eW,eo⟩ g))) ⟨z,R,L,aR,db,ds,oH es (g4 Q (gQ ⟨f4,eW,eo⟩ g)) b.1,(b.1,oI (g4 Q (gQ ⟨f4,eW,eo⟩ g)) b.1)::M,lb,Q,eK,.pu nm n rm l g over true,p9 ⟨f4,eW,eo⟩ g⟩:=fun b=>⟨Eq.refl _,b.1,b.2,.inr ⟨a1,Eq.refl _⟩⟩
  have J:=Xp ⟨z,R,L,aR,db,ds,es,M,lb,Q,eK,.pu nm n rm l g over true,p9 ⟨f4,eW,eo⟩ g⟩ a1 (F:=oH es (g4 Q (gQ ⟨f4,eW,eo⟩ g))) (S:=oI (g4 Q (gQ ⟨f4,eW,eo⟩ g))) J;generalize pp (g4 Q (gQ ⟨f4,eW,eo⟩ g))=e at g' a1 J;refine hO [5,6] Tryz.func79 ?_;exact av jm <| av U <| av H <| av (Fn.aV [(1001,3001),(1002,3002),(1003,3003)] qG) <| fb <| bw.iL e3 ay7 ⟨_,_,_,fun g=>_,fun g=>_,cx.aV [(3002,3003)] J,aC,rfl,fun _=>rfl,fun x=>bu [] (br) ⟨fun _=>⟨eF ay7,⟨(e,_),.inr ⟨eQ,_,g' x,.inl ⟨.inl a1,rfl⟩⟩⟩,_,_,_,br,rfl,rfl,aC,rfl⟩,fun h=>absurd h (by simp[a1])⟩⟩
abbrev Iw:Type:=List bd×gb×ee×Nat×List bW
abbrev Bk (w:b0) (g:List (Nat×aC3)) (t:Iw):b0:={w with bH:=p9 w.bH g,ds:=t.1,es:=t.2.1,M:=t.2.2.1,lb:=t.2.2.2.1,Q:=t.2.2.2.2}
theorem y5 {w w':b0} {Q:List bW} {e:Int} (h:vG w Q e w'):w'={w with es:=w'.es,M:=w'.M,lb:=w'.lb,Q:=w'.Q}:=by
 obtain⟨_,b,_,⟨_,lb,rfl⟩ |⟨_,rfl⟩⟩:=h
 .with_reducible rfl
 .with_reducible rfl
theorem Xw {w w':b0} {g:List (Nat×aC3)} {e:Int} (h:vK w g e w'):w'=Bk w g (w'.ds,w'.es,w'.M,w'.lb,w'.Q):=by
 rcases h with⟨_,_,rfl⟩ |⟨_,e6,G,⟨_,rfl⟩ |⟨_,ke,bC,g2,ei,x,a,b,_,_,_,rfl⟩⟩
 .with_reducible rfl
 .have af:=y5 G;rw[af]
 .have af:=y5 G;rw[af]
theorem aoA (w:b0) (ap:lE w) {nm:aC3} {n rm:Int} {l:aC4} {g:List (Nat×aC3)} {over:Bool} (V:w.bM= .pu nm n rm l g over true) (ai:ga w.z w.R w.L nm l g) (qq:gY (ep w.bH.f4)=true):
  cx Tryz.prog 79 [aq 1401] (cQ w) [] (X:={p:Int×Iw//vK w g p.1 (Bk w g p.2)}) (fun p=>ab p.1.1) (fun p=>cQ (Bk w g p.1.2)):=by
 have h:cx Tryz.prog 79 [aq 1401] (cQ w) [] (X:=m8 (vK w g)) (fun p=>ab p.1.1) (fun p=>cQ p.1.2):=by
  by_cases eQ:gG w.Q (gQ w.bH g)=0
  .exact aow w ap V ai qq eQ
  .exact aou w ap V ai qq eQ
 exact h.to (fun x=>⟨(x.1.1,x.1.2.ds,x.1.2.es,x.1.2.M,x.1.2.lb,x.1.2.Q),Xw x.2▸x.2⟩) (fun _=>rfl) fun x=>congrArg cQ (Xw x.2)
end
section
section
variable {P:Program} {ids:aC4} {K:aY} {B:az} {o:Oper}
abbrev r8 (f b:Nat):Value:=.func (.func f) #[.pointer (some ⟨b,0,none⟩)] #[]
def xd (b:Nat):Nat->aC4->List MapEntry->Prop
 |_,[],es=>es=[]
 |i,f::fs,es=> ∃e r,es=e::r/\e.key= .int .i64 (i:Int)/\e.val=r8 f b/\xd b (i+1) fs r
theorem xd.Bd {b f:Nat}: ∀{fs:aC4} {i:Nat} {es:List MapEntry} {e:MapEntry},xd b i fs es->e.key= .int .i64 ((i+fs.length:Nat):Int)->e.val=r8 f b->xd b i (fs++[f]) (es++[e])
 | [],i,es,e,h,E,G=>by rw[show es=[] from h];exact⟨e,[],rfl,E,G,rfl⟩
 |x::fs,i,_,e,⟨b7,r,h,bZ,cg,a3⟩,E,G=>by
  rw[h];exact⟨b7,r++[e],rfl,bZ,cg,xd.Bd a3 (by rw[E,at8,show i+(fs.length+1)=i+1+fs.length by omega]) G⟩
theorem Ix {b:Nat} {k:Int}: ∀{fs:aC4} {i:Nat} {es:List MapEntry} (j:Nat),xd b i fs es->
  ((k < (i:Int)\/((i+fs.length:Nat):Int)<=k)->Instr.findNow (.int .i64) (.int .i64 k) es j=some none)/\(∀(m:Nat) (aA:m < fs.length),k=((i+m:Nat):Int)->Instr.findNow (.int .i64) (.int .i64 k) es j=some (some (j+m,r8 fs[m] b)))
 | [],i,es,j,h=>by
  rw[show es=[] from h];exact⟨fun _=>rfl,fun m aA=>absurd aA (ax7 _)⟩
 |f::fs,i,_,j,⟨e,r,h,bZ,cg,a3⟩=>by
  subst h;obtain⟨aB,aN,q4⟩:=MapKept.sameNow_of_keys (sc (aI:=al) (d:=.int .i64) rfl k) (sc (aI:=al) (d:=.int .i64) rfl ((i:Nat):Int));have aN:Instr.sameNow (.int .i64) (.int .i64 k) e.key=some aB:=by rw[bZ];exact aN
  obtain⟨r1,r2⟩:=Ix (k:=k) (j+1) a3
  by_cases aa:k=(i:Int)
  .have aoB:aB=true:=q4.2 (by rw[aa]);subst aoB;refine⟨fun bf=>?_,fun m aA bf=>?_⟩
   .rw[at8] at bf;omega
   .obtain rfl:m=0:=az2
    simp[Instr.findNow,aN,cg]
  .have aoC:aB=false:=by
    cases aB with
    |false=>rfl
    |true=>
     have:=q4.1 rfl;injection this with _ G
     exact absurd G aa
   subst aoC;refine⟨fun bf=>?_,fun m aA bf=>?_⟩
   .simp only[Instr.findNow,aN];exact r1 (by rw[at8] at bf;omega)
   .cases m with
    |zero=>exact absurd bf aa
    |succ m=>
     have:=r2 m (by simpa using aA) (by rw[bf];omega);simp only[Instr.findNow,aN];simp only[List.getElem_cons_succ];rw[show j+(m+1)=j+1+m by omega];exact this
def y6 (b:Nat) (fs:aC4):bc where
 bo:=fun _ F w p=>(∀x,F x↔x=p.bk)/\ ∃bR bS,w.heap[p.bk]? =some (.map (List.toArray bR) bS)/\xd b 0 fs bR/\l4 bR bS
 cp:=fun _ F w _ w' p ⟨E,bR,bS,G,af⟩ _ bh _=>⟨E,bR,bS,(bh _ ((E _).2 rfl)).trans G,af⟩
def OJ (b:Nat) (fs:aC4) (ch:ba):Prop:=(fs=[]/\ch= .map al .fn [])\/ch= .aG (y6 b fs)
theorem OJ.holds {b:Nat} {fs:aC4} {ch:ba} (h:OJ b fs ch) {ρ:Nat->bn} {I F:Nat->Prop} {w:World} {p:bn} (bf:Holds ρ I F w p ch):(y6 b fs).bo I F w p:=by
 rcases h with⟨rfl,rfl⟩ |rfl
 .obtain⟨E,bR,bS,G,af,aW⟩:=bf;exact⟨E,bR,bS,G,af,aW⟩
 .exact bf
theorem kC {T kt et:TypeId} {x i v:Operand} {c f b:Nat} (ah:o.op= .insert T x i v) (b6:P.underlying T=some (.map kt et)) (kq:P.underlying kt=some (.int .i64)) {fs:aC4} {ch:ba} (hx:a2 K x= .c (.one (.mp c))) (aa:a2 K i= .c (.one (.d (.int .i64 (fs.length:Nat)))))
  (ay:a2 K v=yw f b) (J:ag B c=some ch) (hw:OJ b fs ch) (N:Nat):bA P N ids o K B .undef ⟨[c],[],[(c,some (.aG (y6 b (fs++[f]))))]⟩:=by
 have cU:x∈o.op.operands:=az1
 have dU:i∈o.op.operands:=az1
 have ls:v∈o.op.operands:=az1
 refine bA.TN J fun K' B' g1 g2 C ρ F a w aj ar gf=>?_
 obtain⟨bh,bR,bS,O,aA,c5⟩:=hw.holds (aj.holds c _ gf);have ae:=ar.mp ((g1 x cU).trans hx);have ao:a.eval i= .int .i64 ((fs.length:Nat):Int):=ar.int ((g1 i dU).trans aa);have bm:a.eval v=r8 f b:=ar.ev ((g1 v ls).trans ay);have qC:=fun e=>MapKept.run_checkKey (P:=P) (w:=w) kq (sc (aI:=al) (d:=.int .i64) rfl ((fs.length:Nat):Int)) e 9999
 have en:=fun o=>MapKept.run_setObj_map (P:=P) o O
 have hf:=MapKept.run_findKey (P:=P) (w:=w) kq ((Ix 0 aA).1 (.inr (by rw[au1];exact Int.le_refl _)));have bt:=l3 O;simp only[gL] at qC
 have ax:(Instr.mapUpdate T (.map (some (ρ c).bk)) (.int .i64 ((fs.length:Nat):Int)) (r8 f b)).run P w= .ok () {w with heap:=w.heap.setIfInBounds (ρ c).bk (.map (List.toArray (bR++[⟨.int .i64 ((fs.length:Nat):Int),r8 f b,bS⟩])) (bS+1))}:=by
  simp[Instr.mapUpdate,run_underlying b6,MapKept.run_getObj_map O,qC,hf,en,Result.andThen]
 refine⟨{w with heap:=w.heap.setIfInBounds (ρ c).bk (.map (List.toArray (bR++[⟨.int .i64 ((fs.length:Nat):Int),r8 f b,bS⟩])) (bS+1))},?_,uz ((bh _).2 rfl),fun I a1=>⟨bh,bR++[⟨.int .i64 ((fs.length:Nat):Int),r8 f b,bS⟩],bS+1,by simp[bt],xd.Bd aA (by rw[au1]) rfl,Pi c5 _ _⟩⟩;simp only[execOp,ah,Sem.run_bind,ae,ao,bm,ax,Result.andThen_ok,Sem.run_pure]
theorem aoD {aS:dg} (bl:ec P aS) {T kt et:TypeId} {x i:Operand} {c b:Nat} (ah:o.op= .lookup T x i true) (b6:P.underlying T=some (.map kt et)) (kq:P.underlying kt=some (.int .i64)) {ti:ca} (gD:aS.find et=some ti) {fs:aC4} (hx:a2 K x= .c (.one (.mp c))) {key:Int} (aa:a2 K i= .c (.one (.d (.int .i64 key))))
  (J:ag B c=some (.aG (y6 b fs))) {m:Nat} {f:Nat} (aA:fs[m]? =some f) (OK:key=(m:Int)) (N:Nat):bA P N ids o K B (.ci [.one (.bJ (r8 f b)),.one (.d (.lit true))]) ⟨[c],[],[]⟩:=by
 have cU:x∈o.op.operands:=az1
 have dU:i∈o.op.operands:=az1
 obtain⟨CU,d,bv⟩:=bl.at_ gD;obtain⟨aB,aN,mH⟩:=bv.zero;refine bA.val fun K' B' g1 g2 C ρ F a w aj ar=>?_
 obtain⟨bh,bR,bS,O,wx,c5⟩:(y6 b fs).bo _ _ w _:=aj.holds c _ ((g2 c ay6).trans J);have ae:=ar.mp ((g1 x cU).trans hx);have ao:a.eval i= .int .i64 key:=ar.int ((g1 i dU).trans aa);have qC:=fun e=>MapKept.run_checkKey (P:=P) (w:=w) kq (sc (aI:=al) (d:=.int .i64) rfl key) e 9999
 obtain⟨ak,U⟩:=aq7.1 aA;have hf:=MapKept.run_findKey (P:=P) (w:=w) kq ((Ix (k:=key) 0 wx).2 m ak (by rw[au1];exact OK));rw[U] at hf;refine⟨.tuple #[r8 f b,.bool true],?_,⟨[r8 f b,.bool true],rfl,_,_,rfl,rfl,_,_,rfl,rfl,rfl⟩⟩
 have ax:(Instr.lookup T (.map (some (ρ c).bk)) (.int .i64 key) true).run P w= .ok (.tuple #[r8 f b,.bool true]) w:=by
  simp only[gL] at qC hf;simp[Instr.lookup,run_underlying b6,MapKept.run_getObj_map O,qC,hf,Result.andThen]
 simp only[execOp,ah,Sem.run_bind,ae,ao,ax,Result.andThen_ok,Sem.run_pure]
theorem aoE {aS:dg} (bl:ec P aS) {T kt et:TypeId} {x i:Operand} {c b:Nat} (ah:o.op= .lookup T x i true) (b6:P.underlying T=some (.map kt et)) (kq:P.underlying kt=some (.int .i64)) {ti:ca} (gD:aS.find et=some ti) {fs:aC4} (hx:a2 K x= .c (.one (.mp c))) {key:Int} (aa:a2 K i= .c (.one (.d (.int .i64 key))))
  (J:ag B c=some (.aG (y6 b fs))) (OK:key < 0\/((fs.length:Nat):Int)<=key) (N:Nat):bA P N ids o K B (.ci [.one .any,.one (.d (.lit false))]) ⟨[c],[],[]⟩:=by
 have cU:x∈o.op.operands:=az1
 have dU:i∈o.op.operands:=az1
 obtain⟨CU,d,bv⟩:=bl.at_ gD;obtain⟨aB,aN,mH⟩:=bv.zero;refine bA.val fun K' B' g1 g2 C ρ F a w aj ar=>?_
 obtain⟨bh,bR,bS,O,wx,c5⟩:(y6 b fs).bo _ _ w _:=aj.holds c _ ((g2 c ay6).trans J);have ae:=ar.mp ((g1 x cU).trans hx);have ao:a.eval i= .int .i64 key:=ar.int ((g1 i dU).trans aa);have CF:(zeroValue et).run P w= .ok aB w:=by simp[zeroValue,typeInfo,bv.jY,aN]
 have qC:=fun e=>MapKept.run_checkKey (P:=P) (w:=w) kq (sc (aI:=al) (d:=.int .i64) rfl key) e 9999
 have hf:=MapKept.run_findKey (P:=P) (w:=w) kq ((Ix (k:=key) 0 wx).1 (by rw[au1];exact OK));refine⟨.tuple #[aB,.bool false],?_,⟨[aB,.bool false],rfl,_,_,rfl,trivial,_,_,rfl,rfl,rfl⟩⟩
 have ax:(Instr.lookup T (.map (some (ρ c).bk)) (.int .i64 key) true).run P w= .ok (.tuple #[aB,.bool false]) w:=by
  simp only[gL] at qC hf;simp[Instr.lookup,run_underlying b6,MapKept.run_getObj_map O,qC,hf,CF,Result.andThen]
 simp only[execOp,ah,Sem.run_bind,ae,ao,ax,Result.andThen_ok,Sem.run_pure]
end
theorem cx.mk {P:Program} {f:FuncId} {c m b:Nat} {args:List aP} {aJ:az} {bb:aC4} {X:Type} {res:X->aP} {aO:X->az} (h:cx P f (.c (.one (.ptr c 0))::args) aJ bb res aO) (E:((ag aJ m).isNone&& !bb.contains c&& !bb.contains m)=true) (G: ∀g,(ag (aO g) m).isNone=true):
  cx P f (.c (.one (.d (.aM (some b))))::args) (aJ++[(m,.b5 c (fc b))]) bb res (fun g=>aO g++[(m,.b5 c (fc b))]):=by
 obtain⟨fT,h⟩:=h;simp only[vj,Bool.not_eq_true',ax8] at E G;obtain⟨⟨bZ,cg⟩,a3⟩:=E;have cg:=wl cg;have hF: ∀(B:az) {e:Nat} {ch:ba},ag B e=some ch->ag (B++[(m,.b5 c (fc b))]) e=some ch:=fun B {e ch} U=>by rw[iN,U]
 have one: ∀(B:az),ag B m=none->ag (B++[(m,.b5 c (fc b))]) m=some (.b5 c (fc b)):=fun B hn=>by rw[iN,hn];simp[ag]
 have tE: ∀(B:az) {e:Nat} {ch:ba},ag (B++[(m,.b5 c (fc b))]) e=some ch->(ag B e=some ch)\/(ag B e=none/\e=m/\ch= .b5 c (fc b)):=fun B {e ch} U=>by
  rw[iN] at U
  cases bf:ag B e with
  |some y=>rw[bf] at U;exact .inl U
  |none=>
   rw[bf] at U;simp only[cd] at U
   split at U
   .rename_i ao;injection U with U;exact .inr ⟨rfl,ao.symm,U.symm⟩
   .cases U
 refine⟨fT,fun ρ F I w bU a8 cZ bh eE bV dy=>?_⟩;have aA:(ρ c).bk=b/\ ∀x,¬F m x:=cZ m _ (one aJ bZ);have mN: ∀y,(∃e ch,ag aJ e=some ch/\F e y)-> ∃e ch,ag (aJ++[(m,ba.b5 c (fc b))]) e=some ch/\F e y:=fun y ⟨e,ch,U,aD⟩=>⟨e,ch,hF _ U,aD⟩
 match bU,bV with
 |v0::bU,bV=>
 have xR:v0= .pointer (some ⟨b,0,none⟩):=dy 0 _ v0 rfl rfl;refine(h ρ F I w (v0::bU) a8 (fun e ch U=>cZ e ch (hF _ U)) (fun e ch U=>bh e ch (hF _ U)) (fun e b7 ch ch' x U gW=>eE e b7 ch ch' x (hF _ U) (hF _ gW)) (by simpa using bV) ?_).mono ?_
 .intro i v x ay hx
  match i with
  |0=>
   simp only[ar3,aq4] at ay hx;subst ay hx;show v0=_;rw[aA.1];exact xR
  |i+1=>exact dy (i+1) v x aA6 hx
 .rintro e w' ⟨g,x,ρ',F',rfl,cy,dn,I',jk,gE,lK,ap,ic,sr⟩;have a7: ∀{e ch},ag (aO g) e=some ch->e≠m:=fun {e ch} U ao=>by rw[ao,G g] at U;cases U
  refine⟨g,x,ρ',fun e=>if e=m then(fun _=>False) else F' e,rfl,cy.mono fun y _ aD=>mN y aD,dn,I',jk,fun y aD=>⟨(gE y aD).1,?_⟩,?_,?_,?_,sr⟩
  .rcases(gE y aD).2 with h |h |h
   .exact .inl h
   .exact .inr (.inl (mN y h))
   .exact .inr (.inr h)
  .intro e ch U;rcases tE _ U with U |⟨_,rfl,rfl⟩
   .simp only[if_neg (a7 U)];exact lK e ch U
   .simp only[if_true];exact⟨by rw[dn c cg];exact aA.1,fun _ h=>h⟩
  .intro e ch U y aD;rcases tE _ U with U |⟨_,rfl,rfl⟩
   .simp only[if_neg (a7 U)] at aD;obtain⟨cI,cE,hN⟩:=ap e ch U y aD;exact⟨cI,cE,hN.imp (mN y) id⟩
   .simp only[if_true] at aD
  .intro e b7 ch ch' y U gW hn aD d';rcases tE _ U with cj |⟨_,rfl,rfl⟩
   .rcases tE _ gW with cT |⟨_,rfl,rfl⟩
    .simp only[if_neg (a7 cj)] at aD;simp only[if_neg (a7 cT)] at d';exact ic e b7 ch ch' y cj cT hn aD d'
    .simp only[if_true] at d'
   .simp only[if_true] at aD
theorem aoF {P:Program} {T:Nat} {name:String} {f:Nat} (h:((P.info? T).bind fun i=>(i.methods.find? (·.name == name)).map fun m=>(m.path.isEmpty,m.func))=some (true,some (f,true))): ∃c8 m,P.info? T=some c8/\c8.methods.find? (·.name == name)=some m/\m.path= #[]/\m.func=some (f,true):=by
 cases E:P.info? T with
 |none=>rw[E] at h;cases h
 |some c8=>
  rw[E] at h
  cases G:c8.methods.find? (·.name == name) with
  |none=>simp only[Option.bind_some,G,Option.map_none] at h;cases h
  |some m=>
   simp only[Option.bind_some,G,av4,aq4,av7] at h;exact⟨c8,m,rfl,G,Array.isEmpty_iff.1 h.1,h.2⟩
theorem kg {P:Program} {ids:aC4} {K:aY} {B:az} {o:Oper} {f:FuncId} {c:Call} {x:Operand} {b:Nat} {aJ:az} {res:aP} {aO:az} {T e:Nat} {name:String} (ah:o.op= .call c) (E:c.callee= .invoke x name) (G:c.args.toList=[]) (hx:a2 K x=CJ T b)
  (aA:((P.info? T).bind fun i=>(i.methods.find? (·.name == name)).map fun m=>(m.path.isEmpty,m.func))=some (true,some (f,true))) (a6:P.underlying T=some (.pointer e)) (hf:Fn P f [.c (.one (.d (.aM (some b))))] aJ [] res aO) (hZ:k2 B aJ) (bv:mF aJ [] aO=true) (N:Nat):
  bA P N ids o K B res ⟨cr aJ,[],iI aJ aO⟩:=by
 obtain⟨c8,m,cj,cT,eg,eR⟩:=aoF aA;exact adl (fuel:=P.types.size+99) ah E G hx ay8 cj cT eg eR a6 hf hZ bv N
end
end Go.Proofs.YtkfbeijmgggkmaaGreat
