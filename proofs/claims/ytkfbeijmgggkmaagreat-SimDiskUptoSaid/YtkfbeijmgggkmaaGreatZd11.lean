/-
A part of the proof of this claim: lemmas, with no condition beyond what each says.
-/
import Derived.Test.YtkfbeijmgggkmaaGreatZd10
set_option linter.unusedVariables false
set_option linter.unusedSimpArgs false
set_option maxRecDepth 10000
set_option maxHeartbeats 4000000
namespace Go.Proofs.YtkfbeijmgggkmaaGreat
open Go.RowKit Go.Proofs
section
structure bE where
 z:Nat
 t:List fd
 l:List Int
 f:lp
abbrev aeG (n:Int):List bB:=[.d (.int .i64 n),.ptr 1002 0,.ptr 1003 0,.mp 1004,.dK]
abbrev dD (s:bE):az:=[(1001,.cells (aeG s.z)),(1002,.aG (rz s.t)),(1003,.aG (rA s.l)),(1004,.aG (mS s.f))]
def jb (s:bE):bc:=.i9 1001 (dD s)
theorem aeH (t:List fd):Fn Tryz.prog 165 [aq 1001] [(1001,.aG (rz t))] [] (ab (t.length:Nat)) [(1001,.aG (rz t))]:=
 Fn.FP (su:=fun es:{es//n9 t es}=>.i9 1001 (o7 (t.length:Nat) es.1)) ay7 (fun _ _ _ _ ⟨es,h,aZ⟩=>⟨⟨es,h⟩,aZ⟩) fun es=>
  Fn.close [1002] (ael _ es.1) (fun _ _ _ _ h=>h) (fun _ _ _ _ h=>⟨es.1,es.2,h⟩) rfl rfl
theorem CW (t:List fd) (ak:t.length<=256) (c:Nat) (J:c < t.length):Fn Tryz.prog 167 [aq 1001,ab (c:Int)] [(1001,.aG (rz t))] [] (.c (pJ t[c])) [(1001,.aG (rz t))]:=
 Fn.FP (su:=fun es:{es//n9 t es}=>.i9 1001 (o7 (t.length:Nat) es.1)) ay7 (fun _ _ _ _ ⟨es,h,aZ⟩=>⟨⟨es,h⟩,aZ⟩) fun es=>
  Fn.close [1002] (R7 es.2 ak c J) (fun _ _ _ _ h=>h) (fun _ _ _ _ h=>⟨es.1,es.2,h⟩) rfl rfl
theorem aeI (t:List fd) (ak:t.length<=256) (c:Nat) (J:c < t.length) (s:fd) (aw:tJ s) (ax:rx s=true):
  Fn Tryz.prog 205 [aq 1001,ab (c:Int),.c (pJ s)] [(1001,.aG (rz t))] [] (.ci [pJ t[c],dz 0]) [(1001,.aG (rz (t.set c s)))]:=
 Fn.FP (su:=fun es:{es//n9 t es}=>.i9 1001 (o7 (t.length:Nat) es.1)) ay7 (fun _ _ _ _ ⟨es,h,aZ⟩=>⟨⟨es,h⟩,aZ⟩) fun es=>
  Fn.close [1002] (aet es.2 ak c J s aw ax) (fun _ _ _ _ h=>h) (fun _ _ _ _ h=>⟨_,es.2.set c s aw,by rw[av3];exact h⟩) rfl rfl
theorem aeJ (l:List Int) (h:Nat) (n:Int) (hn:l[h]? =some n) (E:1<=n) (G:n<=65535):Fn Tryz.prog 230 [aq 1001,ab (h:Int)] [(1001,.aG (rA l))] [] (.ci [.one (.d (.int .i64 (n - 1))),dz 0]) [(1001,.aG (rA (l.set h (n - 1))))]:=
 Fn.close [1002] (aez l h n hn E G) (fun _ _ _ _ h=>h) (fun _ _ _ _ h=>h) rfl rfl
theorem aeK (l:List Int) (ak:l.length<=1000000):Fn Tryz.prog 203 [aq 1001] [(1001,.aG (rA l))] [] (ab (dV l:Nat)) [(1001,.aG (rA l))]:=
 Fn.close [1002] (aeC l ak) (fun _ _ _ _ h=>h) (fun _ _ _ _ h=>h) rfl rfl
theorem aeL (l:List Int) (ak:l.length<=1000000) (h:Nat) (bf:l[h]? =some 0) (hf: ∀j,j < h->l[j]? ≠some 0):Fn Tryz.prog 204 [aq 1001] [(1001,.aG (rA l))] [] (.ci [.one (.d (.int .i64 (h:Int))),dz 0]) [(1001,.aG (rA (l.set h 1)))]:=
 Fn.close [1002] (aeE l ak h bf hf) (fun _ _ _ _ h=>h) (fun _ _ _ _ h=>h) rfl rfl
def aH (s:bE):Nat:=16*2 ^s.z
theorem jc {b:Nat} (h:b<=3):1<=2 ^b/\2 ^b<=8:=by
 match b,h with
 |0,_=>decide
 |1,_=>decide
 |2,_=>decide
 |3,_=>decide
theorem tK {s:bE} (h:s.z<=3):16<=aH s/\aH s<=128:=by
 have:=jc h;unfold aH;omega
theorem qw (s:bE) (O:s.z<=3):Fn Tryz.prog 163 [aq 1001] (dD s) [] (ab (aH s:Nat)) (dD s):=by
 have h:=jc O;have e:(16:Int)*((2 ^s.z:Nat):Int)=((aH s:Nat):Int):=by unfold aH;omega
 refine aU [] Tryz.func163 ?_;have m:(0:Int)<=16/\(0:Int)<=(s.z:Int)/\(s.z:Int)<=64:=az2
 have m2:(-9223372036854775808:Int)<=16*((2 ^s.z:Nat):Int)/\(16:Int)*((2 ^s.z:Nat):Int)<=9223372036854775807:=az2
 exact⟨m,m2,eG br rfl e⟩
theorem np (s:bE):Fn Tryz.prog 112 [aq 1001] (dD s) [] (ab (s.t.length:Nat)) (dD s):=by
 refine aU [] Tryz.func112 ?_;exact av (Fn.aV [(1001,1002)] (aeH s.t)) bg
theorem aeM (s:bE) (ak:s.t.length<=256) (c:Nat) (J:c < s.t.length):Fn Tryz.prog 116 [aq 1001,ab (c:Int)] (dD s) [] (ab (s.t[c]).1) (dD s):=by
 refine aU [] Tryz.func116 ?_;refine av (Fn.aV [(1001,1002)] (CW s.t ak c J)) ⟨_,_,fun N=>KZ rfl Tryz.underlying243 rfl Tryz.underlying3 rfl rfl rfl N,rfl,?_⟩;exact bg
theorem Sg (s:bE) (ak:s.l.length<=1000000):Fn Tryz.prog 160 [aq 1001] (dD s) [] (ab (dV s.l:Nat)) (dD s):=by
 refine aU [] Tryz.func160 ?_;exact av (Fn.aV [(1001,1003),(1002,2003)] (aeK s.l ak)) bg
theorem Sh (x:aC3) (hx:x.length<=4294967296):Fn Tryz.prog 169 [eM 1001] [(1001,.row 5 .u8 x)] [1002] (eM 1002) [(1001,.row 5 .u8 x),(1002,.row 5 .u8 x)]:=by
 refine aU [1] Tryz.func169 ?_;refine bw.iL e3 ay7 ?_;refine⟨_,acR (c:=1001) rfl rfl rfl Tryz.underlying31,fun v e h=>?_⟩;obtain⟨b,O,rfl,rfl⟩:=h
 cases b
 .refine⟨rfl,?_⟩;have m1:([]:aC3).length+x.length<=4294967296:=az8
  exact⟨m1,rfl,_,_,_,ac.aV 7 1002 rfl,rfl,rfl,aC,rfl⟩
 .have O:=O rfl;subst O;exact⟨_,_,_,ac.nil 2 1002 5 .u8 rfl rfl,rfl,rfl,aC,rfl⟩
theorem aeN (x:aC3) (hx:x.length<=4294967296):Fn Tryz.prog 169 [bQ .u8 x] [] [2001] (eM 2001) [(2001,.row 5 .u8 x)]:=by
 refine aU [1] Tryz.func169 ?_;refine bw.iL e3 ay7 ?_;refine⟨_,Rp rfl rfl Tryz.underlying31,fun v e h=>?_⟩;obtain⟨b,O,rfl,rfl⟩:=h
 cases b
 .refine⟨rfl,?_⟩;have ak:0+x.length<=4294967296:=az2
  exact⟨ak,rfl,_,_,_,ac.aV 7 2001 rfl,rfl,rfl,aC,rfl⟩
 .have O:=O rfl;subst O;exact⟨_,_,_,ac.nil 2 2001 5 .u8 rfl rfl,rfl,rfl,aC,rfl⟩
theorem Si {f:lp} {k:Int} {xs:aC3} (h:f k=some xs):jp f k xs=f:=funext fun j=>by
 unfold jp
 split
 .rename_i e;rw[e,h]
 .rfl
theorem K5:(Tryz.prog.info? 31).map (fun i=>(i.zero,i.size,i.bytes))=some (some (.slice none 0 0),1,24):=by kernel_rfl
def iO (s:bE):aC3:=List.replicate (aH s) 0
def eh (s:bE) (c:Nat) (y:Option aC3):aC3:=match s.t[c]? with
 |some q=>if q.1=1 then(s.f q.2.1).getD [] else if q.1=0 then(match y with
  |some y=>if y.length=aH s then y else iO s
  |none=>iO s) else iO s
 |none=>[]
theorem aeO (s:bE) (O:s.z<=3) (ak:s.t.length<=256) (c:Nat) (J:c < s.t.length) (hf:(s.t[c]).1=1-> ∃xs,s.f (s.t[c]).2.1=some xs/\xs.length<=128):
  Fn Tryz.prog 146 [aq 1001,ab (c:Int),.c (.one (.bJ .nilFunc))] (dD s) [2001] (eM 2001) (dD s++[(2001,.row 5 .u8 (eh s c none))]):=by
 obtain⟨c8,oV,oW,uX,Ab⟩:=info_parts K5;have hw:=tK O
 have dH:eh s c none=if(s.t[c]).1=1 then(s.f (s.t[c]).2.1).getD [] else iO s:=by
  unfold eh;rw[oj J];simp
 refine aU [] Tryz.func146 ?_;refine av (Fn.aV [(1001,1002)] (CW s.t ak c J)) ⟨rfl,fun h=>?_,fun h=>?_⟩
 .have h:=gd h;obtain⟨xs,hx,vZ⟩:=hf h;rw[if_pos h,hx] at dH;refine⟨_,_,fun N=>F0 (d:=5001) (k:=(s.t[c]).2.1) rfl Tryz.underlying169 Tryz.underlying3 rfl oV oW rfl rfl rfl hx N,rfl,?_⟩;refine av (Fn.aV [(1001,5001),(1002,2001)] (Sh xs ay4)) ⟨rfl,?_⟩;exact⟨_,_,_,ac.F1 1004 5001 (Si hx) rfl rfl ay5 (by rw[hx];rfl),rfl,rfl,⟨rfl,rfl,rfl,rfl,by rw[dH];rfl,trivial⟩,rfl⟩
 .have h:=mu h;rw[if_neg h] at dH;have m:(0:Int)<=(aH s:Nat)/\((aH s:Nat):Int)<=4294967296:=az2
  refine⟨fun au=>?_,fun au=>?_⟩
  .refine⟨_,_,fun N=>aee (.inr ⟨rfl,rfl⟩) rfl Tryz.underlying176 rfl N,rfl,?_⟩;refine av (qw s O) ⟨⟨rfl,m⟩,rfl,?_⟩;exact⟨_,_,_,ac.aV 45 2001 rfl,rfl,rfl,⟨rfl,rfl,rfl,rfl,by rw[dH];rfl,trivial⟩,rfl⟩
  .refine av (qw s O) ⟨⟨rfl,m⟩,rfl,?_⟩;exact⟨_,_,_,ac.aV 45 2001 rfl,rfl,rfl,⟨rfl,rfl,rfl,rfl,by rw[dH];rfl,trivial⟩,rfl⟩
abbrev nq (b1 b2:Nat):aP:=.c (.one (.d (.fn (158,[b1,b2]))))
abbrev f1 (s:bE) (bo:bn->bc):az:=dD s++[(9000,.b5 1001 bo)]
def Gl (s:bE) (bo:bn->bc) (b1 b2:Nat) (c:Nat) (y:aC3):Prop:=
 y.length<=1000000/\Fn Tryz.prog 158 [ab (c:Int),dr b1,dr b2] (f1 s bo) [] (bQ .u8 y) (f1 s bo)
theorem aeP (s:bE) (bo:bn->bc) (b1 b2:Nat) (O:s.z<=3) (ak:s.t.length<=256) (c:Nat) (J:c < s.t.length) (hf:(s.t[c]).1=1-> ∃xs,s.f (s.t[c]).2.1=some xs/\xs.length<=128) (y:aC3) (c5:(s.t[c]).1=0->Gl s bo b1 b2 c y):
  Fn Tryz.prog 146 [aq 1001,ab (c:Int),nq b1 b2] (f1 s bo) [2001] (eM 2001) (f1 s bo++[(2001,.row 5 .u8 (eh s c (some y)))]):=by
 obtain⟨c8,oV,oW,uX,Ab⟩:=info_parts K5;have hw:=tK O
 have dH:eh s c (some y)=if(s.t[c]).1=1 then(s.f (s.t[c]).2.1).getD [] else if(s.t[c]).1=0 then(if y.length=aH s then y else iO s) else iO s:=by
  unfold eh;rw[oj J]
 refine aU [7,8] Tryz.func146 ?_;refine av (Fn.aV [(1001,1002)] (CW s.t ak c J)) ⟨rfl,fun h=>?_,fun h=>?_⟩
 .have h:=gd h;obtain⟨xs,hx,vZ⟩:=hf h;rw[if_pos h,hx] at dH;refine⟨_,_,fun N=>F0 (d:=5001) (k:=(s.t[c]).2.1) rfl Tryz.underlying169 Tryz.underlying3 rfl oV oW rfl rfl rfl hx N,rfl,?_⟩;refine av (Fn.aV [(1001,5001),(1002,2001)] (Sh xs ay4)) ⟨rfl,?_⟩;exact⟨_,_,_,ac.F1 1004 5001 (Si hx) rfl rfl ay5 (by rw[hx];rfl),rfl,rfl,⟨rfl,rfl,rfl,rfl,rfl,by rw[dH];rfl,trivial⟩,rfl⟩
 .have h:=mu h;rw[if_neg h] at dH;have m:(0:Int)<=(aH s:Nat)/\((aH s:Nat):Int)<=4294967296:=az2
  refine⟨fun au=>?_,fun au=>?_⟩
  .have au:=gd au;obtain⟨Sj,c5⟩:=c5 au;rw[if_pos au] at dH;refine⟨_,_,fun N=>aed (.inr ⟨rfl,rfl⟩) rfl Tryz.underlying176 rfl N,rfl,?_⟩;refine av c5 <| av (qw s O) ⟨fun G=>?_,fun G=>?_⟩
   .have G:(y.length:Int)=(aH s:Nat):=gd G;have G:y.length=aH s:=az2
    rw[if_pos G] at dH;refine bu [] (cM [(8,bQ .u8 y)] (f1 s bo)) <| av (aeN y ay4) ?_;exact sx br rfl rfl ⟨rfl,rfl,rfl,rfl,rfl,by rw[dH];rfl,trivial⟩ rfl
   .have G: ¬(y.length:Int)=(aH s:Nat):=mu G;have G: ¬y.length=aH s:=az2
    rw[if_neg G] at dH;refine bu [] (cM [(0,aq 1001)] (f1 s bo)) <| av (qw s O) ⟨⟨rfl,m⟩,rfl,?_⟩;exact⟨_,_,_,ac.aV 45 2001 rfl,rfl,rfl,⟨rfl,rfl,rfl,rfl,rfl,by rw[dH];rfl,trivial⟩,rfl⟩
  .have au:=mu au;rw[if_neg au] at dH;refine bu [] (cM [(0,aq 1001)] (f1 s bo)) <| av (qw s O) ⟨⟨rfl,m⟩,rfl,?_⟩;exact⟨_,_,_,ac.aV 45 2001 rfl,rfl,rfl,⟨rfl,rfl,rfl,rfl,rfl,by rw[dH];rfl,trivial⟩,rfl⟩
def Ad (s:bE) (q:fd):bE:=if q.1=1 then {s with l:=s.l.set q.2.1.toNat 0,f:=CE s.f q.2.1} else s
theorem aeQ (s:bE) (q:fd) (aT:q.1=1-> ∃h:Nat,q.2.1=(h:Int)/\s.l[h]? =some 1):Fn Tryz.prog 206 [aq 1001,.c (pJ q)] (dD s) [] gO (dD (Ad s q)):=by
 refine aU [] Tryz.func206 ?_;refine⟨rfl,fun E=>?_,fun E=>?_⟩
 .have E: ¬q.1=1:=by
   have E:(!decide (q.1=1))=true:=E;simpa using E
  rw[show Ad s q=s from if_neg E];exact bg
 .have E:q.1=1:=by
   have E:(!decide (q.1=1))=false:=E;simpa using E
  obtain⟨h,e,ak⟩:=aT E;rw[show Ad s q={s with l:=s.l.set q.2.1.toNat 0,f:=CE s.f q.2.1} from if_pos E];obtain⟨k,x,o⟩:=q;simp only at e;subst e;refine av (Fn.aV [(1001,1003),(1002,2003)] (aeJ s.l h 1 ak ay5 ay5)) ⟨rfl,fb ⟨_,_,fun N=>ac5 (k:=(h:Int)) rfl Tryz.underlying169 Tryz.underlying3 rfl rfl rfl rfl N,rfl,?_⟩⟩;exact⟨rfl,bg⟩
def rC (s:bE) (c:Nat) (q:fd):bE:=Ad {s with t:=s.t.set c q} (s.t.getD c ck)
theorem K6 (s:bE) (ak:s.t.length<=256) (c:Nat) (J:c < s.t.length) (q:fd) (aw:tJ q) (ax:rx q=true) (aT:(s.t.getD c ck).1=1-> ∃h:Nat,(s.t.getD c ck).2.1=(h:Int)/\s.l[h]? =some 1):
  Fn Tryz.prog 164 [aq 1001,ab (c:Int),.c (pJ q)] (dD s) [] gO (dD (rC s c q)):=by
 have e:s.t[c]=s.t.getD c ck:=by rw[aq3,oj J];rfl
 have gV:=aeI s.t ak c J q aw ax;unfold rC;rw[e] at gV;generalize s.t.getD c ck=q3 at aT gV;refine aU [] Tryz.func164 ?_;refine⟨rfl,av (Fn.aV [(1001,1002)] gV) ⟨rfl,rfl,?_⟩⟩;exact av (aeQ {s with t:=s.t.set c q} q3 aT) bg
structure mU where
 c:Nat
 a:Nat
 b:Nat
 at_:Nat
abbrev uZ (p:mU):List bB:=[.d (.int .i64 (p.c:Int)),.d (.int .i64 (p.a:Int)),.d (.int .i64 (p.b:Int)),.d (.int .i64 (p.at_:Int))]
abbrev qx (p:mU):aP:=.c (.agg (uZ p))
def hq (s:bE) (c:Nat):Bool:= !uV (s.t.getD c ck)
theorem K7 (s:bE) (ak:s.t.length<=256) (p:mU) (J:p.c < s.t.length):Fn Tryz.prog 159 [aq 1001,qx p] (dD s) [] (fI (hq s p.c)) (dD s):=by
 have e:s.t[p.c]=s.t.getD p.c ck:=by rw[aq3,oj J];rfl
 have mG:=CW s.t ak p.c J;unfold hq;rw[e] at mG;refine aU [] Tryz.func159 ?_;exact⟨rfl,av (Fn.aV [(1001,1002)] mG) <| av (aek (s.t.getD p.c ck)) ⟨rfl,bg⟩⟩
structure gh (s:bE):Prop where
 z:s.z<=3
 eS:s.t.length<=256
 lu:s.l.length<=512
 slot: ∀(c:Nat) (q:fd),s.t[c]? =some q->q=ck\/q=((2:Int),(0:Int),false)\/ ∃h:Nat,q=((1:Int),(h:Int),true)/\s.l[h]? =some 1/\ ∃xs,s.f (h:Int)=some xs/\xs.length=aH s
 inj: ∀(c d:Nat) (h:Int),s.t[c]? =some ((1:Int),h,true)->s.t[d]? =some ((1:Int),h,true)->c=d
 Gm: ∀(h:Nat) n,s.l[h]? =some n->n=0\/n=1
 Ae: ∀h:Nat,s.l[h]? =some 0->s.f (h:Int)=none
 Gn: ∀h:Nat,s.l[h]? =some 1-> ∃c:Nat,s.t[c]? =some ((1:Int),(h:Int),true)
 dom: ∀(k:Int) xs,s.f k=some xs->xs.length<=128
def h3 (l:List Int):Nat:=l.findIdx fun n=>decide (n=0)
theorem K8 {l:List Int} (h:0 < dV l):l[h3 l]? =some 0/\ ∀j,j < h3 l->l[j]? ≠some 0:=by
 have bt:h3 l < l.length:=by
  unfold h3;rw[List.findIdx_lt_length];unfold dV at h;obtain⟨x,hx⟩:=List.exists_mem_of_length_pos h;rw[ax3] at hx;exact⟨x,hx.1,hx.2⟩
 refine⟨?_,fun j V e=>?_⟩
 .have:=List.findIdx_getElem (xs:=l) (p:=fun n=>decide (n=0)) (w:=bt);rw[oj bt];exact congrArg some (gd this)
 .have ft:j < l.length:=az2
  have:=List.not_of_lt_findIdx (p:=fun n=>decide (n=0)) (xs:=l) V;rw[oj ft] at e;injection e with e
  simp[e] at this
def mV (s:bE) (c:Nat) (y:aC3):bE:=
 if hq s c=true then {s with t:=s.t.set c ((1:Int),(h3 s.l:Int),true),l:=s.l.set (h3 s.l) 1,f:=jp s.f (h3 s.l:Int) (eh s c (some y))} else s
def Gp (s:bE) (p:mU) (bs:aC3):bE:={s with f:=jp s.f (s.t.getD p.c ck).2.1 (laid ((s.f (s.t.getD p.c ck).2.1).getD []) p.a (p.b - p.a) bs)}
def x5 (s:bE) (p:mU) (bs:aC3) (y:aC3):bE:=Gp (mV s p.c y) p bs
abbrev Sk (bs:aC3):aY:=[(0,aq 1001),(2,bQ .u8 bs),(5,aq 5)]
abbrev Sl (s:bE) (bo:bn->bc) (p:mU):az:=(5,.cells (uZ p))::f1 s bo
theorem Af {t:List fd} {c:Nat} {q:fd} (h:t[c]? =some q):t.getD c ck=q:=by
 rw[aq3,h];rfl
theorem u0 {s:bE} (ap:gh s) {c:Nat} (J:c < s.t.length) (y:Option aC3):(eh s c y).length=aH s:=by
 have aN:(iO s).length=aH s:=ar7;have aZ:s.t[c]? =some s.t[c]:=oj J;unfold eh;rw[aZ];simp only;rcases ap.slot c _ aZ with e |e |⟨h,e,_,xs,hx,ak⟩
 .rw[e,if_neg ay5,if_pos ay5]
  split
  .split
   .rename_i h;exact h
   .exact aN
  .exact aN
 .rw[e,if_neg ay5,if_neg ay5];exact aN
 .rw[e,if_pos rfl];simp only[hx,av9];exact ak
theorem Gq {s:bE} (ap:gh s) {c:Nat} (J:c < s.t.length):(hq s c=true/\(s.t.getD c ck=ck\/s.t.getD c ck=((2:Int),(0:Int),false)))\/(hq s c=false/\ ∃h:Nat,s.t[c]? =some ((1:Int),(h:Int),true)/\s.l[h]? =some 1/\ ∃xs,s.f (h:Int)=some xs/\xs.length=aH s):=by
 have aZ:s.t[c]? =some s.t[c]:=oj J;have H:=Af aZ;unfold hq uV;rw[H];rcases ap.slot c _ aZ with e |e |⟨h,e,G⟩
 .rw[e];exact .inl ⟨rfl,.inl rfl⟩
 .rw[e];exact .inl ⟨rfl,.inr rfl⟩
 .rw[e] at aZ⊢;exact .inr ⟨rfl,h,aZ,G⟩
theorem Sm {s:bE} (h:s.z<=3):aH s<=128:=by
 have:=jc h;show 16*2 ^s.z<=128;omega
theorem Sn {f:lp} (h: ∀(k:Int) xs,f k=some xs->xs.length<=128) {CX:Int} {ys:aC3} (aD:ys.length<=128): ∀(k:Int) xs,jp f CX ys k=some xs->xs.length<=128:=fun k xs aa=>by
 unfold jp at aa
 split at aa
 .injection aa with aa
  rw[<-aa];exact aD
 .exact h k xs aa
theorem So {s:bE} (ap:gh s) {c:Nat} (J:c < s.t.length) (y:aC3) (aN:hq s c=true->0 < dV s.l):
  gh (mV s c y)/\aH (mV s c y)=aH s/\(mV s c y).t.length=s.t.length/\ ∃h:Nat,(mV s c y).t[c]? =some ((1:Int),(h:Int),true)/\(mV s c y).f (h:Int)=some (eh s c (some y)):=by
 rcases Gq ap J with⟨hn,aT⟩ |⟨hn,h,E,G,xs,af,aW⟩
 .obtain⟨kH,q'⟩:=K8 (aN hn);have bt:h3 s.l < s.l.length:=(aq7.1 kH).1;have ko:=ap.Ae _ kH;have dH:=u0 ap J (some y);have mM:s.t[c]? =some (s.t.getD c ck):=by rw[aq3,oj J];rfl
  rw[show mV s c y={s with t:=s.t.set c ((1:Int),(h3 s.l:Int),true),l:=s.l.set (h3 s.l) 1,f:=jp s.f (h3 s.l:Int) (eh s c (some y))} from if_pos hn];generalize eh s c (some y)=xs at dH;generalize h3 s.l=au at*
  have Sp: ∀(d:Nat),s.t[d]? ≠some ((1:Int),(au:Int),true):=fun d e=>by
   rcases ap.slot d _ e with ao |ao |⟨h,ao,af,_⟩
   .cases ao
   .cases ao
   .have:(au:Int)=(h:Int):=by injection ao with _ ao;injection ao
    have:au=h:=az2
    subst this;rw[kH] at af
    cases af
  refine⟨⟨ap.z,by show(s.t.set _ _).length<=256;rw[av3];exact ap.eS,by show(s.l.set _ _).length<=512;rw[av3];exact ap.lu,fun d q aT=>?_,fun d e h H U=>?_,fun h n hn=>?_,fun h bf=>?_,fun h bf=>?_,Sn ap.dom (by rw[dH];exact Sm ap.z)⟩,rfl,av3,au,?_,if_pos rfl⟩
  .rw[aw6] at aT
   split at aT
   .rename_i e;subst e;injection aT with aT
    exact .inr (.inr ⟨au,aT.symm,by rw[av0 bt],xs,if_pos rfl,dH⟩)
   .rcases ap.slot d q aT with e |e |⟨h,e,g1,ys,g2,cX⟩
    .exact .inl e
    .exact .inr (.inl e)
    .have a7:au≠h:=fun e=>by subst e;rw[kH] at g1;cases g1
     exact .inr (.inr ⟨h,e,by rw[au3 a7];exact g1,ys,by show(if(h:Int)=(au:Int) then some xs else s.f h)=some ys;rw[if_neg ay4];exact g2,cX⟩)
  .rw[aw6] at H U
   split at H
   .rename_i ae
    split at U
    .rename_i ao;rw[<-ae,<-ao]
    .have:(au:Int)=h:=by injection H with H;injection H with _ H;injection H
     subst this;exact absurd U (Sp e)
   .split at U
    .rename_i ao;have:(au:Int)=h:=by injection U with H;injection H with _ H;injection H
     subst this;exact absurd H (Sp d)
    .exact ap.inj d e h H U
  .rw[aw6] at hn
   split at hn
   .rename_i e;injection hn with hn
    exact .inr hn.symm
   .exact ap.Gm h n hn
  .rw[aw6] at bf
   split at bf
   .rename_i e;injection bf with bf
    exact absurd bf ay5
   .rename_i e;show(if(h:Int)=(au:Int) then some xs else s.f h)=none;rw[if_neg ay4];exact ap.Ae h bf
  .by_cases e:au=h
   .subst e;exact⟨c,av0 J⟩
   .rw[au3 e] at bf;obtain⟨d,H⟩:=ap.Gn h bf
    have a7:c≠d:=fun ao=>by
     subst ao;rw[mM] at H;injection H with H
     rw[H] at aT;rcases aT with aT |aT <;>cases aT
    exact⟨d,by rw[au3 a7];exact H⟩
  .exact av0 J
 .have e:mV s c y=s:=if_neg (by rw[hn];decide);rw[e];refine⟨ap,rfl,rfl,h,E,?_⟩;unfold eh;rw[E];simp only[if_pos,af,av9]
theorem Sq (s:bE) (bo:bn->bc) (b1 b2:Nat) (ap:gh s) (p:mU) (J:p.c < s.t.length) (bs:aC3) (E:p.a<=p.b) (G:p.b<=aH s) (af:bs.length=p.b - p.a) (y:aC3) (c5:(s.t[p.c]).1=0->Gl s bo b1 b2 p.c y) (aN:hq s p.c=true->0 < dV s.l):
  Fn Tryz.prog 161 [aq 1001,qx p,bQ .u8 bs,nq b1 b2] (f1 s bo) [] gO (f1 (x5 s p bs y) bo):=by
 obtain⟨c8,oV,oW,uX,Ab⟩:=info_parts K5;have hw:=tK ap.z;have e:s.t[p.c]=s.t.getD p.c ck:=by rw[aq3,oj J];rfl
 obtain⟨fq,gP,mW,en,u1,wC⟩:=So ap J y aN;have dH:=u0 ap J (some y);unfold x5
 have e8:=aeP s bo b1 b2 ap.z ap.eS p.c J (fun h=>by
  rcases ap.slot p.c _ (oj J) with ao |ao |⟨h,ao,_,xs,hx,ak⟩
  .rw[ao] at h;cases h
  .rw[ao] at h;cases h
  .rw[ao];exact⟨xs,hx,ay4⟩) y c5
 generalize d6:mV s p.c y=s' at fq gP mW u1 wC;have nM:=Af u1
 have vO:s'.t[p.c]'ay4=((1:Int),(en:Int),true):=by
  have:=oj (l:=s'.t) (i:=p.c) ay4;rw[u1] at this;injection this with this
  exact this.symm
 have CY:=CW s'.t fq.eS p.c ay4;rw[vO] at CY;unfold Gp;rw[nM];simp only[wC,av9];have m:(0:Int)<=(p.a:Int)/\(p.a:Int)<=(p.b:Int)/\(p.b:Int)<=(((eh s p.c (some y)).length:Nat):Int):=az2
 have m2:p.a+(p.b - p.a)<=(eh s p.c (some y)).length:=az2
 have v1:jp s'.f (en:Int) (laid (eh s p.c (some y)) p.a (p.b - p.a) bs)=jp s'.f (en:Int) (laid (eh s p.c (some y)) p.a (p.b - p.a) bs):=rfl;refine aU [3,5,6] Tryz.func161 ?_;refine⟨rfl,av (K7 s ap.eS p J) ⟨fun hn=>?_,fun hn=>?_⟩⟩
 .obtain⟨kH,q'⟩:=K8 (aN hn);refine av e8 <| bu [5,6] (cM [(0,aq 1001),(2,bQ .u8 bs),(5,aq 5),(8,eM 2001)] ((5,.cells (uZ p))::(2001,.row 5 .u8 (eh s p.c (some y)))::f1 s bo)) ?_;refine av (Fn.aV [(1001,1003),(1002,2003)] (aeL s.l (by have:=ap.lu;omega) (h3 s.l) kH q')) ⟨_,_,fun N=>ac3 (d:=2001) (k:=(h3 s.l:Int)) rfl Tryz.underlying169 Tryz.underlying3 rfl rfl rfl rfl rfl rfl ay5 (ap.Ae _ kH) N,rfl,?_⟩;refine bu [6] (cM [(0,aq 1001),(2,bQ .u8 bs),(5,aq 5),(9,ab (h3 s.l:Nat))] ((5,.cells (uZ p))::f1 {s with l:=s.l.set (h3 s.l) 1,f:=jp s.f (h3 s.l:Int) (eh s p.c (some y))} bo)) ?_
  have gV:Fn Tryz.prog 164 [aq 1001,ab (p.c:Int),.c (pJ ((1:Int),(h3 s.l:Int),true))] (dD {s with l:=s.l.set (h3 s.l) 1,f:=jp s.f (h3 s.l:Int) (eh s p.c (some y))}) [] gO (dD s'):=by
   have bt:h3 s.l < s.l.length:=(aq7.1 kH).1;have mT:=ap.lu
   have wk: ¬(s.t.getD p.c ck).1=1:=by
    rcases Gq ap J with⟨_,h⟩ |⟨h,_⟩
    .rcases h with h |h <;>rw[h] <;>decide
    .rw[hn] at h;cases h
   have h:=K6 {s with l:=s.l.set (h3 s.l) 1,f:=jp s.f (h3 s.l:Int) (eh s p.c (some y))} ap.eS p.c J ((1:Int),(h3 s.l:Int),true) ⟨⟨by show(-1000000:Int)<=1;decide,by show(1:Int)<=1000000;decide⟩,by show(-1000000:Int)<=(h3 s.l:Int);omega,by show((h3 s.l:Nat):Int)<=1000000;omega⟩ (by
    show(if(1:Int)=1 then decide (0<=(h3 s.l:Int))&&decide ((h3 s.l:Int) < 512) else _)=true;rw[if_pos rfl,ar0 ay4,ar0 ay4];rfl) (fun h=>absurd h wk)
   rwa[show rC {s with l:=s.l.set (h3 s.l) 1,f:=jp s.f (h3 s.l:Int) (eh s p.c (some y))} p.c ((1:Int),(h3 s.l:Int),true)=s' by
    rw[<-d6];unfold rC Ad mV;rw[if_neg wk,if_pos hn]] at h
  refine av (Fn.arg gV ⟨rfl,rfl,aC,trivial⟩) <| bu [] (cM (Sk bs) (Sl s' bo p)) <| av (Fn.aV [(1001,1002)] CY) ⟨_,_,fun N=>KZ rfl Tryz.underlying243 rfl Tryz.underlying3 rfl rfl rfl N,rfl,?_⟩;refine⟨_,_,fun N=>F0 (d:=5001) (k:=(en:Int)) rfl Tryz.underlying169 Tryz.underlying3 rfl oV oW rfl rfl rfl wC N,rfl,?_⟩;refine⟨m,m2,rfl,?_⟩;exact⟨_,_,_,ac.F1 1004 5001 v1 rfl rfl ay5 (by rw[wC];rfl),rfl,trivial,aC,rfl⟩
 .have fS:s=s':=by rw[<-d6];unfold mV;rw[if_neg (by rw[hn];decide)]
  subst fS;refine bu [] (cM (Sk bs) (Sl s bo p)) <| av (Fn.aV [(1001,1002)] CY) ⟨_,_,fun N=>KZ rfl Tryz.underlying243 rfl Tryz.underlying3 rfl rfl rfl N,rfl,?_⟩;refine⟨_,_,fun N=>F0 (d:=5001) (k:=(en:Int)) rfl Tryz.underlying169 Tryz.underlying3 rfl oV oW rfl rfl rfl wC N,rfl,?_⟩;refine⟨m,m2,rfl,?_⟩;exact⟨_,_,_,ac.F1 1004 5001 v1 rfl rfl ay5 (by rw[wC];rfl),rfl,trivial,aC,rfl⟩
def e7 (s:bE):Nat:=s.t.length*2 ^s.z
def d3 (s:bE) (at_ aX:Int):Int:=if aX < 0 then 1 else if at_ < 0\/aX >e7 s\/at_ >e7 s - aX then 121 else 0
theorem wD (s:bE) (ap:gh s) (at_ aX:Int):Fn Tryz.prog 144 [aq 1001,ab at_,ab aX] (dD s) [] (ab (d3 s at_ aX)) (dD s):=by
 have ai:=jc ap.z;have nr:=ap.eS;have E:s.t.length*2 ^s.z<=256*8:=av1 nr ai.2;have e:((s.t.length:Nat):Int)*((2 ^s.z:Nat):Int)=((e7 s:Nat):Int):=by unfold e7;rw[Int.natCast_mul]
 have dB:e7 s<=2048:=E;refine aU [1,2] Tryz.func144 ?_;refine bw.mR 112 ay5 ?_;refine bu [2] (br) <| ws rfl rfl rfl (np s) ?_;have m1:(0:Int)<=(s.t.length:Nat)/\(0:Int)<=(s.z:Int)/\(s.z:Int)<=64:=by have:=ap.z;omega
 have m2:c1 (((s.t.length:Nat):Int)*((2 ^s.z:Nat):Int)):=by rw[e];omega
 refine⟨m1,m2,rfl,bu [] (ac.sub (K':=[(1,ab at_),(2,ab aX),(7,ab (e7 s:Nat))]) (B':=dD s) ⟨rfl,rfl,e,trivial⟩ aC) ⟨fun h=>?_,fun h=>?_⟩⟩
 .have h:aX < 0:=gd h;exact eG br rfl (show(1:Int)=d3 s at_ aX by unfold d3;rw[if_pos h])
 .have h: ¬aX < 0:=mu h;have K9: ∀(_:at_ < 0\/aX >e7 s\/at_ >e7 s - aX),(121:Int)=d3 s at_ aX:=fun G=>by unfold d3;rw[if_neg h,if_pos G]
  refine⟨fun E=>?_,fun E=>?_⟩
  .have E:at_ < 0:=gd E;exact eG br rfl (K9 (.inl E))
  .have E: ¬at_ < 0:=mu E;refine⟨fun G=>?_,fun G=>?_⟩
   .have G:((e7 s:Nat):Int) < aX:=gd G;exact eG br rfl (K9 (.inr (.inl G)))
   .have G: ¬((e7 s:Nat):Int) < aX:=mu G;have m3:c1 (((e7 s:Nat):Int) - aX):=az2
    refine⟨m3,fun af=>?_,fun af=>?_⟩
    .have af:((e7 s:Nat):Int) - aX < at_:=gd af;exact eG br rfl (K9 (.inr (.inr af)))
    .have af: ¬((e7 s:Nat):Int) - aX < at_:=mu af;exact eG br rfl (show(0:Int)=d3 s at_ aX by unfold d3;rw[if_neg h,if_neg ay4])
def bj (W a l k:Nat):mU:=⟨16*a/W+k,16*a - (16*a/W+k)*W,min (16*(a+l) - (16*a/W+k)*W) W,(16*a/W+k)*W+(16*a - (16*a/W+k)*W) - 16*a⟩
def cD (W a l:Nat):Nat:=if l=0 then 0 else(16*(a+l)+W - 1)/W - 16*a/W
def x6 (W:Nat):Prop:=W=16\/W=32\/W=64\/W=128
theorem ob {s:bE} (h:s.z<=3):x6 (aH s):=by
 unfold x6 aH;generalize s.z=b at h
 match b,h with
 |0,_=>exact .inl rfl
 |1,_=>exact .inr (.inl rfl)
 |2,_=>exact .inr (.inr (.inl rfl))
 |3,_=>exact .inr (.inr (.inr rfl))
theorem tL {W a l k:Nat} (dc:x6 W):(0 < l/\(16*a/W+k)*W < 16*(a+l))↔k < cD W a l:=by
 unfold cD;rcases dc with rfl |rfl |rfl |rfl <;>(split <;>omega)
theorem rD {W a l k:Nat} (dc:x6 W) (aa:k < cD W a l):(bj W a l k).a<=(bj W a l k).b/\(bj W a l k).b<=W/\(bj W a l k).at_+((bj W a l k).b - (bj W a l k).a)<=16*l/\(bj W a l k).c*W < 16*(a+l):=by
 have h:=(tL (a:=a) (l:=l) (k:=k) dc).2 aa;unfold bj;simp only;rcases dc with rfl |rfl |rfl |rfl <;>omega
abbrev CZ (l:Nat):aP:=.c (.one (.bJ (.func (.yield l) #[] #[])))
abbrev qy (a l:Int):az:=[(2001,.cells [.ptr 1001 0]),(2002,.cells [.d (.int .i64 a)]),(2003,.cells [.d (.int .i64 l)])]
abbrev Sr (y W a l k:Nat):aY:=[(0,CZ y),(1,aq 2001),(2,aq 2002),(3,aq 2003),(5,ab (W:Nat)),(6,ab ((16*a:Nat):Int)),(7,ab ((16*(a+l):Nat):Int)),(8,ab ((16*a/W+k:Nat):Int))]
abbrev Gr (a l:Nat) (o:bc):az:=[(2001,.cells [.ptr 1001 0]),(2002,.cells [.d (.int .i64 (a:Int))]),(2003,.cells [.d (.int .i64 (l:Int))]),(1001,.aG o)]
abbrev aeR (y W:Nat):aY:=[(0,CZ y),(1,aq 2001),(2,aq 2002),(3,aq 2003),(5,ab (W:Nat))]
theorem aeS {W a l k:Nat} (dc:x6 W):(((16*a/W+k:Nat):Int))*(W:Int)=(((16*a/W+k)*W:Nat):Int)/\max (((16*a:Nat):Int) - (((16*a/W+k)*W:Nat):Int)) 0=((bj W a l k).a:Int)/\(k < cD W a l->min (((16*(a+l):Nat):Int) - (((16*a/W+k)*W:Nat):Int)) (W:Int)=((bj W a l k).b:Int))/\(((16*a/W+k)*W:Nat):Int)+((bj W a l k).a:Int) - ((16*a:Nat):Int)=((bj W a l k).at_:Int):=by
 refine⟨by rw[Int.natCast_mul],?_,fun aa=>?_,?_⟩
 .unfold bj;simp only;omega
 .have h:=(tL (a:=a) (l:=l) (k:=k) dc).2 aa;unfold bj;simp only;omega
 .unfold bj;simp only;rcases dc with rfl |rfl |rfl |rfl <;>omega
theorem Ag (y W a l:Nat) (dc:x6 W) (ha:a<=10000) (ak:l<=10000) (fX:Nat->bc) (O: ∀k,Fn Tryz.prog 163 [aq 1001] [(1001,.aG (fX k))] [] (ab (W:Nat)) [(1001,.aG (fX k))])
  (aD: ∀k,k < cD W a l->xO Tryz.prog y [qx (bj W a l k)] [(1001,.aG (fX k))] (fun _:Unit=>q5 true) (fun _=>[(1001,.aG (fX (k+1)))])):
  Fn Tryz.prog 186 [CZ y,aq 2001,aq 2002,aq 2003] (Gr a l (fX 0)) [] (.ci []) [(1001,.aG (fX (cD W a l)))]:=by
 have x7:16<=W/\W<=128:=by rcases dc with rfl |rfl |rfl |rfl <;>omega
 refine aU [1,7] Tryz.func186 ?_;refine av (O 0) <| bu [7] (cM (aeR y W) (Gr a l (fX 0))) ?_;have m1:c1 ((a:Int)*16):=az2
 have m2:c1 ((a:Int)+(l:Int)):=az2
 have m3:c1 (((a:Int)+(l:Int))*16):=az2
 refine⟨m1,m2,m3,rfl,?_⟩;have bF:((a:Int)*16)/(W:Int)=((16*a/W+0:Nat):Int):=by rcases dc with rfl |rfl |rfl |rfl <;>omega
 have jr:(0:Int)<=(a:Int)*16/\(0:Int) < (W:Int):=az2
 have v7:16*a/W<=10000:=by rcases dc with rfl |rfl |rfl |rfl <;>omega
 have tM:c1 (((a:Int)*16)/(W:Int)):=by rw[bF];generalize 16*a/W=q at v7;omega
 refine⟨jr,tM,d2 [7] (X:=Nat) (Sr y W a l) (fun k=>Gr a l (fX k)) (fun k=>k<=cD W a l) (fun k=>cD W a l - k) 0 (aq8 _) ?_ ?_⟩
 .exact ac.sub ⟨rfl,rfl,rfl,rfl,rfl,(by show(a:Int)*16=((16*a:Nat):Int);omega),(by show((a:Int)+(l:Int))*16=((16*(a+l):Nat):Int);omega),bF,trivial⟩ aC
 intro k aa;obtain⟨g1,g2,cX,jD⟩:=aeS (a:=a) (l:=l) (k:=k) dc;have q4:=tL (a:=a) (l:=l) (k:=k) dc
 have fa:cD W a l<=30000:=by
  unfold cD;rcases dc with rfl |rfl |rfl |rfl <;>(split <;>omega)
 have dH:(16*a/W+k)*W<=40000*128:=av1 ay4 x7.2;have out: ∀(h: ¬k < cD W a l),k=cD W a l:=fun h=>by omega
 refine⟨fun E=>?_,fun E=>?_⟩
 .have E:(0:Int) < (l:Int):=gd E;have cU:c1 (((16*a/W+k:Nat):Int)*(W:Int)):=by rw[g1];omega
  refine⟨cU,fun G=>?_,fun G=>?_⟩
  .have G:((16*a/W+k:Nat):Int)*(W:Int) < ((16*(a+l):Nat):Int):=gd G;have rE:k < cD W a l:=q4.1 ⟨ay4,by rw[g1] at G;omega⟩;have dU:c1 (((16*a:Nat):Int) - ((16*a/W+k:Nat):Int)*(W:Int)):=by rw[g1];omega
   have ls:c1 (((16*(a+l):Nat):Int) - ((16*a/W+k:Nat):Int)*(W:Int)):=by rw[g1];omega
   refine⟨cU,dU,cU,ls,rfl,?_⟩;have sF:c1 (((16*a/W+k:Nat):Int)*(W:Int)+max (((16*a:Nat):Int) - ((16*a/W+k:Nat):Int)*(W:Int)) 0):=by rw[g1];omega
   have n5:c1 (((16*a/W+k:Nat):Int)*(W:Int)+max (((16*a:Nat):Int) - ((16*a/W+k:Nat):Int)*(W:Int)) 0 - ((16*a:Nat):Int)):=by rw[g1];omega
   refine⟨cU,sF,n5,?_⟩
   have e8: [bB.d (.int .i64 ((16*a/W+k:Nat):Int)),.d (.int .i64 (max (((16*a:Nat):Int) - ((16*a/W+k:Nat):Int)*(W:Int)) 0)),.d (.int .i64 (min (((16*(a+l):Nat):Int) - ((16*a/W+k:Nat):Int)*(W:Int)) (W:Int))),.d (.int .i64 (((16*a/W+k:Nat):Int)*(W:Int)+max (((16*a:Nat):Int) - ((16*a/W+k:Nat):Int)*(W:Int)) 0 - ((16*a:Nat):Int)))]=uZ (bj W a l k):=by
    rw[g1,g2,cX rE,jD];rfl
   refine bw.le (ac.sub (K':=(9,aq 9)::Sr y W a l k) (B':=(9,.cells (uZ (bj W a l k)))::Gr a l (fX k)) aC ⟨?_,rfl,rfl,rfl,rfl,trivial⟩) ?_
   .exact congrArg (fun l=>some (ba.cells l)) e8
   refine bw.iL e3 ay7 ?_;refine⟨Unit,_,_,_,aD k rE,aC,fun _=>rfl,fun _=>?_⟩;have n6:c1 (((16*a/W+k:Nat):Int)+1):=by generalize 16*a/W=q at v7;omega
   refine⟨n6,k+1,rE,ay4,ac.sub aC aC⟩
  .have G: ¬((16*a/W+k:Nat):Int)*(W:Int) < ((16*(a+l):Nat):Int):=mu G;have rE:k=cD W a l:=out fun h=>G (by have:=(q4.2 h).2;rw[g1];omega)
   subst rE;exact bg
 .have E: ¬(0:Int) < (l:Int):=mu E;have rE:k=cD W a l:=out fun h=>E (by have:=(q4.2 h).1;omega)
  subst rE;exact bg
theorem Ah (s:bE) (a l:Int):Fn Tryz.prog 145 [aq 1001,ab a,ab l] (dD s) [2001,2002,2003] (.c (.one (.cY 186 [.p 2001 0,.p 2002 0,.p 2003 0]))) (dD s++qy a l):=by
 refine aU [] Tryz.func145 ?_;exact⟨rfl,rfl,rfl,_,_,_,(ac.aV 3 2001 rfl).trans ((ac.aV 4 2002 rfl).trans (ac.aV 5 2003 rfl)),rfl,rfl,aC,rfl⟩
theorem aeT (s:bE) (ap:gh s) (c:Nat) (J:c < s.t.length):Fn Tryz.prog 146 [aq 1001,ab (c:Int),.c (.one (.bJ .nilFunc))] (dD s) [] (bQ .u8 (eh s c none)) (dD s):=
 Fn.d0 (aeO s ap.z ap.eS c J fun h=>by
  rcases ap.slot c _ (oj J) with ao |ao |⟨h,ao,_,xs,hx,ak⟩
  .rw[ao] at h;cases h
  .rw[ao] at h;cases h
  .rw[ao];exact⟨xs,hx,by have:=(tK ap.z).2;omega⟩) rfl rfl
def Ai (s:bE) (a l k:Nat):aC3:=((eh s (bj (aH s) a l k).c none).take (bj (aH s) a l k).b).drop (bj (aH s) a l k).a
def x8 (s:bE) (a l:Nat):Nat->aC3
 |0=>[]
 |k+1=>x8 s a l k++Ai s a l k
def La (s:bE) (a l:Nat):aC3:=x8 s a l (cD (aH s) a l)
abbrev aeU:aY:=[(3,aq 3),(9,aq 9)]
abbrev Lb (s:bE) (acc:aC3):az:=dD s++[(3,.cells [.ptr 1001 0]),(9,.cells [.own 5002]),(5002,.row 5 .u8 acc)]
abbrev aeV (s:bE) (acc:aC3):az:=dD s++[(3,.cells [.ptr 1001 0]),(9,.cells [.own 33]),(33,.row 5 .u8 acc)]
theorem Ss {s:bE} (ap:gh s) {a l:Nat}: ∀k,(x8 s a l k).length<=k*128
 |0=>aq0 _
 |k+1=>by
  have h:=Ss ap (a:=a) (l:=l) k
  have G:(Ai s a l k).length<=128:=by
   unfold Ai;rw[au9,aq9]
   have af:(bj (aH s) a l k).b<=128:=by
    unfold bj;simp only;have:=(tK ap.z).2;omega
   omega
  show(x8 s a l k++Ai s a l k).length<=_;rw[aq1];omega
theorem St (s:bE) (ap:gh s) (a l:Nat) (au:d3 s a l=0):Fn Tryz.prog 87 [aq 1001,ab (a:Int),ab (l:Int)] (dD s) [] (.ci [.one (.d (.co .u8 (La s a l))),dz 0]) (dD s):=by
 have dc:=ob ap.z
 have dB:(a:Int)+(l:Int)<=(e7 s:Nat):=by
  unfold d3 at au
  split at au
  .cases au
  .split at au
   .cases au
   .omega
 have x9:e7 s<=2048:=av1 ap.eS (jc ap.z).2;refine aU [4,5] Tryz.func87 ?_;refine⟨rfl,av (wD s ap a l) ?_⟩;rw[au];refine dt <| bu [5] (br) ⟨rfl,bu [] ((ac.wb 9 0 5002 5 .u8 rfl rfl rfl).trans (cM [(1,ab (a:Int)),(2,ab (l:Int)),(3,aq 3),(9,aq 9)] (Lb s []))) <| av (Ah s a l) <| bw.le (cM [(21,.c (.one (.cY 186 [.p 2001 0,.p 2002 0,.p 2003 0]))),(3,aq 3),(9,aq 9)] (qy a l++Lb s [])) <| bw.range e3 [] (pl:=[22]) rfl ay7 ay7 ay7 ay7 [1001,1002,1003,1004,3,9] _ aeU (qy a l) (fun k:Nat=>Lb s (x8 s a l k)) 1001 0 (cD (aH s) a l) (fun k aE dZ=>k < cD (aH s) a l/\aE=[qx (bj (aH s) a l k)]/\dZ=k+1) rfl az7 rfl rfl ?_ ?_ ?_⟩
 .rintro k aE dZ ⟨aa,rfl,rfl⟩;obtain⟨dQ,cW,dJ,dM⟩:=rD dc aa
  have J:(bj (aH s) a l k).c < s.t.length:=by
   have e:e7 s*16=s.t.length*aH s:=by unfold e7 aH;rw[Nat.mul_assoc,Nat.mul_comm (2 ^s.z) 16]
   have E:(bj (aH s) a l k).c*aH s < s.t.length*aH s:=az2
   exact Nat.lt_of_mul_lt_mul_right E
  have dH:=u0 ap J none;have bV:=Ss ap (a:=a) (l:=l) k
  have rE:k<=3000:=by
   have E:=(tL (a:=a) (l:=l) (k:=k) dc).2 aa;rcases dc with e |e |e |e <;>rw[e] at E <;>omega
  have m1:(0:Int)<=((bj (aH s) a l k).a:Int)/\((bj (aH s) a l k).a:Int)<=((bj (aH s) a l k).b:Int)/\((bj (aH s) a l k).b:Int)<=(((eh s (bj (aH s) a l k).c none).length:Nat):Int):=az2
  have m2:(x8 s a l k).length+(((eh s (bj (aH s) a l k).c none).take (bj (aH s) a l k).b).drop (bj (aH s) a l k).a).length<=4294967296:=by
   rw[au9,aq9];omega
  have aeW:=aeT s ap _ J;exact⟨rfl,rfl,rfl,rfl,av aeW ⟨m1,m2,rfl,rfl,rfl,(cM [] (aeV s (x8 s a l (k+1)))).trans (ac.aV 33 5002 rfl)⟩⟩
 .intro y fX rF aD;exact Ag y (aH s) a l dc ay4 ay4 fX (fun k=>rF _ _ _ k k (Fn.qv _ (qw s ap.z) rfl rfl) rfl rfl) (fun k aa=>aD k _ (k+1) ⟨aa,rfl,rfl⟩)
 .refine⟨_,_,_,ac.d0 5002 rfl,rfl,aC,aC,rfl⟩
theorem aeX (s:bE) (ap:gh s) (a l:Int) (au:d3 s a l≠0):Fn Tryz.prog 87 [aq 1001,ab a,ab l] (dD s) [] (.ci [.one .dK,dz (d3 s a l)]) (dD s):=by
 refine aU [] Tryz.func87 ?_;refine⟨rfl,av (wD s ap a l) ?_⟩;exact⟨fun _=>bg,fun h=>absurd (show d3 s a l=0 by have h:(!decide (d3 s a l=0))=false:=h;simpa using h) au⟩
theorem rG {s:bE} (ap:gh s) {a l:Nat} (dB:a+l<=e7 s) {k:Nat} (aa:k < cD (aH s) a l):(bj (aH s) a l k).c < s.t.length/\k<=3000:=by
 have dc:=ob ap.z;have x9:e7 s<=2048:=av1 ap.eS (jc ap.z).2;obtain⟨dQ,cW,dJ,dM⟩:=rD dc aa;refine⟨?_,?_⟩
 .have e:e7 s*16=s.t.length*aH s:=by unfold e7 aH;rw[Nat.mul_assoc,Nat.mul_comm (2 ^s.z) 16]
  have E:(bj (aH s) a l k).c*aH s < s.t.length*aH s:=az2
  exact Nat.lt_of_mul_lt_mul_right E
 .have E:=(tL (a:=a) (l:=l) (k:=k) dc).2 aa;rcases dc with e |e |e |e <;>rw[e] at E <;>omega
theorem oc {s:bE} {a l:Nat} (au:d3 s a l=0):a+l<=e7 s:=by
 unfold d3 at au
 split at au
 .cases au
 .split at au
  .cases au
  .omega
def h4 (s:bE) (a l:Nat):Nat->Nat
 |0=>0
 |k+1=>h4 s a l k+(if hq s (bj (aH s) a l k).c=true then 1 else 0)
def pM (bs:aC3) (p:mU):aC3:=(bs.take (p.at_+p.b - p.a)).drop p.at_
def iZ (s:bE) (a l:Nat) (bs:aC3) (y:Nat->aC3):Nat->bE
 |0=>s
 |k+1=>x5 (iZ s a l bs y k) (bj (aH s) a l k) (pM bs (bj (aH s) a l k)) (y (bj (aH s) a l k).c)
theorem aeY (s:bE) (a l k:Nat):h4 s a l k<=k:=by
 induction k with
 |zero=>exact aq0 _
 |succ k bq=>
  show h4 s a l k+_<=k+1
  split <;>omega
abbrev Lc (s:bE) (bo:bn->bc) (bs:aC3) (b1 b2:Nat) (n:Nat):az:=f1 s bo++[(4,.cells [.ptr 1001 0]),(6,.cells [.d (.co .u8 bs)]),(7,.cells [.d (.fn (158,[b1,b2]))]),(11,.cells [.d (.int .i64 (n:Int))])]
abbrev C0 (s:bE) (bo:bn->bc) (bs:aC3) (b1 b2:Nat):az:=f1 s bo++[(4,.cells [.ptr 1001 0]),(6,.cells [.d (.co .u8 bs)]),(7,.cells [.d (.fn (158,[b1,b2]))])]
abbrev Ld (a l:Nat):aY:=[(1,ab (a:Int)),(4,aq 4),(6,aq 6),(7,aq 7),(9,ab (l:Int))]
abbrev Le (a l:Nat):aY:=[(1,ab (a:Int)),(4,aq 4),(6,aq 6),(7,aq 7),(9,ab (l:Int)),(11,aq 11)]
theorem aeZ (s:bE) (bo:bn->bc) (b1 b2:Nat) (ap:gh s) (a l:Nat) (bs:aC3) (fR:bs.length=16*l) (au:d3 s a l=0) (y:Nat->aC3) (r:Int) (s':bE) (fU:dV s.l < h4 s a l (cD (aH s) a l)->r=120/\s'=s) (Lf:h4 s a l (cD (aH s) a l)<=dV s.l->r=0/\s'=iZ s a l bs y (cD (aH s) a l))
  (en:h4 s a l (cD (aH s) a l)<=dV s.l-> ∀k,k < cD (aH s) a l->Fn Tryz.prog 161 [aq 1001,qx (bj (aH s) a l k),bQ .u8 (pM bs (bj (aH s) a l k)),nq b1 b2] (f1 (iZ s a l bs y k) bo) [] gO (f1 (iZ s a l bs y (k+1)) bo)) (Aj:h4 s a l (cD (aH s) a l)<=dV s.l-> ∀k,k<=cD (aH s) a l->(iZ s a l bs y k).z=s.z):
  Fn Tryz.prog 106 [aq 1001,ab (a:Int),bQ .u8 bs,nq b1 b2] (f1 s bo) [] (ab r) (f1 s' bo):=by
 have dc:=ob ap.z;have dB:=oc au;have x9:e7 s<=2048:=av1 ap.eS (jc ap.z).2;have aT:((bs.length:Nat):Int)/16=(l:Int):=az2
 have ax:((bs.length:Nat):Int) % 16=0:=az2
 refine aU [4,7,8,12,14,17] Tryz.func106 ?_;refine⟨rfl,rfl,rfl,?_⟩;have m1:(0:Int)<=((bs.length:Nat):Int)/\(0:Int) < 16:=az2
 have m2:c1 (((bs.length:Nat):Int)/16):=az2
 have m3:c1 (((bs.length:Nat):Int) % 16):=az2
 refine⟨m1,m2,m1,m3,?_⟩
 refine⟨fun h=>(by
  have h:(!decide ((((bs.length:Nat):Int)) % 16=0))=true:=h;rw[ar0 ax] at h
  cases h),fun _=>?_⟩
 refine bu [7] (ac.sub (K':=[(1,ab (a:Int)),(4,aq 4),(6,aq 6),(7,aq 7),(9,ab (l:Int))]) (B':=C0 s bo bs b1 b2) ⟨rfl,rfl,rfl,rfl,aT,trivial⟩ aC) <| av (wD s ap a l) ?_;rw[au];refine dt <| bu [8] (br) ⟨rfl,bu [] (cM (Le a l) (Lc s bo bs b1 b2 0)) <| av (Ah s a l) <| bw.le (cM ((31,.c (.one (.cY 186 [.p 2001 0,.p 2002 0,.p 2003 0])))::Le a l) (qy a l++Lc s bo bs b1 b2 0)) <| bw.range e3 [] (pl:=[32]) rfl ay7 ay7 ay7 ay7 [1001,1002,1003,1004,9000,4,6,7,11] _ (Le a l) (qy a l) (fun k:Nat=>Lc s bo bs b1 b2 (h4 s a l k)) 1001 0 (cD (aH s) a l) (fun k aE dZ=>k < cD (aH s) a l/\aE=[qx (bj (aH s) a l k)]/\dZ=k+1) rfl az7 rfl rfl ?_ ?_ ?_⟩
 .rintro k aE dZ ⟨aa,rfl,rfl⟩;obtain⟨J,rE⟩:=rG ap dB aa;have Lg:=aeY s a l k;refine⟨rfl,rfl,rfl,rfl,av (K7 s ap.eS _ J) ⟨fun hn=>?_,fun hn=>?_⟩⟩
  .have e:((h4 s a l k:Nat):Int)+1=((h4 s a l (k+1):Nat):Int):=by
    show _=((h4 s a l k+_:Nat):Int);rw[if_pos hn];omega
   have jr:c1 (((h4 s a l k:Nat):Int)+1):=az2
   refine⟨jr,?_⟩;exact⟨rfl,ac.sub trivial ⟨rfl,rfl,rfl,rfl,rfl,rfl,rfl,rfl,by rw[<-e];rfl,trivial⟩⟩
  .have e:h4 s a l (k+1)=h4 s a l k:=by
    show h4 s a l k+_=_;rw[if_neg (by rw[hn];decide)];exact aw3 _
   exact⟨rfl,ac.sub trivial ⟨rfl,rfl,rfl,rfl,rfl,rfl,rfl,rfl,by rw[e];rfl,trivial⟩⟩
 .intro y fX rF aD;exact Ag y (aH s) a l dc ay4 ay4 fX (fun k=>rF _ _ _ k k (Fn.qv [(9000,.b5 1001 bo),(4,.cells [.ptr 1001 0]),(6,.cells [.d (.co .u8 bs)]),(7,.cells [.d (.fn (158,[b1,b2]))]),(11,.cells [.d (.int .i64 (h4 s a l k:Int))])] (qw s ap.z) rfl rfl) rfl rfl) (fun k aa=>aD k _ (k+1) ⟨aa,rfl,rfl⟩)
 .have aN:dV s.l<=512:=aw2 (K4 _) ap.lu;refine bu [14,17] (br) ?_;refine av (Sg s (by have:=ap.lu;omega)) ⟨rfl,fun h=>?_,fun h=>?_⟩
  .have h:((dV s.l:Nat):Int) < ((h4 s a l (cD (aH s) a l):Nat):Int):=gd h;obtain⟨rfl,rfl⟩:=fU ay4;exact bg
  have h: ¬((dV s.l:Nat):Int) < ((h4 s a l (cD (aH s) a l):Nat):Int):=mu h;have dC:h4 s a l (cD (aH s) a l)<=dV s.l:=az2
  obtain⟨rfl,rfl⟩:=Lf dC;have en:=en dC;have Aj:=Aj dC;refine bu [17] (cM (Ld a l) (C0 s bo bs b1 b2)) <| av (Ah s a l) <| bw.le (cM ((45,.c (.one (.cY 186 [.p 2001 0,.p 2002 0,.p 2003 0])))::Ld a l) (qy a l++C0 s bo bs b1 b2)) <| bw.range e3 [] (pl:=[46]) rfl ay7 ay7 ay7 ay7 [1001,1002,1003,1004,9000,4,6,7] _ (Ld a l) (qy a l) (fun k:Nat=>C0 (iZ s a l bs y k) bo bs b1 b2) 1001 0 (cD (aH s) a l) (fun k aE dZ=>k < cD (aH s) a l/\aE=[qx (bj (aH s) a l k)]/\dZ=k+1) rfl az7 rfl rfl ?_ ?_ ?_
  .rintro k aE dZ ⟨aa,rfl,rfl⟩;obtain⟨J,rE⟩:=rG ap dB aa;obtain⟨dQ,cW,dJ,dM⟩:=rD dc aa;have en:=en k aa;have hw:=tK ap.z;refine⟨rfl,rfl,rfl,rfl,?_⟩
   have hx:pM bs (bj (aH s) a l k)=(bs.take (((bj (aH s) a l k).at_:Int)+((bj (aH s) a l k).b:Int) - ((bj (aH s) a l k).a:Int)).toNat).drop (((bj (aH s) a l k).at_:Int)).toNat:=by
    unfold pM;rw[show(((bj (aH s) a l k).at_:Int)+((bj (aH s) a l k).b:Int) - ((bj (aH s) a l k).a:Int)).toNat=(bj (aH s) a l k).at_+(bj (aH s) a l k).b - (bj (aH s) a l k).a by omega];rfl
   have jr:c1 (((bj (aH s) a l k).at_:Int)+((bj (aH s) a l k).b:Int)):=az2
   have tM:c1 (((bj (aH s) a l k).at_:Int)+((bj (aH s) a l k).b:Int) - ((bj (aH s) a l k).a:Int)):=az2
   have rH:(0:Int)<=((bj (aH s) a l k).at_:Int)/\((bj (aH s) a l k).at_:Int)<=((bj (aH s) a l k).at_:Int)+((bj (aH s) a l k).b:Int) - ((bj (aH s) a l k).a:Int)/\((bj (aH s) a l k).at_:Int)+((bj (aH s) a l k).b:Int) - ((bj (aH s) a l k).a:Int)<=((bs.length:Nat):Int):=az2
   rw[hx] at en;exact⟨jr,tM,rH,av en ⟨rfl,rfl,ac.sub trivial aC⟩⟩
  .intro x' fX rF aD
   have h:=Ag x' (aH s) a l dc ay4 ay4 (fun k=>fX (min k (cD (aH s) a l))) (fun k=>rF _ _ _ (min k (cD (aH s) a l)) (min k (cD (aH s) a l)) (by
    have O:=Aj (min k (cD (aH s) a l)) (Nat.min_le_right _ _);have G:=qw (iZ s a l bs y (min k (cD (aH s) a l))) (by rw[O];exact ap.z);rw[show aH (iZ s a l bs y (min k (cD (aH s) a l)))=aH s from congrArg (fun b=>16*2 ^b) O] at G
    exact Fn.qv [(9000,.b5 1001 bo),(4,.cells [.ptr 1001 0]),(6,.cells [.d (.co .u8 bs)]),(7,.cells [.d (.fn (158,[b1,b2]))])] G rfl rfl) rfl rfl) (fun k aa=>by
    have h:=aD k _ (k+1) ⟨aa,rfl,rfl⟩;rw[Nat.min_eq_left ay4,Nat.min_eq_left ay4];exact h)
   simp only[Nat.zero_min,Nat.min_self] at h;exact h
  .show bw _ _ _ _ _ _ _;exact bu [] (br) bg
theorem ae0 (s:bE) (bo:bn->bc) (b1 b2:Nat) (a:Int) (bs:aC3) (h:bs.length % 16≠0) (ak:bs.length<=1000000000):Fn Tryz.prog 106 [aq 1001,ab a,bQ .u8 bs,nq b1 b2] (f1 s bo) [] (ab 1) (f1 s bo):=by
 have ax: ¬((bs.length:Nat):Int) % 16=0:=az2
 refine aU [] Tryz.func106 ?_;refine⟨rfl,rfl,rfl,?_⟩;have m1:(0:Int)<=((bs.length:Nat):Int)/\(0:Int) < 16:=az2
 have m2:c1 (((bs.length:Nat):Int)/16):=az2
 have m3:c1 (((bs.length:Nat):Int) % 16):=az2
 refine⟨m1,m2,m1,m3,?_⟩
 refine⟨fun _=>?_,fun h=>(by
  have h:(!decide ((((bs.length:Nat):Int)) % 16=0))=false:=h;rw[at0 ax] at h
  cases h)⟩
 exact bg
theorem ae1 (s:bE) (bo:bn->bc) (b1 b2:Nat) (ap:gh s) (a:Int) (l:Nat) (bs:aC3) (fR:bs.length=16*l) (ak:l<=100000000) (au:d3 s a l≠0):Fn Tryz.prog 106 [aq 1001,ab a,bQ .u8 bs,nq b1 b2] (f1 s bo) [] (ab (d3 s a l)) (f1 s bo):=by
 have aT:((bs.length:Nat):Int)/16=(l:Int):=az2
 have ax:((bs.length:Nat):Int) % 16=0:=az2
 refine aU [4] Tryz.func106 ?_;refine⟨rfl,rfl,rfl,?_⟩;have m1:(0:Int)<=((bs.length:Nat):Int)/\(0:Int) < 16:=az2
 have m2:c1 (((bs.length:Nat):Int)/16):=az2
 have m3:c1 (((bs.length:Nat):Int) % 16):=az2
 refine⟨m1,m2,m1,m3,?_⟩
 refine⟨fun h=>(by
  have h:(!decide ((((bs.length:Nat):Int)) % 16=0))=true:=h;rw[ar0 ax] at h
  cases h),fun _=>?_⟩
 refine bu [] (ac.sub (K':=[(1,ab a),(4,aq 4),(9,ab (l:Int))]) (B':=C0 s bo bs b1 b2) ⟨rfl,rfl,aT,trivial⟩ aC) <| av (wD s ap a l) ?_;exact⟨fun _=>bg,fun h=>absurd (show d3 s a l=0 by have h:(!decide (d3 s a l=0))=false:=h;simpa using h) au⟩
def jL (s:bE) (a l:Nat):Nat->bE
 |0=>s
 |k+1=>if(bj (aH s) a l k).b - (bj (aH s) a l k).a=aH s then rC (jL s a l k) (bj (aH s) a l k).c ck else jL s a l k
abbrev Lh (s:bE):az:=dD s++[(3,.cells [.ptr 1001 0])]
abbrev Su:aY:=[(3,aq 3)]
theorem ae2 (s:bE) (ap:gh s) (a l:Nat) (au:d3 s a l=0) (en: ∀k,k < cD (aH s) a l->Fn Tryz.prog 164 [aq 1001,ab ((bj (aH s) a l k).c:Int),.c (pJ ck)] (dD (jL s a l k)) [] gO (dD (rC (jL s a l k) (bj (aH s) a l k).c ck))) (Aj: ∀k,k<=cD (aH s) a l->(jL s a l k).z=s.z):
  Fn Tryz.prog 110 [aq 1001,ab (a:Int),ab (l:Int)] (dD s) [] (ab 0) (dD (jL s a l (cD (aH s) a l))):=by
 have dc:=ob ap.z;have hw:=tK ap.z;have dB:=oc au;have x9:e7 s<=2048:=av1 ap.eS (jc ap.z).2;refine aU [4,8] Tryz.func110 ?_;refine⟨rfl,av (wD s ap a l) ?_⟩;rw[au];refine dt <| bu [8] (cM [(1,ab (a:Int)),(2,ab (l:Int)),(3,aq 3)] (Lh s)) <| av (Ah s a l) <| bw.le (cM ((19,.c (.one (.cY 186 [.p 2001 0,.p 2002 0,.p 2003 0])))::Su) (qy a l++Lh s)) <| bw.range e3 [] (pl:=[20]) rfl ay7 ay7 ay7 ay7 [1001,1002,1003,1004,3] _ Su (qy a l) (fun k:Nat=>Lh (jL s a l k)) 1001 0 (cD (aH s) a l) (fun k aE dZ=>k < cD (aH s) a l/\aE=[qx (bj (aH s) a l k)]/\dZ=k+1) rfl az7 rfl rfl ?_ ?_ ?_
 .rintro k aE dZ ⟨aa,rfl,rfl⟩;obtain⟨dQ,cW,dJ,dM⟩:=rD dc aa;have en:=en k aa;have O:=Aj k (Nat.le_of_lt aa);have G:=qw (jL s a l k) (by rw[O];exact ap.z);rw[show aH (jL s a l k)=aH s from congrArg (fun b=>16*2 ^b) O] at G;have jr:c1 (((bj (aH s) a l k).b:Int) - ((bj (aH s) a l k).a:Int)):=az2
  refine⟨rfl,rfl,rfl,rfl,jr,av G ⟨rfl,fun h=>?_,fun h=>?_⟩⟩
  .have h:((bj (aH s) a l k).b:Int) - ((bj (aH s) a l k).a:Int)=((aH s:Nat):Int):=gd h;have e:jL s a l (k+1)=rC (jL s a l k) (bj (aH s) a l k).c ck:=if_pos ay4;refine av (Fn.arg en ⟨rfl,rfl,aC,trivial⟩) ?_;rw[e];exact⟨rfl,ac.sub trivial aC⟩
  .have h: ¬((bj (aH s) a l k).b:Int) - ((bj (aH s) a l k).a:Int)=((aH s:Nat):Int):=mu h;have e:jL s a l (k+1)=jL s a l k:=if_neg ay4;rw[e];exact⟨rfl,ac.sub trivial aC⟩
 .intro x' fX rF aD
  have h:=Ag x' (aH s) a l dc ay4 ay4 (fun k=>fX (min k (cD (aH s) a l))) (fun k=>rF _ _ _ (min k (cD (aH s) a l)) (min k (cD (aH s) a l)) (by
   have O:=Aj (min k (cD (aH s) a l)) (Nat.min_le_right _ _);have G:=qw (jL s a l (min k (cD (aH s) a l))) (by rw[O];exact ap.z);rw[show aH (jL s a l (min k (cD (aH s) a l)))=aH s from congrArg (fun b=>16*2 ^b) O] at G
   exact Fn.qv [(3,.cells [.ptr 1001 0])] G rfl rfl) rfl rfl) (fun k aa=>by
   have h:=aD k _ (k+1) ⟨aa,rfl,rfl⟩;rw[Nat.min_eq_left ay4,Nat.min_eq_left ay4];exact h)
  simp only[Nat.zero_min,Nat.min_self] at h;exact h
 .show bw _ _ _ _ _ _ _;exact bu [] (br) bg
theorem ae3 (s:bE) (ap:gh s) (a l:Int) (au:d3 s a l≠0):Fn Tryz.prog 110 [aq 1001,ab a,ab l] (dD s) [] (ab (d3 s a l)) (dD s):=by
 refine aU [] Tryz.func110 ?_;refine⟨rfl,av (wD s ap a l) ?_⟩;exact⟨fun _=>bg,fun h=>absurd (show d3 s a l=0 by have h:(!decide (d3 s a l=0))=false:=h;simpa using h) au⟩
end
section
def kM (s:bE) (p:mU):Bool:=decide (p.b - p.a=aH s)
theorem Sv (s:bE) (O:s.z<=3) (p:mU) (E:p.a<=p.b) (G:p.b<=1000):Fn Tryz.prog 162 [qx p,aq 4] (dD s++[(4,.cells [.ptr 1001 0])]) [] (fI (kM s p)) (dD s++[(4,.cells [.ptr 1001 0])]):=by
 have jr:c1 ((p.b:Int) - (p.a:Int)):=az2
 refine aU [] Tryz.func162 ?_;refine⟨rfl,jr,av (qw s O) ⟨rfl,_,_,_,br,rfl,?_,aC,rfl⟩⟩;show decide ((p.b:Int) - (p.a:Int)=((aH s:Nat):Int))=kM s p;unfold kM;exact decide_eq_decide.2 ay4
def od (s:bE) (p:mU):Bool:= !kM s p&&(decide ((s.t.getD p.c ck).1≠2)&&hq s p.c)
def hb (s:bE) (a l:Nat):Nat->Nat
 |0=>0
 |k+1=>hb s a l k+(if od s (bj (aH s) a l k)=true then 1 else 0)
theorem ae4 (s:bE) (a l k:Nat):hb s a l k<=k:=by
 induction k with
 |zero=>exact aq0 _
 |succ k bq=>
  show hb s a l k+_<=k+1
  split <;>omega
abbrev tN:fd:=((2:Int),(0:Int),false)
abbrev tO (n:Nat):aC3:=List.replicate n (0:UInt8)
def u2 (s:bE) (p:mU) (y:aC3):bE:=if kM s p=true then rC s p.c tN else if(s.t.getD p.c ck).1=2 then s else x5 s p (tO (p.b - p.a)) y
def ew (s:bE) (a l:Nat) (y:Nat->aC3):Nat->bE
 |0=>s
 |k+1=>u2 (ew s a l y k) (bj (aH s) a l k) (y (bj (aH s) a l k).c)
abbrev ya (s:bE) (bo:bn->bc) (b1 b2:Nat):az:=f1 s bo++[(4,.cells [.ptr 1001 0]),(7,.cells [.d (.fn (158,[b1,b2]))]),(10,.cells [.cY 162 [.p 4 0]])]
abbrev Gs (s:bE) (bo:bn->bc) (b1 b2:Nat) (n:Nat):az:=f1 s bo++[(4,.cells [.ptr 1001 0]),(7,.cells [.d (.fn (158,[b1,b2]))]),(10,.cells [.cY 162 [.p 4 0]]),(11,.cells [.d (.int .i64 (n:Int))])]
abbrev Gt (a l:Nat):aY:=[(1,ab (a:Int)),(2,ab (l:Int)),(4,aq 4),(7,aq 7),(10,aq 10)]
abbrev ae5:aY:=[(1000000+116,.undef),(1000000+159,.undef)]
abbrev Li (a l:Nat):aY:=ae5++[(1,ab (a:Int)),(2,ab (l:Int)),(4,aq 4),(7,aq 7),(10,aq 10),(11,aq 11)]
theorem Ak (s:bE) (ak:s.t.length<=256) (c:Nat) (J:c < s.t.length):Fn Tryz.prog 116 [aq 1001,ab (c:Int)] (dD s) [] (ab (s.t.getD c ck).1) (dD s):=by
 have h:=aeM s ak c J;have e:s.t[c]=s.t.getD c ck:=by rw[aq3,oj J];rfl
 rwa[e] at h
theorem ae6 (s:bE) (bo:bn->bc) (b1 b2:Nat) (ap:gh s) (a l:Nat) (au:d3 s a l=0) (y:Nat->aC3) (r:Int) (s':bE) (fU:dV s.l < hb s a l (cD (aH s) a l)->r=120/\s'=s) (Lf:hb s a l (cD (aH s) a l)<=dV s.l->r=0/\s'=ew s a l y (cD (aH s) a l))
  (Gu:hb s a l (cD (aH s) a l)<=dV s.l-> ∀k,k<=cD (aH s) a l->gh (ew s a l y k)/\(ew s a l y k).z=s.z/\(ew s a l y k).t.length=s.t.length)
  (gV:hb s a l (cD (aH s) a l)<=dV s.l-> ∀k,k < cD (aH s) a l->kM s (bj (aH s) a l k)=true->Fn Tryz.prog 164 [aq 1001,ab ((bj (aH s) a l k).c:Int),.c (pJ tN)] (dD (ew s a l y k)) [] gO (dD (ew s a l y (k+1))))
  (rI:hb s a l (cD (aH s) a l)<=dV s.l-> ∀k,k < cD (aH s) a l->kM s (bj (aH s) a l k)=false->((ew s a l y k).t.getD (bj (aH s) a l k).c ck).1≠2->Fn Tryz.prog 161 [aq 1001,qx (bj (aH s) a l k),bQ .u8 (tO ((bj (aH s) a l k).b - (bj (aH s) a l k).a)),nq b1 b2] (f1 (ew s a l y k) bo) [] gO (f1 (ew s a l y (k+1)) bo)):
  Fn Tryz.prog 108 [aq 1001,ab (a:Int),ab (l:Int),nq b1 b2] (f1 s bo) [] (ab r) (f1 s' bo):=by
 have dc:=ob ap.z;have hw:=tK ap.z;have dB:=oc au;have x9:e7 s<=2048:=av1 ap.eS (jc ap.z).2;refine aU [4,5,6,10,12,18] Tryz.func108 ?_;refine⟨rfl,rfl,av (wD s ap a l) ?_⟩;rw[au];refine dt <| bu [5,6] (br) ⟨rfl,bu [6] (cM (Gt a l) (ya s bo b1 b2)) ⟨rfl,bw.mR 159 ay5 (bw.mR 116 ay5 <| bu [] (ac.sub (K':=Li a l) (B':=Gs s bo b1 b2 0) ⟨trivial,trivial,rfl,rfl,rfl,rfl,rfl,rfl,trivial⟩ aC) <| av (Ah s a l) <| bw.le (ac.sub (K':=(25,.c (.one (.cY 186 [.p 2001 0,.p 2002 0,.p 2003 0])))::Li a l) (B':=qy a l++Gs s bo b1 b2 0) ⟨rfl,trivial,trivial,rfl,rfl,rfl,rfl,rfl,rfl,trivial⟩ aC) <| bw.range e3 [9] (pl:=[26]) rfl ay7 ay7 ay7 ay7 [1001,1002,1003,1004,9000,4,7,10,11] _ (Li a l) (qy a l) (fun k:Nat=>Gs s bo b1 b2 (hb s a l k)) 1001 0 (cD (aH s) a l) (fun k aE dZ=>k < cD (aH s) a l/\aE=[qx (bj (aH s) a l k)]/\dZ=k+1) rfl (by exact⟨trivial,trivial,rfl,rfl,rfl,rfl,rfl,rfl,trivial⟩) rfl rfl ?_ ?_ ?_)⟩⟩
 .rintro k aE dZ ⟨aa,rfl,rfl⟩;obtain⟨J,rE⟩:=rG ap dB aa;obtain⟨dQ,cW,dJ,dM⟩:=rD dc aa;have Lg:=ae4 s a l k
  have bF:od s (bj (aH s) a l k)=false->hb s a l (k+1)=hb s a l k:=fun hn=>by
   show hb s a l k+_=_;rw[if_neg (by rw[hn];decide)];exact aw3 _
  have ae:od s (bj (aH s) a l k)=true->((hb s a l k:Nat):Int)+1=((hb s a l (k+1):Nat):Int):=fun hn=>by
   show _=((hb s a l k+_:Nat):Int);rw[if_pos hn];omega
  have jr:c1 (((hb s a l k:Nat):Int)+1):=az2
  have Gv:=Sv s ap.z (bj (aH s) a l k) dQ ay4;refine⟨rfl,rfl,rfl,rfl,av Gv ⟨fun hn=>?_,fun hn=>?_⟩⟩
  .have hn:kM s (bj (aH s) a l k)=false:=by simpa using hn
   refine ws rfl rfl rfl (Ak s ap.eS _ J) ⟨fun hC=>?_,fun hC=>?_⟩
   .have hC: ¬(s.t.getD (bj (aH s) a l k).c ck).1=2:=by
     have hC:(!decide ((s.t.getD (bj (aH s) a l k).c ck).1=2))=true:=hC;simpa using hC
    refine ws rfl rfl rfl (K7 s ap.eS _ J) ⟨fun FR=>?_,fun FR=>?_⟩
    .have aN:od s (bj (aH s) a l k)=true:=by
      unfold od;rw[hn,ar0 hC,FR];rfl
     refine bu [] (cM [(11,aq 11)] (Gs s bo b1 b2 (hb s a l k))) ⟨jr,?_⟩;exact⟨rfl,ac.sub trivial ⟨rfl,rfl,rfl,rfl,rfl,rfl,rfl,rfl,by rw[<-ae aN];rfl,trivial⟩⟩
    .have aN:od s (bj (aH s) a l k)=false:=by
      unfold od;rw[FR,Bool.and_false,Bool.and_false]
     exact⟨rfl,ac.sub trivial ⟨rfl,rfl,rfl,rfl,rfl,rfl,rfl,rfl,by rw[bF aN];rfl,trivial⟩⟩
   .have hC:(s.t.getD (bj (aH s) a l k).c ck).1=2:=by
     have hC:(!decide ((s.t.getD (bj (aH s) a l k).c ck).1=2))=false:=hC;simpa using hC
    have aN:od s (bj (aH s) a l k)=false:=by
     unfold od;rw[at0 (fun h=>h hC),Bool.false_and,Bool.and_false]
    exact⟨rfl,ac.sub trivial ⟨rfl,rfl,rfl,rfl,rfl,rfl,rfl,rfl,by rw[bF aN];rfl,trivial⟩⟩
  .have hn:kM s (bj (aH s) a l k)=true:=by simpa using hn
   have aN:od s (bj (aH s) a l k)=false:=by
    unfold od;rw[hn];rfl
   exact⟨rfl,ac.sub trivial ⟨rfl,rfl,rfl,rfl,rfl,rfl,rfl,rfl,by rw[bF aN];rfl,trivial⟩⟩
 .intro x' fX rF aD;exact Ag x' (aH s) a l dc ay4 ay4 fX (fun k=>rF _ _ _ k k (Fn.qv [(9000,.b5 1001 bo),(4,.cells [.ptr 1001 0]),(7,.cells [.d (.fn (158,[b1,b2]))]),(10,.cells [.cY 162 [.p 4 0]]),(11,.cells [.d (.int .i64 (hb s a l k:Int))])] (qw s ap.z) rfl rfl) rfl rfl) (fun k aa=>aD k _ (k+1) ⟨aa,rfl,rfl⟩)
 .have aN:dV s.l<=512:=aw2 (K4 _) ap.lu;refine bu [12,18] (br) ?_;refine av (Sg s (by have:=ap.lu;omega)) ⟨rfl,fun h=>?_,fun h=>?_⟩
  .have h:((dV s.l:Nat):Int) < ((hb s a l (cD (aH s) a l):Nat):Int):=gd h;obtain⟨rfl,rfl⟩:=fU ay4;exact bg
  have h: ¬((dV s.l:Nat):Int) < ((hb s a l (cD (aH s) a l):Nat):Int):=mu h;have dC:hb s a l (cD (aH s) a l)<=dV s.l:=az2
  obtain⟨rfl,rfl⟩:=Lf dC;have Gu:=Gu dC;have gV:=gV dC;have rI:=rI dC;refine bu [18] (cM (Gt a l) (ya s bo b1 b2)) <| av (Ah s a l) <| bw.le (cM ((52,.c (.one (.cY 186 [.p 2001 0,.p 2002 0,.p 2003 0])))::Gt a l) (qy a l++ya s bo b1 b2)) <| bw.range e3 [15,16,17] (pl:=[53]) rfl ay7 ay7 ay7 ay7 [1001,1002,1003,1004,9000,4,7,10] _ (Gt a l) (qy a l) (fun k:Nat=>ya (ew s a l y k) bo b1 b2) 1001 0 (cD (aH s) a l) (fun k aE dZ=>k < cD (aH s) a l/\aE=[qx (bj (aH s) a l k)]/\dZ=k+1) rfl az7 rfl rfl ?_ ?_ ?_
  .rintro k aE dZ ⟨aa,rfl,rfl⟩;obtain⟨J,rE⟩:=rG ap dB aa;obtain⟨dQ,cW,dJ,dM⟩:=rD dc aa;obtain⟨fq,gP,mW⟩:=Gu k (Nat.le_of_lt aa);have gV:=gV k aa;have rI:=rI k aa;have Sw:aH (ew s a l y k)=aH s:=congrArg (fun b=>16*2 ^b) gP;have Gv:=Sv (ew s a l y k) fq.z (bj (aH s) a l k) dQ ay4;rw[show kM (ew s a l y k) (bj (aH s) a l k)=kM s (bj (aH s) a l k) by unfold kM;rw[Sw]] at Gv
   have ae7:kM s (bj (aH s) a l k)=false->kM (ew s a l y k) (bj (aH s) a l k)=false:=fun h=>by
    unfold kM;rw[Sw];exact h
   have ae8:ew s a l y (k+1)=u2 (ew s a l y k) (bj (aH s) a l k) (y (bj (aH s) a l k).c):=rfl;refine⟨rfl,rfl,rfl,rfl,av Gv ⟨fun hn=>?_,fun hn=>?_⟩⟩
   .have gV:=gV hn;exact bu [] (cM [(4,aq 4),(13,aq 13)] ((13,.cells (uZ (bj (aH s) a l k)))::ya (ew s a l y k) bo b1 b2)) <| av (Fn.arg gV ⟨rfl,rfl,aC,trivial⟩) ⟨rfl,ac.sub trivial aC⟩
   .show bw _ _ _ _ _ _ _;refine bu [17] (cM [(4,aq 4),(7,aq 7),(13,aq 13)] ((13,.cells (uZ (bj (aH s) a l k)))::ya (ew s a l y k) bo b1 b2)) ?_;refine av (Ak (ew s a l y k) fq.eS _ (by rw[mW];exact J)) ⟨fun hC=>?_,fun hC=>?_⟩
    .have hC: ¬((ew s a l y k).t.getD (bj (aH s) a l k).c ck).1=2:=by
      have hC:(!decide (((ew s a l y k).t.getD (bj (aH s) a l k).c ck).1=2))=true:=hC;simpa using hC
     have rI:=rI hn hC;have jr:c1 (((bj (aH s) a l k).b:Int) - ((bj (aH s) a l k).a:Int)):=az2
     have tM:((bj (aH s) a l k).b:Int) - ((bj (aH s) a l k).a:Int)=((bj (aH s) a l k).b:Int) - ((bj (aH s) a l k).a:Int)/\(0:Int)<=((bj (aH s) a l k).b:Int) - ((bj (aH s) a l k).a:Int)/\((bj (aH s) a l k).b:Int) - ((bj (aH s) a l k).a:Int)<=4294967296:=az2
     refine bu [] (cM [(4,aq 4),(7,aq 7),(13,aq 13)] ((13,.cells (uZ (bj (aH s) a l k)))::ya (ew s a l y k) bo b1 b2)) ⟨jr,tM,rfl,?_⟩
     have hx:tO ((bj (aH s) a l k).b - (bj (aH s) a l k).a)=List.replicate (((bj (aH s) a l k).b:Int) - ((bj (aH s) a l k).a:Int)).toNat (0:UInt8):=by
      rw[show(((bj (aH s) a l k).b:Int) - ((bj (aH s) a l k).a:Int)).toNat=(bj (aH s) a l k).b - (bj (aH s) a l k).a by omega]
     rw[hx] at rI;exact av (Fn.own (d:=76) (args:=[aq 1001,qx (bj (aH s) a l k),eM 76,nq b1 b2]) (e:=5) (u:=.u8) (xs:=List.replicate (((bj (aH s) a l k).b:Int) - ((bj (aH s) a l k).a:Int)).toNat (0:UInt8)) rI rfl) ⟨rfl,rfl,ac.sub trivial aC⟩
    .have hC:((ew s a l y k).t.getD (bj (aH s) a l k).c ck).1=2:=by
      have hC:(!decide (((ew s a l y k).t.getD (bj (aH s) a l k).c ck).1=2))=false:=hC;simpa using hC
     have e:ew s a l y (k+1)=ew s a l y k:=by
      rw[ae8];unfold u2;rw[ae7 hn,if_neg ay5,if_pos hC]
     rw[e];exact⟨rfl,ac.sub trivial aC⟩
  .intro x' fX rF aD
   have h:=Ag x' (aH s) a l dc ay4 ay4 (fun k=>fX (min k (cD (aH s) a l))) (fun k=>rF _ _ _ (min k (cD (aH s) a l)) (min k (cD (aH s) a l)) (by
    obtain⟨fq,O,mW⟩:=Gu (min k (cD (aH s) a l)) (Nat.min_le_right _ _);have G:=qw (ew s a l y (min k (cD (aH s) a l))) (by rw[O];exact ap.z);rw[show aH (ew s a l y (min k (cD (aH s) a l)))=aH s from congrArg (fun b=>16*2 ^b) O] at G
    exact Fn.qv [(9000,.b5 1001 bo),(4,.cells [.ptr 1001 0]),(7,.cells [.d (.fn (158,[b1,b2]))]),(10,.cells [.cY 162 [.p 4 0]])] G rfl rfl) rfl rfl) (fun k aa=>by
    have h:=aD k _ (k+1) ⟨aa,rfl,rfl⟩;rw[Nat.min_eq_left ay4,Nat.min_eq_left ay4];exact h)
   simp only[Nat.zero_min,Nat.min_self] at h;exact h
  .show bw _ _ _ _ _ _ _;exact bu [] (br) bg
theorem Sx {l:List Int} {h:Nat} {n m:Int} (ak:l[h]? =some n):dV (l.set h m)+(if n=0 then 1 else 0)=dV l+(if m=0 then 1 else 0):=by
 induction l generalizing h with
 |nil=>simp at ak
 |cons x l bq=>
  match h with
  |0=>
   simp only[ar3,aq4] at ak;subst ak;simp only[List.set_cons_zero];unfold dV;rw[List.filter_cons,List.filter_cons]
   by_cases E:x=0 <;>by_cases G:m=0 <;>simp[E,G] <;>omega
  |h+1=>
   have ak:l[h]? =some n:=aC1
   have:=bq ak;simp only[List.set_cons_succ];unfold dV at*;rw[List.filter_cons,List.filter_cons]
   by_cases E:x=0 <;>simp[E] <;>omega
theorem ae9 {xs ys:aC3} {a n:Nat} (E:a+n<=xs.length) (G:ys.length=n):(laid xs a n ys).length=xs.length:=by
 unfold laid;rw[aq1,aq1,aq9,aq9,au9];omega
structure C1 (s s':bE) (p:mU) (bs y:aC3):Prop where
 ok:gh s'
 z:s'.z=s.z
 eS:s'.t.length=s.t.length
 lu:s'.l.length=s.l.length
 js: ∀c,c≠p.c->s'.t[c]? =s.t[c]? /\ ∀aB,eh s' c aB=eh s c aB
 C2: ∀aB,eh s' p.c aB=laid (eh s p.c (some y)) p.a (p.b - p.a) bs
 kh:hq s' p.c=false
 iO:dV s'.l+(if hq s p.c=true then 1 else 0)=dV s.l
theorem ae' {s:bE} {c:Nat} {h:Int} {xs:aC3} (E:s.t[c]? =some ((1:Int),h,true)) (G:s.f h=some xs) (aB:Option aC3):eh s c aB=xs:=by
 unfold eh;rw[E];simp only[if_pos,G,av9]
theorem Lj {s s':bE} {c:Nat} (O:s'.z=s.z) (cq:s'.t[c]? =s.t[c]?) (hf: ∀h,s.t[c]? =some ((1:Int),h,true)->s'.f h=s.f h) (ap:gh s) (aB:Option aC3):eh s' c aB=eh s c aB:=by
 have aN:iO s'=iO s:=by unfold iO aH;rw[O]
 have hw:aH s'=aH s:=by unfold aH;rw[O]
 unfold eh;rw[cq]
 cases e:s.t[c]? with
 |none=>rfl
 |some q=>
  simp only;rcases ap.slot c q e with h |h |⟨h,ao,_⟩
  .rw[h,aN,hw];rfl
  .rw[h,aN];rfl
  .rw[ao] at e;rw[ao,hf _ e,aN,hw]
theorem afa {s:bE} {c:Nat} {h:Int} (E:s.t[c]? =some ((1:Int),h,true)):hq s c=false:=by
 unfold hq uV;rw[Af E];rfl
theorem afb {s:bE} (ap:gh s) {c:Nat} (J:c < s.t.length) (y:aC3) (aN:hq s c=true->0 < dV s.l):
  (mV s c y).z=s.z/\(mV s c y).l.length=s.l.length/\(∀d,d≠c->(mV s c y).t[d]? =s.t[d]? /\ ∀h,s.t[d]? =some ((1:Int),h,true)->(mV s c y).f h=s.f h)/\dV (mV s c y).l+(if hq s c=true then 1 else 0)=dV s.l:=by
 unfold mV
 by_cases hn:hq s c=true
 .rw[if_pos hn,if_pos hn];obtain⟨kH,q'⟩:=K8 (aN hn);refine⟨rfl,av3,fun d H=>⟨au3 (Ne.symm H),fun h bf=>?_⟩,?_⟩
  .show(if h=(h3 s.l:Int) then _ else s.f h)=s.f h;rw[if_neg];intro e;rcases ap.slot d _ bf with ao |ao |⟨h',ao,af,_⟩
   .cases ao
   .cases ao
   .have:h=(h':Int):=by injection ao with _ ao;injection ao
    have:h'=h3 s.l:=az2
    rw[this,kH] at af
    cases af
  .have:=Sx (m:=1) kH;simpa using this
 .rw[if_neg hn,if_neg hn];exact⟨rfl,rfl,fun d _=>⟨rfl,fun _ _=>rfl⟩,rfl⟩
theorem Lk {s:bE} (ap:gh s) {p:mU} (J:p.c < s.t.length) {bs y:aC3} (E:p.a<=p.b) (G:p.b<=aH s) (af:bs.length=p.b - p.a) (aN:hq s p.c=true->0 < dV s.l):C1 s (x5 s p bs y) p bs y:=by
 obtain⟨fq,gP,mW,h,u1,wC⟩:=So ap J y aN;obtain⟨r1,r2,gg,j2⟩:=afb ap J y aN;have dH:=u0 ap J (some y);unfold x5;generalize mV s p.c y=s' at*;generalize sn:eh s p.c (some y)=xs at*;have nM:=Af u1
 have e:Gp s' p bs={s' with f:=jp s'.f (h:Int) (laid xs p.a (p.b - p.a) bs)}:=by
  unfold Gp;rw[nM];simp only[wC,av9]
 rw[e];have mT:=ae9 (xs:=xs) (ys:=bs) (a:=p.a) (n:=p.b - p.a) ay4 af
 have afc: ∀(d:Nat) (k:Int),d≠p.c->s'.t[d]? =some ((1:Int),k,true)->jp s'.f (h:Int) (laid xs p.a (p.b - p.a) bs) k=s'.f k:=fun d k H aa=>by
  unfold jp;rw[if_neg];intro e;subst e;exact H (fq.inj d p.c _ aa u1)
 refine⟨⟨fq.z,fq.eS,fq.lu,fun c q aT=>?_,fq.inj,fq.Gm,fun k aa=>?_,fq.Gn,Sn fq.dom (by rw[mT,dH];exact Sm ap.z)⟩,r1,mW,r2,fun c lH=>⟨(gg c lH).1,fun aB=>?_⟩,fun aB=>by rw[sn];exact ae' (s:={s' with f:=jp s'.f (h:Int) (laid xs p.a (p.b - p.a) bs)}) u1 (if_pos rfl) aB,afa (s:={s' with f:=jp s'.f (h:Int) (laid xs p.a (p.b - p.a) bs)}) u1,j2⟩
 .rcases fq.slot c q aT with e |e |⟨k,e,g1,ys,g2,cX⟩
  .exact .inl e
  .exact .inr (.inl e)
  .refine .inr (.inr ⟨k,e,g1,?_⟩)
   by_cases aa:(k:Int)=(h:Int)
   .exact⟨_,if_pos aa,by rw[mT,dH,<-gP];rfl⟩
   .exact⟨ys,(if_neg aa).trans g2,cX⟩
 .show(if(k:Int)=(h:Int) then _ else s'.f k)=none;rw[if_neg]
  .exact fq.Ae k aa
  .intro e;have:k=h:=az2
   subst this;rcases fq.slot p.c _ u1 with e |e |⟨j,e,g1,_⟩
   .cases e
   .cases e
   .have:(k:Int)=(j:Int):=by injection e with _ e;injection e
    have:k=j:=az2
    rw[this,g1] at aa
    cases aa
 .refine Lj (s:=s) (s':={s' with f:=jp s'.f (h:Int) (laid xs p.a (p.b - p.a) bs)}) r1 (gg c lH).1 (fun k aa=>?_) ap aB;rw[<-(gg c lH).2 k aa];exact afc c k lH ((gg c lH).1.trans aa)
structure Ll (s s':bE) (c:Nat) (q:fd):Prop where
 ok:gh s'
 z:s'.z=s.z
 eS:s'.t.length=s.t.length
 lu:s'.l.length=s.l.length
 js: ∀d,d≠c->s'.t[d]? =s.t[d]? /\ ∀aB,eh s' d aB=eh s d aB
 C2:s'.t[c]? =some q
 iO:dV s.l<=dV s'.l
theorem Lm {s:bE} (ap:gh s) {c:Nat} (J:c < s.t.length) {q:fd} (aT:q=ck\/q=tN):Ll s (rC s c q) c q:=by
 have mM:s.t[c]? =some (s.t.getD c ck):=by rw[aq3,oj J];rfl
 have uN: ∀h:Int,q≠((1:Int),h,true):=fun h e=>by rcases aT with aT |aT <;>rw[aT] at e <;>cases e
 have Sy:q=ck\/q=((2:Int),(0:Int),false):=aT;unfold rC Ad;rcases Gq ap J with⟨_,h⟩ |⟨_,h,E,G,xs,af,aW⟩
 .have hn: ¬(s.t.getD c ck).1=1:=by rcases h with h |h <;>rw[h] <;>decide
  rw[if_neg hn];refine⟨⟨ap.z,by show(s.t.set _ _).length<=256;rw[av3];exact ap.eS,ap.lu,fun d r ax=>?_,fun d e k H U=>?_,ap.Gm,ap.Ae,fun k aa=>?_,ap.dom⟩,rfl,av3,rfl,fun d H=>⟨au3 (Ne.symm H),fun aB=>Lj (s:=s) (s':={s with t:=s.t.set c q}) rfl (au3 (Ne.symm H)) (fun _ _=>rfl) ap aB⟩,av0 J,aq0 _⟩
  .rw[aw6] at ax
   split at ax
   .injection ax with ax
    rw[<-ax];exact Sy.imp id .inl
   .exact ap.slot d r ax
  .rw[aw6] at H U
   split at H
   .injection H with H;exact absurd H (uN k)
   .split at U
    .injection U with U;exact absurd U (uN k)
    .exact ap.inj d e k H U
  .obtain⟨d,H⟩:=ap.Gn k aa
   have a7:c≠d:=fun e=>by
    subst e;rw[mM] at H;injection H with H
    rw[H] at hn;exact hn rfl
   exact⟨d,(au3 a7).trans H⟩
 .have aZ:=Af E;rw[aZ,if_pos rfl];have bt:h < s.l.length:=(aq7.1 G).1;have bF:((h:Int)).toNat=h:=rfl;simp only[bF]
  have other: ∀(d k:Nat),d≠c->s.t[d]? =some ((1:Int),(k:Int),true)->k≠h:=fun d k H aa e=>by
   subst e;exact H (ap.inj d c _ aa E)
  refine⟨⟨ap.z,by show(s.t.set _ _).length<=256;rw[av3];exact ap.eS,by show(s.l.set _ _).length<=512;rw[av3];exact ap.lu,fun d r ax=>?_,fun d e k H U=>?_,fun k n aa=>?_,fun k aa=>?_,fun k aa=>?_,fun k xs aa=>ap.dom k xs (by
   have aa:(if k=(h:Int) then none else s.f k)=some xs:=aa
   split at aa
   .cases aa
   .exact aa)⟩,rfl,av3,av3,fun d H=>⟨au3 (Ne.symm H),fun aB=>Lj (s:=s) (s':={s with t:=s.t.set c q,l:=s.l.set h 0,f:=CE s.f (h:Int)}) rfl (au3 (Ne.symm H)) (fun k aa=>?_) ap aB⟩,av0 J,?_⟩
  .rw[aw6] at ax
   split at ax
   .injection ax with ax
    rw[<-ax];exact Sy.imp id .inl
   .rename_i a7;rcases ap.slot d r ax with e |e |⟨k,e,g1,ys,g2,cX⟩
    .exact .inl e
    .exact .inr (.inl e)
    .have aa:=other d k (Ne.symm a7) (e▸ax);exact .inr (.inr ⟨k,e,by show(s.l.set h 0)[k]? =some 1;rw[au3 (Ne.symm aa)];exact g1,ys,by show(if(k:Int)=(h:Int) then none else s.f k)=some ys;rw[if_neg ay4];exact g2,cX⟩)
  .rw[aw6] at H U
   split at H
   .injection H with H;exact absurd H (uN k)
   .split at U
    .injection U with U;exact absurd U (uN k)
    .exact ap.inj d e k H U
  .rw[aw6] at aa
   split at aa
   .injection aa with aa;exact .inl aa.symm
   .exact ap.Gm k n aa
  .show(if(k:Int)=(h:Int) then none else s.f k)=none
   by_cases e:k=h
   .rw[if_pos ay4]
   .rw[if_neg ay4];rw[au3 (fun ao=>e ao.symm)] at aa;exact ap.Ae k aa
  .by_cases e:k=h
   .subst e;rw[av0 bt] at aa
    cases aa
   .rw[au3 (fun ao=>e ao.symm)] at aa;obtain⟨d,H⟩:=ap.Gn k aa
    have a7:c≠d:=fun ao=>by
     subst ao;rw[E] at H;injection H with H
     have:(h:Int)=(k:Int):=by injection H with _ H;injection H
     omega
    exact⟨d,(au3 a7).trans H⟩
  .rcases ap.slot d _ aa with e |e |⟨j,e,_⟩
   .cases e
   .cases e
   .have V:k=(j:Int):=by injection e with _ e;injection e
    subst V;have:=other d j H aa;show(if(j:Int)=(h:Int) then none else s.f j)=s.f j;rw[if_neg ay4]
  .have:=Sx (m:=0) G;simp at this;show dV s.l<=dV (s.l.set h 0);omega
theorem C3 {s s':bE} {c:Nat} (h:s'.t[c]? =s.t[c]?):hq s' c=hq s c:=by
 unfold hq;rw[aq3,aq3,h]
structure ix (s s':bE):Prop where
 ok:gh s'
 z:s'.z=s.z
 eS:s'.t.length=s.t.length
 lu:s'.l.length=s.l.length
theorem ix.refl {s:bE} (h:gh s):ix s s:=⟨h,rfl,rfl,rfl⟩
theorem ix.trans {s s' C4:bE} (h:ix s s') (k:ix s' C4):ix s C4:=⟨k.ok,k.z.trans h.z,k.eS.trans h.eS,k.lu.trans h.lu⟩
theorem ix.aH {s s':bE} (h:ix s s'):aH s'=aH s:=congrArg (fun b=>16*2 ^b) h.z
theorem C1.ey {s s':bE} {p:mU} {bs y:aC3} (h:C1 s s' p bs y):ix s s':=⟨h.ok,h.z,h.eS,h.lu⟩
theorem Ll.ey {s s':bE} {c:Nat} {q:fd} (h:Ll s s' c q):ix s s':=⟨h.ok,h.z,h.eS,h.lu⟩
def qz (s s':bE) (c:Nat):Prop:=s'.t[c]? =s.t[c]? /\ ∀aB,eh s' c aB=eh s c aB
theorem qz.refl (s:bE) (c:Nat):qz s s c:=⟨rfl,fun _=>rfl⟩
theorem qz.trans {s s' C4:bE} {c:Nat} (h:qz s s' c) (k:qz s' C4 c):qz s C4 c:=⟨k.1.trans h.1,fun aB=>(k.2 aB).trans (h.2 aB)⟩
def Ln (s:bE) (bo:bn->bc) (b1 b2:Nat) (y:Nat->aC3):Prop:= ∀s',ix s s'-> ∀(c:Nat) (h:c < s'.t.length),(s'.t[c]).1=0->Gl s' bo b1 b2 c (y c)
theorem afd (s:bE) (a l:Nat) {j k:Nat} (h:j<=k):h4 s a l j<=h4 s a l k:=by
 induction k with
 |zero=>
    have:j=0:=az2
    rw[this];exact aq0 _
 |succ k bq=>
  by_cases e:j=k+1
  .rw[e];exact aq0 _
  .have:=bq ay4;show h4 s a l j<=h4 s a l k+_;omega
theorem Sz {bs:aC3} {p:mU} (E:p.a<=p.b) (G:p.at_+(p.b - p.a)<=bs.length):(pM bs p).length=p.b - p.a:=by
 unfold pM;rw[au9,aq9];omega
structure Gw (s:bE) (a l:Nat) (bs:aC3) (y:Nat->aC3) (k:Nat):Prop where
 ey:ix s (iZ s a l bs y k)
 iO:dV (iZ s a l bs y k).l+h4 s a l k=dV s.l
 js: ∀c,(c < 16*a/aH s\/16*a/aH s+k<=c)->qz s (iZ s a l bs y k) c
 done: ∀j,j < k->hq (iZ s a l bs y k) (16*a/aH s+j)=false/\ ∀aB,eh (iZ s a l bs y k) (16*a/aH s+j) aB=laid (eh s (16*a/aH s+j) (some (y (16*a/aH s+j)))) (bj (aH s) a l j).a ((bj (aH s) a l j).b - (bj (aH s) a l j).a) (pM bs (bj (aH s) a l j))
theorem SA {s:bE} (ap:gh s) {a l:Nat} {bs:aC3} (fR:bs.length=16*l) (dB:a+l<=e7 s) {y:Nat->aC3} (dC:h4 s a l (cD (aH s) a l)<=dV s.l) {k:Nat} (h:Gw s a l bs y k) (aa:k < cD (aH s) a l):C1 (iZ s a l bs y k) (iZ s a l bs y (k+1)) (bj (aH s) a l k) (pM bs (bj (aH s) a l k)) (y (bj (aH s) a l k).c)/\(hq (iZ s a l bs y k) (bj (aH s) a l k).c=true->0 < dV (iZ s a l bs y k).l):=by
 have dc:=ob ap.z;obtain⟨dQ,cW,dJ,dM⟩:=rD dc aa;obtain⟨J,_⟩:=rG ap dB aa;have lO:=h.js (16*a/aH s+k) (.inr (aq0 _))
 have aN:hq (iZ s a l bs y k) (bj (aH s) a l k).c=true->0 < dV (iZ s a l bs y k).l:=fun hn=>by
  have bm:hq (iZ s a l bs y k) (bj (aH s) a l k).c=hq s (bj (aH s) a l k).c:=C3 lO.1;rw[bm] at hn;have E:=afd s a l (show k+1<=cD (aH s) a l from aa)
  have G:h4 s a l (k+1)=h4 s a l k+1:=by
   show h4 s a l k+_=_;rw[if_pos hn]
  have:=h.iO;omega
 exact⟨Lk h.ey.ok aB7 dQ (by rw[h.ey.aH];exact cW) (Sz dQ ay4) aN,aN⟩
theorem Al {s:bE} (ap:gh s) {a l:Nat} {bs:aC3} (fR:bs.length=16*l) (dB:a+l<=e7 s) (y:Nat->aC3) (dC:h4 s a l (cD (aH s) a l)<=dV s.l): ∀k,k<=cD (aH s) a l->Gw s a l bs y k/\(k < cD (aH s) a l->C1 (iZ s a l bs y k) (iZ s a l bs y (k+1)) (bj (aH s) a l k) (pM bs (bj (aH s) a l k)) (y (bj (aH s) a l k).c)/\(hq (iZ s a l bs y k) (bj (aH s) a l k).c=true->0 < dV (iZ s a l bs y k).l))
 |0,aa=>by
  have au:Gw s a l bs y 0:=⟨ix.refl ap,rfl,fun c _=>qz.refl s c,fun j V=>absurd V ay4⟩;exact⟨au,fun aa=>SA ap fR dB dC au aa⟩
 |k+1,aa=>by
  obtain⟨h,aw⟩:=Al ap fR dB y dC k ay4;have eD:k < cD (aH s) a l:=az2
  obtain⟨ai,_⟩:=aw eD;have pN:(bj (aH s) a l k).c=16*a/aH s+k:=rfl;have lO:=h.js (16*a/aH s+k) (.inr (aq0 _))
  have E:Gw s a l bs y (k+1):=by
   refine⟨h.ey.trans ai.ey,?_,fun c J=>?_,fun j V=>?_⟩
   .have ae:=ai.iO;have ao:=h.iO;have bm:hq (iZ s a l bs y k) (bj (aH s) a l k).c=hq s (bj (aH s) a l k).c:=C3 lO.1;rw[bm] at ae;show dV _+(h4 s a l k+_)=_;omega
   .exact(h.js c (J.imp id fun h=>by omega)).trans (ai.js c (by rw[pN];omega))
   .by_cases e:j=k
    .subst e;refine⟨ai.kh,fun aB=>?_⟩;have:=ai.C2 aB;rw[pN] at this;rw[this,lO.2]
    .obtain⟨g1,g2⟩:=h.done j ay4;have hf:=ai.js (16*a/aH s+j) (by rw[pN];omega);exact⟨(C3 hf.1).trans g1,fun aB=>(hf.2 aB).trans (g2 aB)⟩
  exact⟨E,fun aa=>SA ap fR dB dC E aa⟩
def Am (s:bE) (a l:Nat):Int:=if h4 s a l (cD (aH s) a l)<=dV s.l then 0 else 120
def wE (s:bE) (a l:Nat) (bs:aC3) (y:Nat->aC3):bE:=if h4 s a l (cD (aH s) a l)<=dV s.l then iZ s a l bs y (cD (aH s) a l) else s
theorem afe (s:bE) (bo:bn->bc) (b1 b2:Nat) (ap:gh s) (a l:Nat) (bs:aC3) (fR:bs.length=16*l) (au:d3 s a l=0) (y:Nat->aC3) (c5:Ln s bo b1 b2 y):
  Fn Tryz.prog 106 [aq 1001,ab (a:Int),bQ .u8 bs,nq b1 b2] (f1 s bo) [] (ab (Am s a l)) (f1 (wE s a l bs y) bo):=by
 have dB:=oc au;refine aeZ s bo b1 b2 ap a l bs fR au y _ _ (fun h=>⟨if_neg ay4,if_neg ay4⟩) (fun h=>⟨if_pos h,if_pos h⟩) (fun dC k aa=>?_) (fun dC k aa=>(Al ap fR dB y dC k aa).1.ey.z);obtain⟨h,aw⟩:=Al ap fR dB y dC k (Nat.le_of_lt aa);obtain⟨_,aN⟩:=aw aa;obtain⟨dQ,cW,dJ,dM⟩:=rD (ob ap.z) aa;obtain⟨J,_⟩:=rG ap dB aa;have dS:(bj (aH s) a l k).c < (iZ s a l bs y k).t.length:=aB7
 exact Sq (iZ s a l bs y k) bo b1 b2 h.ey.ok (bj (aH s) a l k) dS (pM bs (bj (aH s) a l k)) dQ (by rw[h.ey.aH];exact cW) (Sz dQ ay4) (y (bj (aH s) a l k).c) (fun e=>c5 _ h.ey _ dS e) aN
theorem aff {s:bE} (ap:gh s) {a l:Nat} {bs:aC3} (fR:bs.length=16*l) (au:d3 s a l=0) (y:Nat->aC3):ix s (wE s a l bs y):=by
 unfold wE
 split
 .rename_i h;exact(Al ap fR (oc au) y h _ (aq0 _)).1.ey
 .exact ix.refl ap
structure Lo (s:bE) (a l:Nat) (k:Nat):Prop where
 ey:ix s (jL s a l k)
 js: ∀c,(c < 16*a/aH s\/16*a/aH s+k<=c)->qz s (jL s a l k) c
 done: ∀j,j < k->if(bj (aH s) a l j).b - (bj (aH s) a l j).a=aH s then(jL s a l k).t[16*a/aH s+j]? =some ck else qz s (jL s a l k) (16*a/aH s+j)
theorem An {s:bE} (ap:gh s) {a l:Nat} (dB:a+l<=e7 s): ∀k,k<=cD (aH s) a l->Lo s a l k
 |0,_=>⟨ix.refl ap,fun c _=>qz.refl s c,fun j V=>absurd V ay4⟩
 |k+1,aa=>by
  have h:=An ap dB k ay4;have eD:k < cD (aH s) a l:=az2
  obtain⟨J,_⟩:=rG ap dB eD;have pN:(bj (aH s) a l k).c=16*a/aH s+k:=rfl;have lO:=h.js (16*a/aH s+k) (.inr (aq0 _))
  by_cases e:(bj (aH s) a l k).b - (bj (aH s) a l k).a=aH s
  .have ae:jL s a l (k+1)=rC (jL s a l k) (bj (aH s) a l k).c ck:=if_pos e;have ai:=Lm h.ey.ok (c:=(bj (aH s) a l k).c) aB7 (q:=ck) (.inl rfl);rw[<-ae] at ai;refine⟨h.ey.trans ai.ey,fun c J=>(h.js c (J.imp id fun h=>by omega)).trans (ai.js c (by rw[pN];omega)),fun j V=>?_⟩
   by_cases Aa:j=k
   .subst Aa;rw[if_pos e];exact ai.C2
   .have g:=h.done j ay4;have hf:=ai.js (16*a/aH s+j) (by rw[pN];omega)
    split
    .rename_i ao;rw[if_pos ao] at g;exact hf.1.trans g
    .rename_i ao;rw[if_neg ao] at g;exact g.trans hf
  .have ae:jL s a l (k+1)=jL s a l k:=if_neg e;rw[show Lo s a l (k+1)↔Lo s a l (k+1) from Iff.rfl];refine⟨by rw[ae];exact h.ey,fun c J=>by rw[ae];exact h.js c (J.imp id fun h=>by omega),fun j V=>?_⟩;rw[ae]
   by_cases Aa:j=k
   .subst Aa;rw[if_neg e];exact lO
   .exact h.done j ay4
def Ao (s:bE) (a l:Nat):bE:=jL s a l (cD (aH s) a l)
theorem SB {s:bE} (ap:gh s) {c:Nat} (J:c < s.t.length):(s.t.getD c ck).1=1-> ∃h:Nat,(s.t.getD c ck).2.1=(h:Int)/\s.l[h]? =some 1:=fun E=>by
 rcases Gq ap J with⟨_,h⟩ |⟨_,h,g1,g2,_⟩
 .rcases h with h |h <;>rw[h] at E <;>cases E
 .exact⟨h,by rw[Af g1],g2⟩
theorem afg (s:bE) (ap:gh s) (a l:Nat) (au:d3 s a l=0):Fn Tryz.prog 110 [aq 1001,ab (a:Int),ab (l:Int)] (dD s) [] (ab 0) (dD (Ao s a l)):=by
 have dB:=oc au;refine ae2 s ap a l au (fun k aa=>?_) (fun k aa=>(An ap dB k aa).ey.z);have h:=An ap dB k (Nat.le_of_lt aa);obtain⟨J,_⟩:=rG ap dB aa;have dS:(bj (aH s) a l k).c < (jL s a l k).t.length:=aB7
 exact K6 (jL s a l k) h.ey.ok.eS _ dS ck ⟨ay5,ay5⟩ rfl (SB h.ey.ok dS)
structure SC (s:bE) (a l:Nat) (y:Nat->aC3) (k:Nat):Prop where
 ey:ix s (ew s a l y k)
 iO:dV s.l<=dV (ew s a l y k).l+hb s a l k
 js: ∀c,(c < 16*a/aH s\/16*a/aH s+k<=c)->qz s (ew s a l y k) c
theorem afh (s:bE) (a l:Nat) {j k:Nat} (h:j<=k):hb s a l j<=hb s a l k:=by
 induction k with
 |zero=>
    have:j=0:=az2
    rw[this];exact aq0 _
 |succ k bq=>
  by_cases e:j=k+1
  .rw[e];exact aq0 _
  .have:=bq ay4;show hb s a l j<=hb s a l k+_;omega
theorem Gx {s s':bE} (h:ix s s') (p:mU):kM s' p=kM s p:=by unfold kM;rw[h.aH]
theorem Lp {s:bE} {a l:Nat} {y:Nat->aC3} (dC:hb s a l (cD (aH s) a l)<=dV s.l) {k:Nat} (h:SC s a l y k) (aa:k < cD (aH s) a l) (hw:kM s (bj (aH s) a l k)=false) (G:((ew s a l y k).t.getD (bj (aH s) a l k).c ck).1≠2):
  hq (ew s a l y k) (bj (aH s) a l k).c=true->0 < dV (ew s a l y k).l:=fun hn=>by
 have lO:=h.js (16*a/aH s+k) (.inr (aq0 _));have bm:hq (ew s a l y k) (bj (aH s) a l k).c=hq s (bj (aH s) a l k).c:=C3 lO.1
 have c0:(ew s a l y k).t.getD (bj (aH s) a l k).c ck=s.t.getD (bj (aH s) a l k).c ck:=by
  rw[aq3,aq3];exact congrArg (fun o=>o.getD ck) lO.1
 rw[bm] at hn;rw[c0] at G
 have aN:od s (bj (aH s) a l k)=true:=by
  unfold od;rw[hw,ar0 G,hn];rfl
 have E:=afh s a l (show k+1<=cD (aH s) a l from aa)
 have af:hb s a l (k+1)=hb s a l k+1:=by
  show hb s a l k+_=_;rw[if_pos aN]
 have:=h.iO;omega
theorem yb {s:bE} (ap:gh s) {a l:Nat} (dB:a+l<=e7 s) (y:Nat->aC3) (dC:hb s a l (cD (aH s) a l)<=dV s.l): ∀k,k<=cD (aH s) a l->SC s a l y k
 |0,_=>⟨ix.refl ap,Nat.le_add_right _ _,fun c _=>qz.refl s c⟩
 |k+1,aa=>by
  have h:=yb ap dB y dC k ay4;have eD:k < cD (aH s) a l:=az2
  obtain⟨J,_⟩:=rG ap dB eD;obtain⟨dQ,cW,dJ,dM⟩:=rD (ob ap.z) eD;have pN:(bj (aH s) a l k).c=16*a/aH s+k:=rfl;have dS:(bj (aH s) a l k).c < (ew s a l y k).t.length:=aB7
  have lO:=h.js (16*a/aH s+k) (.inr (aq0 _));have zf:hb s a l (k+1)=hb s a l k+(if od s (bj (aH s) a l k)=true then 1 else 0):=rfl;have ae:ew s a l y (k+1)=u2 (ew s a l y k) (bj (aH s) a l k) (y (bj (aH s) a l k).c):=rfl;unfold u2 at ae;rw[Gx h.ey] at ae
  by_cases hw:kM s (bj (aH s) a l k)=true
  .rw[if_pos hw] at ae;have ai:=Lm h.ey.ok (c:=(bj (aH s) a l k).c) dS (q:=tN) (.inr rfl);rw[<-ae] at ai;refine⟨h.ey.trans ai.ey,?_,fun c J=>(h.js c (J.imp id fun h=>by omega)).trans (ai.js c (by rw[pN];omega))⟩;have:=ai.iO;have:=h.iO;omega
  .have hw:kM s (bj (aH s) a l k)=false:=by simpa using hw
   rw[hw,if_neg ay5] at ae
   by_cases G:((ew s a l y k).t.getD (bj (aH s) a l k).c ck).1=2
   .rw[if_pos G] at ae;refine⟨by rw[ae];exact h.ey,?_,fun c J=>by rw[ae];exact h.js c (J.imp id fun h=>by omega)⟩;rw[ae];have:=h.iO;omega
   .rw[if_neg G] at ae;have ai:=Lk (y:=y (bj (aH s) a l k).c) (bs:=tO ((bj (aH s) a l k).b - (bj (aH s) a l k).a)) h.ey.ok dS dQ (by rw[h.ey.aH];exact cW) ar7 (Lp dC h eD hw G);rw[<-ae] at ai;refine⟨h.ey.trans ai.ey,?_,fun c J=>(h.js c (J.imp id fun h=>by omega)).trans (ai.js c (by rw[pN];omega))⟩;have fQ:=ai.iO;have bm:hq (ew s a l y k) (bj (aH s) a l k).c=hq s (bj (aH s) a l k).c:=C3 lO.1
    have c0:(ew s a l y k).t.getD (bj (aH s) a l k).c ck=s.t.getD (bj (aH s) a l k).c ck:=by
     rw[aq3,aq3];exact congrArg (fun o=>o.getD ck) lO.1
    rw[c0] at G
    have aN:od s (bj (aH s) a l k)=hq s (bj (aH s) a l k).c:=by
     unfold od;rw[hw,ar0 G];rfl
    rw[bm,<-aN] at fQ;have:=h.iO;omega
def Ap (s:bE) (a l:Nat):Int:=if hb s a l (cD (aH s) a l)<=dV s.l then 0 else 120
def wF (s:bE) (a l:Nat) (y:Nat->aC3):bE:=if hb s a l (cD (aH s) a l)<=dV s.l then ew s a l y (cD (aH s) a l) else s
theorem afi (s:bE) (bo:bn->bc) (b1 b2:Nat) (ap:gh s) (a l:Nat) (au:d3 s a l=0) (y:Nat->aC3) (c5:Ln s bo b1 b2 y):
  Fn Tryz.prog 108 [aq 1001,ab (a:Int),ab (l:Int),nq b1 b2] (f1 s bo) [] (ab (Ap s a l)) (f1 (wF s a l y) bo):=by
 have dB:=oc au;refine ae6 s bo b1 b2 ap a l au y _ _ (fun h=>⟨if_neg ay4,if_neg ay4⟩) (fun h=>⟨if_pos h,if_pos h⟩) (fun dC k aa=>?_) (fun dC k aa hw=>?_) (fun dC k aa hw G=>?_)
 .have h:=(yb ap dB y dC k aa).ey;exact⟨h.ok,h.z,h.eS⟩
 .have h:=yb ap dB y dC k (Nat.le_of_lt aa);obtain⟨J,_⟩:=rG ap dB aa;have dS:(bj (aH s) a l k).c < (ew s a l y k).t.length:=aB7
  have ae:ew s a l y (k+1)=rC (ew s a l y k) (bj (aH s) a l k).c tN:=if_pos ((Gx h.ey _).trans hw);rw[ae];exact K6 (ew s a l y k) h.ey.ok.eS _ dS tN ⟨ay5,ay5⟩ rfl (SB h.ey.ok dS)
 .have h:=yb ap dB y dC k (Nat.le_of_lt aa);obtain⟨J,_⟩:=rG ap dB aa;obtain⟨dQ,cW,dJ,dM⟩:=rD (ob ap.z) aa;have dS:(bj (aH s) a l k).c < (ew s a l y k).t.length:=aB7
  have ae:ew s a l y (k+1)=x5 (ew s a l y k) (bj (aH s) a l k) (tO ((bj (aH s) a l k).b - (bj (aH s) a l k).a)) (y (bj (aH s) a l k).c):=by
   show u2 _ _ _=_;unfold u2;rw[Gx h.ey,hw,if_neg ay5,if_neg G]
  rw[ae];exact Sq (ew s a l y k) bo b1 b2 h.ey.ok (bj (aH s) a l k) dS _ dQ (by rw[h.ey.aH];exact cW) ar7 _ (fun e=>c5 _ h.ey _ dS e) (Lp dC h aa hw G)
theorem afj {s:bE} (ap:gh s) {a l:Nat} (au:d3 s a l=0) (y:Nat->aC3):ix s (wF s a l y):=by
 unfold wF
 split
 .rename_i h;exact(yb ap (oc au) y h _ (aq0 _)).ey
 .exact ix.refl ap
theorem afk (s:bE) (bo:bn->bc) (b1 b2:Nat) (ap:gh s) (a l:Int) (au:d3 s a l≠0):Fn Tryz.prog 108 [aq 1001,ab a,ab l,nq b1 b2] (f1 s bo) [] (ab (d3 s a l)) (f1 s bo):=by
 refine aU [] Tryz.func108 ?_;refine⟨rfl,rfl,av (wD s ap a l) ?_⟩;exact⟨fun _=>bg,fun h=>absurd (show d3 s a l=0 by have h:(!decide (d3 s a l=0))=false:=h;simpa using h) au⟩
def gi (z size R:Nat):bE:=⟨z,List.replicate size ck,List.replicate R (0:Int),Ky⟩
theorem afl {z size R:Nat} (E:z<=3) (G:size<=256) (af:R<=512):gh (gi z size R):=by
 have cq: ∀(c:Nat) (q:fd),(gi z size R).t[c]? =some q->q=ck:=fun c q h=>by
  have h:(List.replicate size ck)[c]? =some q:=h;rw[List.getElem?_replicate] at h
  split at h
  .injection h with h;exact h.symm
  .cases h
 have ak: ∀(h:Nat) n,(gi z size R).l[h]? =some n->n=0:=fun h n e=>by
  have e:(List.replicate R (0:Int))[h]? =some n:=e;rw[List.getElem?_replicate] at e
  split at e
  .injection e with e;exact e.symm
  .cases e
 refine⟨E,by show(List.replicate size ck).length<=256;rw[ar7];exact G,by show(List.replicate R (0:Int)).length<=512;rw[ar7];exact af,fun c q aT=>.inl (cq c q aT),fun c d h J H=>?_,fun h n hn=>.inl (ak h n hn),fun h _=>rfl,fun h bf=>?_,fun k xs aa=>(by cases aa)⟩
 .have:=cq c _ J;cases this
 .have:=ak h _ bf;cases this
def j7 (z size R:Int):Bool:=decide (0<=size)&&decide (size<=256)&&(decide (0<=R)&&decide (R<=512))&&(decide (0<=z)&&decide (z<=3))
theorem afm (z size R:Nat) (E:z<=3) (G:size<=256) (af:R<=512):Fn Tryz.prog 57 [ab (z:Int),ab (size:Int),ab (R:Int)] [] [1001,1002,1003,1004] (.ci [.one (.ptr 1001 0),dz 0]) (dD (gi z size R)):=by
 refine aU [3] Tryz.func57 ?_;refine av (Fn.aV [(1001,1002),(1002,2002)] (K3 size G)) <| av (Fn.aV [(1001,1003),(1002,2003)] (Gh (R:Int) ay4 ay4)) <| bu [] (cM [(0,ab (z:Int)),(8,aq 1002),(9,ab 0),(10,aq 1003),(11,ab 0)] [(1002,.aG (rz (List.replicate size ck))),(1003,.aG (rA (List.replicate R (0:Int))))]) <| dt <| dt ⟨fun h=>?_,fun h=>?_⟩
 .exfalso;have h:(z:Int) < 0:=gd h;omega
 refine⟨fun h=>?_,fun h=>?_⟩
 .exfalso;have h:(3:Int) < (z:Int):=gd h;omega
 exact⟨rfl,rfl,_,_,_,(ac.aV 41 1001 rfl).trans ((ac.aV 39 1004 rfl).trans (ac.Ru 1004 rfl)),rfl,aC,aC,rfl⟩
theorem afn {z size R:Int} (h:j7 z size R=false): ¬(0<=size/\size<=256)\/ ¬(0<=R/\R<=512)\/ ¬(0<=z/\z<=3):=by
 unfold j7 at h
 by_cases E:0<=size/\size<=256
 .by_cases G:0<=R/\R<=512
  .by_cases af:0<=z/\z<=3
   .rw[ar0 E.1,ar0 E.2,ar0 G.1,ar0 G.2,ar0 af.1,ar0 af.2] at h
    cases h
   .exact .inr (.inr af)
  .exact .inr (.inl G)
 .exact .inl E
theorem SD (z size R:Int) (h:j7 z size R=false):Fn Tryz.prog 57 [ab z,ab size,ab R] [] [] (.ci [mP,dz 1]) []:=by
 have O:=afn h;refine aU [] Tryz.func57 ?_
 by_cases E:0<=size/\size<=256
 .obtain⟨eo,rfl⟩: ∃n:Nat,size=(n:Int):=⟨size.toNat,ay4⟩;refine av (Fn.aV [(1001,1002),(1002,2002)] (K3 eo ay4)) ?_
  by_cases G:0<=R/\R<=512
  .refine av (Fn.aV [(1001,1003),(1002,2003)] (Gh R ay4 ay4)) <| dt <| dt ⟨fun _=>?_,fun af=>?_⟩
   .exact bg
   .refine⟨fun _=>?_,fun aW=>?_⟩
    .exact bg
    .exfalso;have af: ¬z < 0:=mu af;have aW: ¬(3:Int) < z:=mu aW;omega
  .exact av (Se R G) <| dt <| fb bg
 .refine av (aeu size E) ?_
  by_cases G:0<=R/\R<=512
  .exact av (Fn.aV [(1001,1003),(1002,2003)] (Gh R ay4 ay4)) <| fb bg
  .exact av (Se R G) <| fb bg
end
end Go.Proofs.YtkfbeijmgggkmaaGreat
