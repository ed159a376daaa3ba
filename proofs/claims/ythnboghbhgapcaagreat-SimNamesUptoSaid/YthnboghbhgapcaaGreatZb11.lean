/-
A part of the proof of this claim: lemmas, with no condition beyond what each says.
-/
import Derived.Test.YthnboghbhgapcaaGreatZb10
set_option linter.unusedVariables false
set_option linter.unusedSimpArgs false
set_option maxRecDepth 10000
set_option maxHeartbeats 4000000
namespace Go.Proofs.YthnboghbhgapcaaGreat
open Go.RowKit Go.Proofs
section
structure bM where
 z:Nat
 t:List e7
 l:List Int
 f:k8
abbrev adV (n:Int):List bC:=[.d (.int .i64 n),.ptr 1002 0,.ptr 1003 0,.mp 1004,.dD]
abbrev dx (s:bM):aw:=[(1001,.cells (adV s.z)),(1002,.aG (rl s.t)),(1003,.aG (rn s.l)),(1004,.aG (mJ s.f))]
def iZ (s:bM):bf:=.iX 1001 (dx s)
theorem adW (t:List e7):Fn Tryz.prog 38 [ap 1001] [(1001,.aG (rl t))] [] (ac (t.length:Nat)) [(1001,.aG (rl t))]:=
 Fn.Ff (sg:=fun es:{es//nV t es}=>.iX 1001 (oW (t.length:Nat) es.1)) au8 (fun _ _ _ _ ⟨es,h,a1⟩=>⟨⟨es,h⟩,a1⟩) fun es=>
  Fn.close [1002] (adA _ es.1) (fun _ _ _ _ h=>h) (fun _ _ _ _ h=>⟨es.1,es.2,h⟩) rfl rfl
theorem Cs (t:List e7) (al:t.length<=256) (c:Nat) (H:c < t.length):Fn Tryz.prog 148 [ap 1001,ac (c:Int)] [(1001,.aG (rl t))] [] (.c (pC t[c])) [(1001,.aG (rl t))]:=
 Fn.Ff (sg:=fun es:{es//nV t es}=>.iX 1001 (oW (t.length:Nat) es.1)) au8 (fun _ _ _ _ ⟨es,h,a1⟩=>⟨⟨es,h⟩,a1⟩) fun es=>
  Fn.close [1002] (Rh es.2 al c H) (fun _ _ _ _ h=>h) (fun _ _ _ _ h=>⟨es.1,es.2,h⟩) rfl rfl
theorem adX (t:List e7) (al:t.length<=256) (c:Nat) (H:c < t.length) (s:e7) (ax:tx s) (aF:rj s=true):
  Fn Tryz.prog 182 [ap 1001,ac (c:Int),.c (pC s)] [(1001,.aG (rl t))] [] (.cf [pC t[c],dw 0]) [(1001,.aG (rl (t.set c s)))]:=
 Fn.Ff (sg:=fun es:{es//nV t es}=>.iX 1001 (oW (t.length:Nat) es.1)) au8 (fun _ _ _ _ ⟨es,h,a1⟩=>⟨⟨es,h⟩,a1⟩) fun es=>
  Fn.close [1002] (adI es.2 al c H s ax aF) (fun _ _ _ _ h=>h) (fun _ _ _ _ h=>⟨_,es.2.set c s ax,by rw[List.length_set];exact h⟩) rfl rfl
theorem adY (l:List Int) (h:Nat) (n:Int) (hn:l[h]? =some n) (E:1<=n) (G:n<=65535):Fn Tryz.prog 206 [ap 1001,ac (h:Int)] [(1001,.aG (rn l))] [] (.cf [.one (.d (.int .i64 (n - 1))),dw 0]) [(1001,.aG (rn (l.set h (n - 1))))]:=
 Fn.close [1002] (adO l h n hn E G) (fun _ _ _ _ h=>h) (fun _ _ _ _ h=>h) rfl rfl
theorem adZ (l:List Int) (al:l.length<=1000000):Fn Tryz.prog 180 [ap 1001] [(1001,.aG (rn l))] [] (ac (d3 l:Nat)) [(1001,.aG (rn l))]:=
 Fn.close [1002] (adR l al) (fun _ _ _ _ h=>h) (fun _ _ _ _ h=>h) rfl rfl
theorem ad0 (l:List Int) (al:l.length<=1000000) (h:Nat) (bk:l[h]? =some 0) (hf: ∀j,j < h->l[j]? ≠some 0):Fn Tryz.prog 181 [ap 1001] [(1001,.aG (rn l))] [] (.cf [.one (.d (.int .i64 (h:Int))),dw 0]) [(1001,.aG (rn (l.set h 1)))]:=
 Fn.close [1002] (adT l al h bk hf) (fun _ _ _ _ h=>h) (fun _ _ _ _ h=>h) rfl rfl
def aM (s:bM):Nat:=16*2 ^s.z
theorem kp {b:Nat} (h:b<=3):1<=2 ^b/\2 ^b<=8:=by
 match b,h with
 |0,_=>decide
 |1,_=>decide
 |2,_=>decide
 |3,_=>decide
theorem uL {s:bM} (h:s.z<=3):16<=aM s/\aM s<=128:=by
 have:=kp h;unfold aM;omega
theorem qk (s:bM) (O:s.z<=3):Fn Tryz.prog 144 [ap 1001] (dx s) [] (ac (aM s:Nat)) (dx s):=by
 have h:=kp O;have e:(16:Int)*((2 ^s.z:Nat):Int)=((aM s:Nat):Int):=by unfold aM;omega
 refine aU [] Tryz.func144 ?_;have m:(0:Int)<=16/\(0:Int)<=(s.z:Int)/\(s.z:Int)<=64:=av3
 have m2:(-9223372036854775808:Int)<=16*((2 ^s.z:Nat):Int)/\(16:Int)*((2 ^s.z:Nat):Int)<=9223372036854775807:=av3
 exact⟨m,m2,eq bp rfl e⟩
theorem mL (s:bM):Fn Tryz.prog 14 [ap 1001] (dx s) [] (ac (s.t.length:Nat)) (dx s):=by
 refine aU [] Tryz.func14 ?_;exact ar (Fn.aV [(1001,1002)] (adW s.t)) bg
theorem ad1 (s:bM) (al:s.t.length<=256) (c:Nat) (H:c < s.t.length):Fn Tryz.prog 96 [ap 1001,ac (c:Int)] (dx s) [] (ac (s.t[c]).1) (dx s):=by
 refine aU [] Tryz.func96 ?_;refine ar (Fn.aV [(1001,1002)] (Cs s.t al c H)) ⟨_,_,fun N=>Kq rfl Tryz.underlying224 rfl Tryz.underlying3 rfl rfl rfl N,rfl,?_⟩;exact bg
theorem Rr (s:bM) (al:s.l.length<=1000000):Fn Tryz.prog 141 [ap 1001] (dx s) [] (ac (d3 s.l:Nat)) (dx s):=by
 refine aU [] Tryz.func141 ?_;exact ar (Fn.aV [(1001,1003),(1002,2003)] (adZ s.l al)) bg
theorem Rs (x:ay4) (hx:x.length<=4294967296):Fn Tryz.prog 152 [eO 1001] [(1001,.row 5 .u8 x)] [1002] (eO 1002) [(1001,.row 5 .u8 x),(1002,.row 5 .u8 x)]:=by
 refine aU [1] Tryz.func152 ?_;refine bt.iC eX au8 ?_;refine⟨_,ab4 (c:=1001) rfl rfl rfl Tryz.underlying25,fun v e h=>?_⟩;obtain⟨b,O,rfl,rfl⟩:=h
 cases b
 .refine⟨rfl,?_⟩;have m1:([]:ay4).length+x.length<=4294967296:=av9
  exact⟨m1,rfl,_,_,_,ae.aV 7 1002 rfl,rfl,rfl,aA,rfl⟩
 .have O:=O rfl;subst O;exact⟨_,_,_,ae.nil 2 1002 5 .u8 rfl rfl,rfl,rfl,aA,rfl⟩
theorem ad2 (x:ay4) (hx:x.length<=4294967296):Fn Tryz.prog 152 [bS .u8 x] [] [2001] (eO 2001) [(2001,.row 5 .u8 x)]:=by
 refine aU [1] Tryz.func152 ?_;refine bt.iC eX au8 ?_;refine⟨_,Qz rfl rfl Tryz.underlying25,fun v e h=>?_⟩;obtain⟨b,O,rfl,rfl⟩:=h
 cases b
 .refine⟨rfl,?_⟩;have al:0+x.length<=4294967296:=av3
  exact⟨al,rfl,_,_,_,ae.aV 7 2001 rfl,rfl,rfl,aA,rfl⟩
 .have O:=O rfl;subst O;exact⟨_,_,_,ae.nil 2 2001 5 .u8 rfl rfl,rfl,rfl,aA,rfl⟩
theorem Rt {f:k8} {k:Int} {xs:ay4} (h:f k=some xs):i' f k xs=f:=funext fun j=>by
 unfold i'
 split
 .rename_i e;rw[e,h]
 .rfl
theorem Kw:(Tryz.prog.info? 25).map (fun i=>(i.zero,i.size,i.bytes))=some (some (.slice none 0 0),1,24):=by kernel_rfl
def kq (s:bM):ay4:=List.replicate (aM s) 0
def fO (s:bM) (c:Nat) (y:Option ay4):ay4:=match s.t[c]? with
 |some q=>if q.1=1 then(s.f q.2.1).getD [] else if q.1=0 then(match y with
  |some y=>if y.length=aM s then y else kq s
  |none=>kq s) else kq s
 |none=>[]
theorem ad3 (s:bM) (O:s.z<=3) (al:s.t.length<=256) (c:Nat) (H:c < s.t.length) (hf:(s.t[c]).1=1-> ∃xs,s.f (s.t[c]).2.1=some xs/\xs.length<=128):
  Fn Tryz.prog 132 [ap 1001,ac (c:Int),.c (.one (.bJ .nilFunc))] (dx s) [2001] (eO 2001) (dx s++[(2001,.row 5 .u8 (fO s c none))]):=by
 obtain⟨c7,oI,oJ,uJ,zJ⟩:=info_parts Kw;have hw:=uL O
 have dJ:fO s c none=if(s.t[c]).1=1 then(s.f (s.t[c]).2.1).getD [] else kq s:=by
  unfold fO;rw[oj H];simp
 refine aU [] Tryz.func132 ?_;refine ar (Fn.aV [(1001,1002)] (Cs s.t al c H)) ⟨rfl,fun h=>?_,fun h=>?_⟩
 .have h:=gd h;obtain⟨xs,hx,vI⟩:=hf h;rw[if_pos h,hx] at dJ;refine⟨_,_,fun N=>Fr (d:=5001) (k:=(s.t[c]).2.1) rfl Tryz.underlying89 Tryz.underlying3 rfl oI oJ rfl rfl rfl hx N,rfl,?_⟩;refine ar (Fn.aV [(1001,5001),(1002,2001)] (Rs xs au5)) ⟨rfl,?_⟩;exact⟨_,_,_,ae.Fs 1004 5001 (Rt hx) rfl rfl au6 (by rw[hx];rfl),rfl,rfl,⟨rfl,rfl,rfl,rfl,by rw[dJ];rfl,trivial⟩,rfl⟩
 .have h:=mu h;rw[if_neg h] at dJ;have m:(0:Int)<=(aM s:Nat)/\((aM s:Nat):Int)<=4294967296:=av3
  refine⟨fun av=>?_,fun av=>?_⟩
  .refine⟨_,_,fun N=>adt (.inr ⟨rfl,rfl⟩) rfl Tryz.underlying154 rfl N,rfl,?_⟩;refine ar (qk s O) ⟨⟨rfl,m⟩,rfl,?_⟩;exact⟨_,_,_,ae.aV 45 2001 rfl,rfl,rfl,⟨rfl,rfl,rfl,rfl,by rw[dJ];rfl,trivial⟩,rfl⟩
  .refine ar (qk s O) ⟨⟨rfl,m⟩,rfl,?_⟩;exact⟨_,_,_,ae.aV 45 2001 rfl,rfl,rfl,⟨rfl,rfl,rfl,rfl,by rw[dJ];rfl,trivial⟩,rfl⟩
abbrev nc (b1 b2:Nat):aP:=.c (.one (.d (.fn (139,[b1,b2]))))
abbrev fY (s:bM) (R:bn->bf):aw:=dx s++[(9000,.cn 1001 R)]
def FM (s:bM) (R:bn->bf) (b1 b2:Nat) (c:Nat) (y:ay4):Prop:=
 y.length<=1000000/\Fn Tryz.prog 139 [ac (c:Int),dn b1,dn b2] (fY s R) [] (bS .u8 y) (fY s R)
theorem ad4 (s:bM) (R:bn->bf) (b1 b2:Nat) (O:s.z<=3) (al:s.t.length<=256) (c:Nat) (H:c < s.t.length) (hf:(s.t[c]).1=1-> ∃xs,s.f (s.t[c]).2.1=some xs/\xs.length<=128) (y:ay4) (da:(s.t[c]).1=0->FM s R b1 b2 c y):
  Fn Tryz.prog 132 [ap 1001,ac (c:Int),nc b1 b2] (fY s R) [2001] (eO 2001) (fY s R++[(2001,.row 5 .u8 (fO s c (some y)))]):=by
 obtain⟨c7,oI,oJ,uJ,zJ⟩:=info_parts Kw;have hw:=uL O
 have dJ:fO s c (some y)=if(s.t[c]).1=1 then(s.f (s.t[c]).2.1).getD [] else if(s.t[c]).1=0 then(if y.length=aM s then y else kq s) else kq s:=by
  unfold fO;rw[oj H]
 refine aU [7,8] Tryz.func132 ?_;refine ar (Fn.aV [(1001,1002)] (Cs s.t al c H)) ⟨rfl,fun h=>?_,fun h=>?_⟩
 .have h:=gd h;obtain⟨xs,hx,vI⟩:=hf h;rw[if_pos h,hx] at dJ;refine⟨_,_,fun N=>Fr (d:=5001) (k:=(s.t[c]).2.1) rfl Tryz.underlying89 Tryz.underlying3 rfl oI oJ rfl rfl rfl hx N,rfl,?_⟩;refine ar (Fn.aV [(1001,5001),(1002,2001)] (Rs xs au5)) ⟨rfl,?_⟩;exact⟨_,_,_,ae.Fs 1004 5001 (Rt hx) rfl rfl au6 (by rw[hx];rfl),rfl,rfl,⟨rfl,rfl,rfl,rfl,rfl,by rw[dJ];rfl,trivial⟩,rfl⟩
 .have h:=mu h;rw[if_neg h] at dJ;have m:(0:Int)<=(aM s:Nat)/\((aM s:Nat):Int)<=4294967296:=av3
  refine⟨fun av=>?_,fun av=>?_⟩
  .have av:=gd av;obtain⟨Ru,da⟩:=da av;rw[if_pos av] at dJ;refine⟨_,_,fun N=>ads (.inr ⟨rfl,rfl⟩) rfl Tryz.underlying154 rfl N,rfl,?_⟩;refine ar da <| ar (qk s O) ⟨fun G=>?_,fun G=>?_⟩
   .have G:(y.length:Int)=(aM s:Nat):=gd G;have G:y.length=aM s:=av3
    rw[if_pos G] at dJ;refine bz [] (cH [(8,bS .u8 y)] (fY s R)) <| ar (ad2 y au5) ?_;exact si bp rfl rfl ⟨rfl,rfl,rfl,rfl,rfl,by rw[dJ];rfl,trivial⟩ rfl
   .have G: ¬(y.length:Int)=(aM s:Nat):=mu G;have G: ¬y.length=aM s:=av3
    rw[if_neg G] at dJ;refine bz [] (cH [(0,ap 1001)] (fY s R)) <| ar (qk s O) ⟨⟨rfl,m⟩,rfl,?_⟩;exact⟨_,_,_,ae.aV 45 2001 rfl,rfl,rfl,⟨rfl,rfl,rfl,rfl,rfl,by rw[dJ];rfl,trivial⟩,rfl⟩
  .have av:=mu av;rw[if_neg av] at dJ;refine bz [] (cH [(0,ap 1001)] (fY s R)) <| ar (qk s O) ⟨⟨rfl,m⟩,rfl,?_⟩;exact⟨_,_,_,ae.aV 45 2001 rfl,rfl,rfl,⟨rfl,rfl,rfl,rfl,rfl,by rw[dJ];rfl,trivial⟩,rfl⟩
def zL (s:bM) (q:e7):bM:=if q.1=1 then {s with l:=s.l.set q.2.1.toNat 0,f:=B7 s.f q.2.1} else s
theorem ad5 (s:bM) (q:e7) (aT:q.1=1-> ∃h:Nat,q.2.1=(h:Int)/\s.l[h]? =some 1):Fn Tryz.prog 183 [ap 1001,.c (pC q)] (dx s) [] gJ (dx (zL s q)):=by
 refine aU [] Tryz.func183 ?_;refine⟨rfl,fun E=>?_,fun E=>?_⟩
 .have E: ¬q.1=1:=by
   have E:(!decide (q.1=1))=true:=E;simpa using E
  rw[show zL s q=s from if_neg E];exact bg
 .have E:q.1=1:=by
   have E:(!decide (q.1=1))=false:=E;simpa using E
  obtain⟨h,e,al⟩:=aT E;rw[show zL s q={s with l:=s.l.set q.2.1.toNat 0,f:=B7 s.f q.2.1} from if_pos E];obtain⟨k,x,o⟩:=q;simp only at e;subst e;refine ar (Fn.aV [(1001,1003),(1002,2003)] (adY s.l h 1 al au6 au6)) ⟨rfl,e5 ⟨_,_,fun N=>aci (k:=(h:Int)) rfl Tryz.underlying89 Tryz.underlying3 rfl rfl rfl rfl N,rfl,?_⟩⟩;exact⟨rfl,bg⟩
def rp (s:bM) (c:Nat) (q:e7):bM:=zL {s with t:=s.t.set c q} (s.t.getD c cD)
theorem Kx (s:bM) (al:s.t.length<=256) (c:Nat) (H:c < s.t.length) (q:e7) (ax:tx q) (aF:rj q=true) (aT:(s.t.getD c cD).1=1-> ∃h:Nat,(s.t.getD c cD).2.1=(h:Int)/\s.l[h]? =some 1):
  Fn Tryz.prog 145 [ap 1001,ac (c:Int),.c (pC q)] (dx s) [] gJ (dx (rp s c q)):=by
 have e:s.t[c]=s.t.getD c cD:=by rw[ap9,oj H];rfl
 have gO:=adX s.t al c H q ax aF;unfold rp;rw[e] at gO;generalize s.t.getD c cD=qT at aT gO;refine aU [] Tryz.func145 ?_;refine⟨rfl,ar (Fn.aV [(1001,1002)] gO) ⟨rfl,rfl,?_⟩⟩;exact ar (ad5 {s with t:=s.t.set c q} qT aT) bg
structure mM where
 c:Nat
 a:Nat
 b:Nat
 at_:Nat
abbrev uM (p:mM):List bC:=[.d (.int .i64 (p.c:Int)),.d (.int .i64 (p.a:Int)),.d (.int .i64 (p.b:Int)),.d (.int .i64 (p.at_:Int))]
abbrev ql (p:mM):aP:=.c (.agg (uM p))
def ht (s:bM) (c:Nat):Bool:= !wh (s.t.getD c cD)
theorem Ky (s:bM) (al:s.t.length<=256) (p:mM) (H:p.c < s.t.length):Fn Tryz.prog 140 [ap 1001,ql p] (dx s) [] (fK (ht s p.c)) (dx s):=by
 have e:s.t[p.c]=s.t.getD p.c cD:=by rw[ap9,oj H];rfl
 have mx:=Cs s.t al p.c H;unfold ht;rw[e] at mx;refine aU [] Tryz.func140 ?_;exact⟨rfl,ar (Fn.aV [(1001,1002)] mx) <| ar (adz (s.t.getD p.c cD)) ⟨rfl,bg⟩⟩
structure gC (s:bM):Prop where
 z:s.z<=3
 eV:s.t.length<=256
 lf:s.l.length<=512
 slot: ∀(c:Nat) (q:e7),s.t[c]? =some q->q=cD\/q=((2:Int),(0:Int),false)\/ ∃h:Nat,q=((1:Int),(h:Int),true)/\s.l[h]? =some 1/\ ∃xs,s.f (h:Int)=some xs/\xs.length=aM s
 inj: ∀(c d:Nat) (h:Int),s.t[c]? =some ((1:Int),h,true)->s.t[d]? =some ((1:Int),h,true)->c=d
 FN: ∀(h:Nat) n,s.l[h]? =some n->n=0\/n=1
 zM: ∀h:Nat,s.l[h]? =some 0->s.f (h:Int)=none
 FO: ∀h:Nat,s.l[h]? =some 1-> ∃c:Nat,s.t[c]? =some ((1:Int),(h:Int),true)
 dom: ∀(k:Int) xs,s.f k=some xs->xs.length<=128
def hU (l:List Int):Nat:=l.findIdx fun n=>decide (n=0)
theorem Kz {l:List Int} (h:0 < d3 l):l[hU l]? =some 0/\ ∀j,j < hU l->l[j]? ≠some 0:=by
 have bw:hU l < l.length:=by
  unfold hU;rw[List.findIdx_lt_length];unfold d3 at h;obtain⟨x,hx⟩:=List.exists_mem_of_length_pos h;rw[at5] at hx;exact⟨x,hx.1,hx.2⟩
 refine⟨?_,fun j Z e=>?_⟩
 .have:=List.findIdx_getElem (xs:=l) (p:=fun n=>decide (n=0)) (w:=bw);rw[oj bw];exact congrArg some (gd this)
 .have fj:j < l.length:=av3
  have:=List.not_of_lt_findIdx (p:=fun n=>decide (n=0)) (xs:=l) Z;rw[oj fj] at e;injection e with e
  simp[e] at this
def mN (s:bM) (c:Nat) (y:ay4):bM:=
 if ht s c=true then {s with t:=s.t.set c ((1:Int),(hU s.l:Int),true),l:=s.l.set (hU s.l) 1,f:=i' s.f (hU s.l:Int) (fO s c (some y))} else s
def FP (s:bM) (p:mM) (bs:ay4):bM:={s with f:=i' s.f (s.t.getD p.c cD).2.1 (laid ((s.f (s.t.getD p.c cD).2.1).getD []) p.a (p.b - p.a) bs)}
def xO (s:bM) (p:mM) (bs:ay4) (y:ay4):bM:=FP (mN s p.c y) p bs
abbrev Rv (bs:ay4):aY:=[(0,ap 1001),(2,bS .u8 bs),(5,ap 5)]
abbrev Rw (s:bM) (R:bn->bf) (p:mM):aw:=(5,.cells (uM p))::fY s R
theorem zN {t:List e7} {c:Nat} {q:e7} (h:t[c]? =some q):t.getD c cD=q:=by
 rw[ap9,h];rfl
theorem xP {s:bM} (aD:gC s) {c:Nat} (H:c < s.t.length) (y:Option ay4):(fO s c y).length=aM s:=by
 have aR:(kq s).length=aM s:=as4;have a1:s.t[c]? =some s.t[c]:=oj H;unfold fO;rw[a1];simp only;rcases aD.slot c _ a1 with e |e |⟨h,e,_,xs,hx,al⟩
 .rw[e,if_neg au6,if_pos au6]
  split
  .split
   .rename_i h;exact h
   .exact aR
  .exact aR
 .rw[e,if_neg au6,if_neg au6];exact aR
 .rw[e,if_pos rfl];simp only[hx,Option.getD_some];exact al
theorem FQ {s:bM} (aD:gC s) {c:Nat} (H:c < s.t.length):(ht s c=true/\(s.t.getD c cD=cD\/s.t.getD c cD=((2:Int),(0:Int),false)))\/(ht s c=false/\ ∃h:Nat,s.t[c]? =some ((1:Int),(h:Int),true)/\s.l[h]? =some 1/\ ∃xs,s.f (h:Int)=some xs/\xs.length=aM s):=by
 have a1:s.t[c]? =some s.t[c]:=oj H;have J:=zN a1;unfold ht wh;rw[J];rcases aD.slot c _ a1 with e |e |⟨h,e,G⟩
 .rw[e];exact .inl ⟨rfl,.inl rfl⟩
 .rw[e];exact .inl ⟨rfl,.inr rfl⟩
 .rw[e] at a1⊢;exact .inr ⟨rfl,h,a1,G⟩
theorem Rx {s:bM} (h:s.z<=3):aM s<=128:=by
 have:=kp h;show 16*2 ^s.z<=128;omega
theorem Ry {f:k8} (h: ∀(k:Int) xs,f k=some xs->xs.length<=128) {FR:Int} {ys:ay4} (aB:ys.length<=128): ∀(k:Int) xs,i' f FR ys k=some xs->xs.length<=128:=fun k xs ab=>by
 unfold i' at ab
 split at ab
 .injection ab with ab
  rw[<-ab];exact aB
 .exact h k xs ab
theorem Rz {s:bM} (aD:gC s) {c:Nat} (H:c < s.t.length) (y:ay4) (aR:ht s c=true->0 < d3 s.l):
  gC (mN s c y)/\aM (mN s c y)=aM s/\(mN s c y).t.length=s.t.length/\ ∃h:Nat,(mN s c y).t[c]? =some ((1:Int),(h:Int),true)/\(mN s c y).f (h:Int)=some (fO s c (some y)):=by
 rcases FQ aD H with⟨hn,aT⟩ |⟨hn,h,E,G,xs,aj,aX⟩
 .obtain⟨kk,q1⟩:=Kz (aR hn);have bw:hU s.l < s.l.length:=(ap5.1 kk).1;have j0:=aD.zM _ kk;have dJ:=xP aD H (some y);have mD:s.t[c]? =some (s.t.getD c cD):=by rw[ap9,oj H];rfl
  rw[show mN s c y={s with t:=s.t.set c ((1:Int),(hU s.l:Int),true),l:=s.l.set (hU s.l) 1,f:=i' s.f (hU s.l:Int) (fO s c (some y))} from if_pos hn];generalize fO s c (some y)=xs at dJ;generalize hU s.l=av at*
  have RA: ∀(d:Nat),s.t[d]? ≠some ((1:Int),(av:Int),true):=fun d e=>by
   rcases aD.slot d _ e with ao |ao |⟨h,ao,aj,_⟩
   .cases ao
   .cases ao
   .have:(av:Int)=(h:Int):=by injection ao with _ ao;injection ao
    have:av=h:=av3
    subst this;rw[kk] at aj
    cases aj
  refine⟨⟨aD.z,by show(s.t.set _ _).length<=256;rw[List.length_set];exact aD.eV,by show(s.l.set _ _).length<=512;rw[List.length_set];exact aD.lf,fun d q aT=>?_,fun d e h J V=>?_,fun h n hn=>?_,fun h bk=>?_,fun h bk=>?_,Ry aD.dom (by rw[dJ];exact Rx aD.z)⟩,rfl,List.length_set,av,?_,if_pos rfl⟩
  .rw[List.getElem?_set] at aT
   split at aT
   .rename_i e;subst e;injection aT with aT
    exact .inr (.inr ⟨av,aT.symm,by rw[List.getElem?_set_self bw],xs,if_pos rfl,dJ⟩)
   .rcases aD.slot d q aT with e |e |⟨h,e,g1,ys,g2,cZ⟩
    .exact .inl e
    .exact .inr (.inl e)
    .have a2:av≠h:=fun e=>by subst e;rw[kk] at g1;cases g1
     exact .inr (.inr ⟨h,e,by rw[List.getElem?_set_ne a2];exact g1,ys,by show(if(h:Int)=(av:Int) then some xs else s.f h)=some ys;rw[if_neg au5];exact g2,cZ⟩)
  .rw[List.getElem?_set] at J V
   split at J
   .rename_i ai
    split at V
    .rename_i ao;rw[<-ai,<-ao]
    .have:(av:Int)=h:=by injection J with J;injection J with _ J;injection J
     subst this;exact absurd V (RA e)
   .split at V
    .rename_i ao;have:(av:Int)=h:=by injection V with J;injection J with _ J;injection J
     subst this;exact absurd J (RA d)
    .exact aD.inj d e h J V
  .rw[List.getElem?_set] at hn
   split at hn
   .rename_i e;injection hn with hn
    exact .inr hn.symm
   .exact aD.FN h n hn
  .rw[List.getElem?_set] at bk
   split at bk
   .rename_i e;injection bk with bk
    exact absurd bk au6
   .rename_i e;show(if(h:Int)=(av:Int) then some xs else s.f h)=none;rw[if_neg au5];exact aD.zM h bk
  .by_cases e:av=h
   .subst e;exact⟨c,List.getElem?_set_self H⟩
   .rw[List.getElem?_set_ne e] at bk;obtain⟨d,J⟩:=aD.FO h bk
    have a2:c≠d:=fun ao=>by
     subst ao;rw[mD] at J;injection J with J
     rw[J] at aT;rcases aT with aT |aT <;>cases aT
    exact⟨d,by rw[List.getElem?_set_ne a2];exact J⟩
  .exact List.getElem?_set_self H
 .have e:mN s c y=s:=if_neg (by rw[hn];decide);rw[e];refine⟨aD,rfl,rfl,h,E,?_⟩;unfold fO;rw[E];simp only[if_pos,aj,Option.getD_some]
theorem RB (s:bM) (R:bn->bf) (b1 b2:Nat) (aD:gC s) (p:mM) (H:p.c < s.t.length) (bs:ay4) (E:p.a<=p.b) (G:p.b<=aM s) (aj:bs.length=p.b - p.a) (y:ay4) (da:(s.t[p.c]).1=0->FM s R b1 b2 p.c y) (aR:ht s p.c=true->0 < d3 s.l):
  Fn Tryz.prog 142 [ap 1001,ql p,bS .u8 bs,nc b1 b2] (fY s R) [] gJ (fY (xO s p bs y) R):=by
 obtain⟨c7,oI,oJ,uJ,zJ⟩:=info_parts Kw;have hw:=uL aD.z;have e:s.t[p.c]=s.t.getD p.c cD:=by rw[ap9,oj H];rfl
 obtain⟨fi,g3,pF,ez,uN,wj⟩:=Rz aD H y aR;have dJ:=xP aD H (some y);unfold xO
 have gk:=ad4 s R b1 b2 aD.z aD.eV p.c H (fun h=>by
  rcases aD.slot p.c _ (oj H) with ao |ao |⟨h,ao,_,xs,hx,al⟩
  .rw[ao] at h;cases h
  .rw[ao] at h;cases h
  .rw[ao];exact⟨xs,hx,au5⟩) y da
 generalize d1:mN s p.c y=s' at fi g3 pF uN wj;have tX:=zN uN
 have vx:s'.t[p.c]'au5=((1:Int),(ez:Int),true):=by
  have:=oj (l:=s'.t) (i:=p.c) au5;rw[uN] at this;injection this with this
  exact this.symm
 have Ct:=Cs s'.t fi.eV p.c au5;rw[vx] at Ct;unfold FP;rw[tX];simp only[wj,Option.getD_some];have m:(0:Int)<=(p.a:Int)/\(p.a:Int)<=(p.b:Int)/\(p.b:Int)<=(((fO s p.c (some y)).length:Nat):Int):=av3
 have m2:p.a+(p.b - p.a)<=(fO s p.c (some y)).length:=av3
 have vJ:i' s'.f (ez:Int) (laid (fO s p.c (some y)) p.a (p.b - p.a) bs)=i' s'.f (ez:Int) (laid (fO s p.c (some y)) p.a (p.b - p.a) bs):=rfl;refine aU [3,5,6] Tryz.func142 ?_;refine⟨rfl,ar (Ky s aD.eV p H) ⟨fun hn=>?_,fun hn=>?_⟩⟩
 .obtain⟨kk,q1⟩:=Kz (aR hn);refine ar gk <| bz [5,6] (cH [(0,ap 1001),(2,bS .u8 bs),(5,ap 5),(8,eO 2001)] ((5,.cells (uM p))::(2001,.row 5 .u8 (fO s p.c (some y)))::fY s R)) ?_;refine ar (Fn.aV [(1001,1003),(1002,2003)] (ad0 s.l (by have:=aD.lf;omega) (hU s.l) kk q1)) ⟨_,_,fun N=>acg (d:=2001) (k:=(hU s.l:Int)) rfl Tryz.underlying89 Tryz.underlying3 rfl rfl rfl rfl rfl rfl au6 (aD.zM _ kk) N,rfl,?_⟩;refine bz [6] (cH [(0,ap 1001),(2,bS .u8 bs),(5,ap 5),(9,ac (hU s.l:Nat))] ((5,.cells (uM p))::fY {s with l:=s.l.set (hU s.l) 1,f:=i' s.f (hU s.l:Int) (fO s p.c (some y))} R)) ?_
  have gO:Fn Tryz.prog 145 [ap 1001,ac (p.c:Int),.c (pC ((1:Int),(hU s.l:Int),true))] (dx {s with l:=s.l.set (hU s.l) 1,f:=i' s.f (hU s.l:Int) (fO s p.c (some y))}) [] gJ (dx s'):=by
   have bw:hU s.l < s.l.length:=(ap5.1 kk).1;have mK:=aD.lf
   have tn: ¬(s.t.getD p.c cD).1=1:=by
    rcases FQ aD H with⟨_,h⟩ |⟨h,_⟩
    .rcases h with h |h <;>rw[h] <;>decide
    .rw[hn] at h;cases h
   have h:=Kx {s with l:=s.l.set (hU s.l) 1,f:=i' s.f (hU s.l:Int) (fO s p.c (some y))} aD.eV p.c H ((1:Int),(hU s.l:Int),true) ⟨⟨by show(-1000000:Int)<=1;decide,by show(1:Int)<=1000000;decide⟩,by show(-1000000:Int)<=(hU s.l:Int);omega,by show((hU s.l:Nat):Int)<=1000000;omega⟩ (by
    show(if(1:Int)=1 then decide (0<=(hU s.l:Int))&&decide ((hU s.l:Int) < 512) else _)=true;rw[if_pos rfl,aq1 au5,aq1 au5];rfl) (fun h=>absurd h tn)
   rwa[show rp {s with l:=s.l.set (hU s.l) 1,f:=i' s.f (hU s.l:Int) (fO s p.c (some y))} p.c ((1:Int),(hU s.l:Int),true)=s' by
    rw[<-d1];unfold rp zL mN;rw[if_neg tn,if_pos hn]] at h
  refine ar (Fn.arg gO ⟨rfl,rfl,aA,trivial⟩) <| bz [] (cH (Rv bs) (Rw s' R p)) <| ar (Fn.aV [(1001,1002)] Ct) ⟨_,_,fun N=>Kq rfl Tryz.underlying224 rfl Tryz.underlying3 rfl rfl rfl N,rfl,?_⟩;refine⟨_,_,fun N=>Fr (d:=5001) (k:=(ez:Int)) rfl Tryz.underlying89 Tryz.underlying3 rfl oI oJ rfl rfl rfl wj N,rfl,?_⟩;refine⟨m,m2,rfl,?_⟩;exact⟨_,_,_,ae.Fs 1004 5001 vJ rfl rfl au6 (by rw[wj];rfl),rfl,trivial,aA,rfl⟩
 .have f':s=s':=by rw[<-d1];unfold mN;rw[if_neg (by rw[hn];decide)]
  subst f';refine bz [] (cH (Rv bs) (Rw s R p)) <| ar (Fn.aV [(1001,1002)] Ct) ⟨_,_,fun N=>Kq rfl Tryz.underlying224 rfl Tryz.underlying3 rfl rfl rfl N,rfl,?_⟩;refine⟨_,_,fun N=>Fr (d:=5001) (k:=(ez:Int)) rfl Tryz.underlying89 Tryz.underlying3 rfl oI oJ rfl rfl rfl wj N,rfl,?_⟩;refine⟨m,m2,rfl,?_⟩;exact⟨_,_,_,ae.Fs 1004 5001 vJ rfl rfl au6 (by rw[wj];rfl),rfl,trivial,aA,rfl⟩
def hV (s:bM):Nat:=s.t.length*2 ^s.z
def eh (s:bM) (at_ aZ:Int):Int:=if aZ < 0 then 1 else if at_ < 0\/aZ >hV s\/at_ >hV s - aZ then 121 else 0
theorem wk (s:bM) (aD:gC s) (at_ aZ:Int):Fn Tryz.prog 130 [ap 1001,ac at_,ac aZ] (dx s) [] (ac (eh s at_ aZ)) (dx s):=by
 have af:=kp aD.z;have nd:=aD.eV;have E:s.t.length*2 ^s.z<=256*8:=Nat.mul_le_mul nd af.2;have e:((s.t.length:Nat):Int)*((2 ^s.z:Nat):Int)=((hV s:Nat):Int):=by unfold hV;rw[Int.natCast_mul]
 have eH:hV s<=2048:=E;refine aU [1,2] Tryz.func130 ?_;refine bt.mI 14 au6 ?_;refine bz [2] (bp) <| v6 rfl rfl rfl (mL s) ?_;have m1:(0:Int)<=(s.t.length:Nat)/\(0:Int)<=(s.z:Int)/\(s.z:Int)<=64:=by have:=aD.z;omega
 have m2:c0 (((s.t.length:Nat):Int)*((2 ^s.z:Nat):Int)):=by rw[e];omega
 refine⟨m1,m2,rfl,bz [] (ae.sub (K':=[(1,ac at_),(2,ac aZ),(7,ac (hV s:Nat))]) (B':=dx s) ⟨rfl,rfl,e,trivial⟩ aA) ⟨fun h=>?_,fun h=>?_⟩⟩
 .have h:aZ < 0:=gd h;exact eq bp rfl (show(1:Int)=eh s at_ aZ by unfold eh;rw[if_pos h])
 .have h: ¬aZ < 0:=mu h;have KA: ∀(_:at_ < 0\/aZ >hV s\/at_ >hV s - aZ),(121:Int)=eh s at_ aZ:=fun G=>by unfold eh;rw[if_neg h,if_pos G]
  refine⟨fun E=>?_,fun E=>?_⟩
  .have E:at_ < 0:=gd E;exact eq bp rfl (KA (.inl E))
  .have E: ¬at_ < 0:=mu E;refine⟨fun G=>?_,fun G=>?_⟩
   .have G:((hV s:Nat):Int) < aZ:=gd G;exact eq bp rfl (KA (.inr (.inl G)))
   .have G: ¬((hV s:Nat):Int) < aZ:=mu G;have m3:c0 (((hV s:Nat):Int) - aZ):=av3
    refine⟨m3,fun aj=>?_,fun aj=>?_⟩
    .have aj:((hV s:Nat):Int) - aZ < at_:=gd aj;exact eq bp rfl (KA (.inr (.inr aj)))
    .have aj: ¬((hV s:Nat):Int) - aZ < at_:=mu aj;exact eq bp rfl (show(0:Int)=eh s at_ aZ by unfold eh;rw[if_neg h,if_neg au5])
def bq (W a l k:Nat):mM:=⟨16*a/W+k,16*a - (16*a/W+k)*W,min (16*(a+l) - (16*a/W+k)*W) W,(16*a/W+k)*W+(16*a - (16*a/W+k)*W) - 16*a⟩
def cQ (W a l:Nat):Nat:=if l=0 then 0 else(16*(a+l)+W - 1)/W - 16*a/W
def zO (W:Nat):Prop:=W=16\/W=32\/W=64\/W=128
theorem sq {s:bM} (h:s.z<=3):zO (aM s):=by
 unfold zO aM;generalize s.z=b at h
 match b,h with
 |0,_=>exact .inl rfl
 |1,_=>exact .inr (.inl rfl)
 |2,_=>exact .inr (.inr (.inl rfl))
 |3,_=>exact .inr (.inr (.inr rfl))
theorem xQ {W a l k:Nat} (d2:zO W):(0 < l/\(16*a/W+k)*W < 16*(a+l))↔k < cQ W a l:=by
 unfold cQ;rcases d2 with rfl |rfl |rfl |rfl <;>(split <;>omega)
theorem tz {W a l k:Nat} (d2:zO W) (ab:k < cQ W a l):(bq W a l k).a<=(bq W a l k).b/\(bq W a l k).b<=W/\(bq W a l k).at_+((bq W a l k).b - (bq W a l k).a)<=16*l/\(bq W a l k).c*W < 16*(a+l):=by
 have h:=(xQ (a:=a) (l:=l) (k:=k) d2).2 ab;unfold bq;simp only;rcases d2 with rfl |rfl |rfl |rfl <;>omega
abbrev Cu (l:Nat):aP:=.c (.one (.bJ (.func (.yield l) #[] #[])))
abbrev qm (a l:Int):aw:=[(2001,.cells [.ptr 1001 0]),(2002,.cells [.d (.int .i64 a)]),(2003,.cells [.d (.int .i64 l)])]
abbrev RC (y W a l k:Nat):aY:=[(0,Cu y),(1,ap 2001),(2,ap 2002),(3,ap 2003),(5,ac (W:Nat)),(6,ac ((16*a:Nat):Int)),(7,ac ((16*(a+l):Nat):Int)),(8,ac ((16*a/W+k:Nat):Int))]
abbrev fSz (a l:Nat) (o:bf):aw:=[(2001,.cells [.ptr 1001 0]),(2002,.cells [.d (.int .i64 (a:Int))]),(2003,.cells [.d (.int .i64 (l:Int))]),(1001,.aG o)]
abbrev ad6 (y W:Nat):aY:=[(0,Cu y),(1,ap 2001),(2,ap 2002),(3,ap 2003),(5,ac (W:Nat))]
theorem ad7 {W a l k:Nat} (d2:zO W):(((16*a/W+k:Nat):Int))*(W:Int)=(((16*a/W+k)*W:Nat):Int)/\max (((16*a:Nat):Int) - (((16*a/W+k)*W:Nat):Int)) 0=((bq W a l k).a:Int)/\(k < cQ W a l->min (((16*(a+l):Nat):Int) - (((16*a/W+k)*W:Nat):Int)) (W:Int)=((bq W a l k).b:Int))/\(((16*a/W+k)*W:Nat):Int)+((bq W a l k).a:Int) - ((16*a:Nat):Int)=((bq W a l k).at_:Int):=by
 refine⟨by rw[Int.natCast_mul],?_,fun ab=>?_,?_⟩
 .unfold bq;simp only;omega
 .have h:=(xQ (a:=a) (l:=l) (k:=k) d2).2 ab;unfold bq;simp only;omega
 .unfold bq;simp only;rcases d2 with rfl |rfl |rfl |rfl <;>omega
theorem zP (y W a l:Nat) (d2:zO W) (ha:a<=10000) (al:l<=10000) (fV:Nat->bf) (O: ∀k,Fn Tryz.prog 144 [ap 1001] [(1001,.aG (fV k))] [] (ac (W:Nat)) [(1001,.aG (fV k))])
  (aB: ∀k,k < cQ W a l->xw Tryz.prog y [ql (bq W a l k)] [(1001,.aG (fV k))] (fun _:Unit=>qV true) (fun _=>[(1001,.aG (fV (k+1)))])):
  Fn Tryz.prog 174 [Cu y,ap 2001,ap 2002,ap 2003] (fSz a l (fV 0)) [] (.cf []) [(1001,.aG (fV (cQ W a l)))]:=by
 have xR:16<=W/\W<=128:=by rcases d2 with rfl |rfl |rfl |rfl <;>omega
 refine aU [1,7] Tryz.func174 ?_;refine ar (O 0) <| bz [7] (cH (ad6 y W) (fSz a l (fV 0))) ?_;have m1:c0 ((a:Int)*16):=av3
 have m2:c0 ((a:Int)+(l:Int)):=av3
 have m3:c0 (((a:Int)+(l:Int))*16):=av3
 refine⟨m1,m2,m3,rfl,?_⟩;have bG:((a:Int)*16)/(W:Int)=((16*a/W+0:Nat):Int):=by rcases d2 with rfl |rfl |rfl |rfl <;>omega
 have jb:(0:Int)<=(a:Int)*16/\(0:Int) < (W:Int):=av3
 have vK:16*a/W<=10000:=by rcases d2 with rfl |rfl |rfl |rfl <;>omega
 have tA:c0 (((a:Int)*16)/(W:Int)):=by rw[bG];generalize 16*a/W=q at vK;omega
 refine⟨jb,tA,dQ [7] (X:=Nat) (RC y W a l) (fun k=>fSz a l (fV k)) (fun k=>k<=cQ W a l) (fun k=>cQ W a l - k) 0 (ap7 _) ?_ ?_⟩
 .exact ae.sub ⟨rfl,rfl,rfl,rfl,rfl,(by show(a:Int)*16=((16*a:Nat):Int);omega),(by show((a:Int)+(l:Int))*16=((16*(a+l):Nat):Int);omega),bG,trivial⟩ aA
 intro k ab;obtain⟨g1,g2,cZ,jo⟩:=ad7 (a:=a) (l:=l) (k:=k) d2;have qU:=xQ (a:=a) (l:=l) (k:=k) d2
 have eJ:cQ W a l<=30000:=by
  unfold cQ;rcases d2 with rfl |rfl |rfl |rfl <;>(split <;>omega)
 have dJ:(16*a/W+k)*W<=40000*128:=Nat.mul_le_mul au5 xR.2;have out: ∀(h: ¬k < cQ W a l),k=cQ W a l:=fun h=>by omega
 refine⟨fun E=>?_,fun E=>?_⟩
 .have E:(0:Int) < (l:Int):=gd E;have cI:c0 (((16*a/W+k:Nat):Int)*(W:Int)):=by rw[g1];omega
  refine⟨cI,fun G=>?_,fun G=>?_⟩
  .have G:((16*a/W+k:Nat):Int)*(W:Int) < ((16*(a+l):Nat):Int):=gd G;have rq:k < cQ W a l:=qU.1 ⟨au5,by rw[g1] at G;omega⟩;have dF:c0 (((16*a:Nat):Int) - ((16*a/W+k:Nat):Int)*(W:Int)):=by rw[g1];omega
   have ld:c0 (((16*(a+l):Nat):Int) - ((16*a/W+k:Nat):Int)*(W:Int)):=by rw[g1];omega
   refine⟨cI,dF,cI,ld,rfl,?_⟩;have sr:c0 (((16*a/W+k:Nat):Int)*(W:Int)+max (((16*a:Nat):Int) - ((16*a/W+k:Nat):Int)*(W:Int)) 0):=by rw[g1];omega
   have n5:c0 (((16*a/W+k:Nat):Int)*(W:Int)+max (((16*a:Nat):Int) - ((16*a/W+k:Nat):Int)*(W:Int)) 0 - ((16*a:Nat):Int)):=by rw[g1];omega
   refine⟨cI,sr,n5,?_⟩
   have gk: [bC.d (.int .i64 ((16*a/W+k:Nat):Int)),.d (.int .i64 (max (((16*a:Nat):Int) - ((16*a/W+k:Nat):Int)*(W:Int)) 0)),.d (.int .i64 (min (((16*(a+l):Nat):Int) - ((16*a/W+k:Nat):Int)*(W:Int)) (W:Int))),.d (.int .i64 (((16*a/W+k:Nat):Int)*(W:Int)+max (((16*a:Nat):Int) - ((16*a/W+k:Nat):Int)*(W:Int)) 0 - ((16*a:Nat):Int)))]=uM (bq W a l k):=by
    rw[g1,g2,cZ rq,jo];rfl
   refine bt.le (ae.sub (K':=(9,ap 9)::RC y W a l k) (B':=(9,.cells (uM (bq W a l k)))::fSz a l (fV k)) aA ⟨?_,rfl,rfl,rfl,rfl,trivial⟩) ?_
   .exact congrArg (fun l=>some (bb.cells l)) gk
   refine bt.iC eX au8 ?_;refine⟨Unit,_,_,_,aB k rq,aA,fun _=>rfl,fun _=>?_⟩;have n6:c0 (((16*a/W+k:Nat):Int)+1):=by generalize 16*a/W=q at vK;omega
   refine⟨n6,k+1,rq,au5,ae.sub aA aA⟩
  .have G: ¬((16*a/W+k:Nat):Int)*(W:Int) < ((16*(a+l):Nat):Int):=mu G;have rq:k=cQ W a l:=out fun h=>G (by have:=(qU.2 h).2;rw[g1];omega)
   subst rq;exact bg
 .have E: ¬(0:Int) < (l:Int):=mu E;have rq:k=cQ W a l:=out fun h=>E (by have:=(qU.2 h).1;omega)
  subst rq;exact bg
theorem zQ (s:bM) (a l:Int):Fn Tryz.prog 131 [ap 1001,ac a,ac l] (dx s) [2001,2002,2003] (.c (.one (.cU 174 [.p 2001 0,.p 2002 0,.p 2003 0]))) (dx s++qm a l):=by
 refine aU [] Tryz.func131 ?_;exact⟨rfl,rfl,rfl,_,_,_,(ae.aV 3 2001 rfl).trans ((ae.aV 4 2002 rfl).trans (ae.aV 5 2003 rfl)),rfl,rfl,aA,rfl⟩
theorem ad8 (s:bM) (aD:gC s) (c:Nat) (H:c < s.t.length):Fn Tryz.prog 132 [ap 1001,ac (c:Int),.c (.one (.bJ .nilFunc))] (dx s) [] (bS .u8 (fO s c none)) (dx s):=
 Fn.dW (ad3 s aD.z aD.eV c H fun h=>by
  rcases aD.slot c _ (oj H) with ao |ao |⟨h,ao,_,xs,hx,al⟩
  .rw[ao] at h;cases h
  .rw[ao] at h;cases h
  .rw[ao];exact⟨xs,hx,by have:=(uL aD.z).2;omega⟩) rfl rfl
def zR (s:bM) (a l k:Nat):ay4:=((fO s (bq (aM s) a l k).c none).take (bq (aM s) a l k).b).drop (bq (aM s) a l k).a
def xS (s:bM) (a l:Nat):Nat->ay4
 |0=>[]
 |k+1=>xS s a l k++zR s a l k
def KB (s:bM) (a l:Nat):ay4:=xS s a l (cQ (aM s) a l)
abbrev ad9:aY:=[(3,ap 3),(9,ap 9)]
abbrev KC (s:bM) (acc:ay4):aw:=dx s++[(3,.cells [.ptr 1001 0]),(9,.cells [.own 5002]),(5002,.row 5 .u8 acc)]
abbrev ad' (s:bM) (acc:ay4):aw:=dx s++[(3,.cells [.ptr 1001 0]),(9,.cells [.own 33]),(33,.row 5 .u8 acc)]
theorem RD {s:bM} (aD:gC s) {a l:Nat}: ∀k,(xS s a l k).length<=k*128
 |0=>ap0 _
 |k+1=>by
  have h:=RD aD (a:=a) (l:=l) k
  have G:(zR s a l k).length<=128:=by
   unfold zR;rw[at1,ap8]
   have aj:(bq (aM s) a l k).b<=128:=by
    unfold bq;simp only;have:=(uL aD.z).2;omega
   omega
  show(xS s a l k++zR s a l k).length<=_;rw[ap1];omega
theorem RE (s:bM) (aD:gC s) (a l:Nat) (av:eh s a l=0):Fn Tryz.prog 80 [ap 1001,ac (a:Int),ac (l:Int)] (dx s) [] (.cf [.one (.d (.ck .u8 (KB s a l))),dw 0]) (dx s):=by
 have d2:=sq aD.z
 have eH:(a:Int)+(l:Int)<=(hV s:Nat):=by
  unfold eh at av
  split at av
  .cases av
  .split at av
   .cases av
   .omega
 have xT:hV s<=2048:=Nat.mul_le_mul aD.eV (kp aD.z).2;refine aU [4,5] Tryz.func80 ?_;refine⟨rfl,ar (wk s aD a l) ?_⟩;rw[av];refine df <| bz [5] (bp) ⟨rfl,bz [] ((ae.vO 9 0 5002 5 .u8 rfl rfl rfl).trans (cH [(1,ac (a:Int)),(2,ac (l:Int)),(3,ap 3),(9,ap 9)] (KC s []))) <| ar (zQ s a l) <| bt.le (cH [(21,.c (.one (.cU 174 [.p 2001 0,.p 2002 0,.p 2003 0]))),(3,ap 3),(9,ap 9)] (qm a l++KC s [])) <| bt.range eX [] (pl:=[22]) rfl au8 au8 au8 au8 [1001,1002,1003,1004,3,9] _ ad9 (qm a l) (fun k:Nat=>KC s (xS s a l k)) 1001 0 (cQ (aM s) a l) (fun k aE dV=>k < cQ (aM s) a l/\aE=[ql (bq (aM s) a l k)]/\dV=k+1) rfl av8 rfl rfl ?_ ?_ ?_⟩
 .rintro k aE dV ⟨ab,rfl,rfl⟩;obtain⟨dY,cS,dG,dL⟩:=tz d2 ab
  have H:(bq (aM s) a l k).c < s.t.length:=by
   have e:hV s*16=s.t.length*aM s:=by unfold hV aM;rw[Nat.mul_assoc,Nat.mul_comm (2 ^s.z) 16]
   have E:(bq (aM s) a l k).c*aM s < s.t.length*aM s:=av3
   exact Nat.lt_of_mul_lt_mul_right E
  have dJ:=xP aD H none;have b6:=RD aD (a:=a) (l:=l) k
  have rq:k<=3000:=by
   have E:=(xQ (a:=a) (l:=l) (k:=k) d2).2 ab;rcases d2 with e |e |e |e <;>rw[e] at E <;>omega
  have m1:(0:Int)<=((bq (aM s) a l k).a:Int)/\((bq (aM s) a l k).a:Int)<=((bq (aM s) a l k).b:Int)/\((bq (aM s) a l k).b:Int)<=(((fO s (bq (aM s) a l k).c none).length:Nat):Int):=av3
  have m2:(xS s a l k).length+(((fO s (bq (aM s) a l k).c none).take (bq (aM s) a l k).b).drop (bq (aM s) a l k).a).length<=4294967296:=by
   rw[at1,ap8];omega
  have aea:=ad8 s aD _ H;exact⟨rfl,rfl,rfl,rfl,ar aea ⟨m1,m2,rfl,rfl,rfl,(cH [] (ad' s (xS s a l (k+1)))).trans (ae.aV 33 5002 rfl)⟩⟩
 .intro y fV rr aB;exact zP y (aM s) a l d2 au5 au5 fV (fun k=>rr _ _ _ k k (Fn.qj _ (qk s aD.z) rfl rfl) rfl rfl) (fun k ab=>aB k _ (k+1) ⟨ab,rfl,rfl⟩)
 .refine⟨_,_,_,ae.dW 5002 rfl,rfl,aA,aA,rfl⟩
theorem aeb (s:bM) (aD:gC s) (a l:Int) (av:eh s a l≠0):Fn Tryz.prog 80 [ap 1001,ac a,ac l] (dx s) [] (.cf [.one .dD,dw (eh s a l)]) (dx s):=by
 refine aU [] Tryz.func80 ?_;refine⟨rfl,ar (wk s aD a l) ?_⟩;exact⟨fun _=>bg,fun h=>absurd (show eh s a l=0 by have h:(!decide (eh s a l=0))=false:=h;simpa using h) av⟩
theorem ss {s:bM} (aD:gC s) {a l:Nat} (eH:a+l<=hV s) {k:Nat} (ab:k < cQ (aM s) a l):(bq (aM s) a l k).c < s.t.length/\k<=3000:=by
 have d2:=sq aD.z;have xT:hV s<=2048:=Nat.mul_le_mul aD.eV (kp aD.z).2;obtain⟨dY,cS,dG,dL⟩:=tz d2 ab;refine⟨?_,?_⟩
 .have e:hV s*16=s.t.length*aM s:=by unfold hV aM;rw[Nat.mul_assoc,Nat.mul_comm (2 ^s.z) 16]
  have E:(bq (aM s) a l k).c*aM s < s.t.length*aM s:=av3
  exact Nat.lt_of_mul_lt_mul_right E
 .have E:=(xQ (a:=a) (l:=l) (k:=k) d2).2 ab;rcases d2 with e |e |e |e <;>rw[e] at E <;>omega
theorem su {s:bM} {a l:Nat} (av:eh s a l=0):a+l<=hV s:=by
 unfold eh at av
 split at av
 .cases av
 .split at av
  .cases av
  .omega
def h5 (s:bM) (a l:Nat):Nat->Nat
 |0=>0
 |k+1=>h5 s a l k+(if ht s (bq (aM s) a l k).c=true then 1 else 0)
def tB (bs:ay4) (p:mM):ay4:=(bs.take (p.at_+p.b - p.a)).drop p.at_
def i0 (s:bM) (a l:Nat) (bs:ay4) (y:Nat->ay4):Nat->bM
 |0=>s
 |k+1=>xO (i0 s a l bs y k) (bq (aM s) a l k) (tB bs (bq (aM s) a l k)) (y (bq (aM s) a l k).c)
theorem aec (s:bM) (a l k:Nat):h5 s a l k<=k:=by
 induction k with
 |zero=>exact ap0 _
 |succ k br=>
  show h5 s a l k+_<=k+1
  split <;>omega
abbrev KD (s:bM) (R:bn->bf) (bs:ay4) (b1 b2:Nat) (n:Nat):aw:=fY s R++[(4,.cells [.ptr 1001 0]),(6,.cells [.d (.ck .u8 bs)]),(7,.cells [.d (.fn (139,[b1,b2]))]),(11,.cells [.d (.int .i64 (n:Int))])]
abbrev Cv (s:bM) (R:bn->bf) (bs:ay4) (b1 b2:Nat):aw:=fY s R++[(4,.cells [.ptr 1001 0]),(6,.cells [.d (.ck .u8 bs)]),(7,.cells [.d (.fn (139,[b1,b2]))])]
abbrev KE (a l:Nat):aY:=[(1,ac (a:Int)),(4,ap 4),(6,ap 6),(7,ap 7),(9,ac (l:Int))]
abbrev KF (a l:Nat):aY:=[(1,ac (a:Int)),(4,ap 4),(6,ap 6),(7,ap 7),(9,ac (l:Int)),(11,ap 11)]
theorem aed (s:bM) (R:bn->bf) (b1 b2:Nat) (aD:gC s) (a l:Nat) (bs:ay4) (hd:bs.length=16*l) (av:eh s a l=0) (y:Nat->ay4) (r:Int) (s':bM) (fv:d3 s.l < h5 s a l (cQ (aM s) a l)->r=120/\s'=s) (KG:h5 s a l (cQ (aM s) a l)<=d3 s.l->r=0/\s'=i0 s a l bs y (cQ (aM s) a l))
  (ez:h5 s a l (cQ (aM s) a l)<=d3 s.l-> ∀k,k < cQ (aM s) a l->Fn Tryz.prog 142 [ap 1001,ql (bq (aM s) a l k),bS .u8 (tB bs (bq (aM s) a l k)),nc b1 b2] (fY (i0 s a l bs y k) R) [] gJ (fY (i0 s a l bs y (k+1)) R)) (zS:h5 s a l (cQ (aM s) a l)<=d3 s.l-> ∀k,k<=cQ (aM s) a l->(i0 s a l bs y k).z=s.z):
  Fn Tryz.prog 88 [ap 1001,ac (a:Int),bS .u8 bs,nc b1 b2] (fY s R) [] (ac r) (fY s' R):=by
 have d2:=sq aD.z;have eH:=su av;have xT:hV s<=2048:=Nat.mul_le_mul aD.eV (kp aD.z).2;have aT:((bs.length:Nat):Int)/16=(l:Int):=av3
 have aF:((bs.length:Nat):Int) % 16=0:=av3
 refine aU [4,7,8,12,14,17] Tryz.func88 ?_;refine⟨rfl,rfl,rfl,?_⟩;have m1:(0:Int)<=((bs.length:Nat):Int)/\(0:Int) < 16:=av3
 have m2:c0 (((bs.length:Nat):Int)/16):=av3
 have m3:c0 (((bs.length:Nat):Int) % 16):=av3
 refine⟨m1,m2,m1,m3,?_⟩
 refine⟨fun h=>(by
  have h:(!decide ((((bs.length:Nat):Int)) % 16=0))=true:=h;rw[aq1 aF] at h
  cases h),fun _=>?_⟩
 refine bz [7] (ae.sub (K':=[(1,ac (a:Int)),(4,ap 4),(6,ap 6),(7,ap 7),(9,ac (l:Int))]) (B':=Cv s R bs b1 b2) ⟨rfl,rfl,rfl,rfl,aT,trivial⟩ aA) <| ar (wk s aD a l) ?_;rw[av];refine df <| bz [8] (bp) ⟨rfl,bz [] (cH (KF a l) (KD s R bs b1 b2 0)) <| ar (zQ s a l) <| bt.le (cH ((31,.c (.one (.cU 174 [.p 2001 0,.p 2002 0,.p 2003 0])))::KF a l) (qm a l++KD s R bs b1 b2 0)) <| bt.range eX [] (pl:=[32]) rfl au8 au8 au8 au8 [1001,1002,1003,1004,9000,4,6,7,11] _ (KF a l) (qm a l) (fun k:Nat=>KD s R bs b1 b2 (h5 s a l k)) 1001 0 (cQ (aM s) a l) (fun k aE dV=>k < cQ (aM s) a l/\aE=[ql (bq (aM s) a l k)]/\dV=k+1) rfl av8 rfl rfl ?_ ?_ ?_⟩
 .rintro k aE dV ⟨ab,rfl,rfl⟩;obtain⟨H,rq⟩:=ss aD eH ab;have KH:=aec s a l k;refine⟨rfl,rfl,rfl,rfl,ar (Ky s aD.eV _ H) ⟨fun hn=>?_,fun hn=>?_⟩⟩
  .have e:((h5 s a l k:Nat):Int)+1=((h5 s a l (k+1):Nat):Int):=by
    show _=((h5 s a l k+_:Nat):Int);rw[if_pos hn];omega
   have jb:c0 (((h5 s a l k:Nat):Int)+1):=av3
   refine⟨jb,?_⟩;exact⟨rfl,ae.sub trivial ⟨rfl,rfl,rfl,rfl,rfl,rfl,rfl,rfl,by rw[<-e];rfl,trivial⟩⟩
  .have e:h5 s a l (k+1)=h5 s a l k:=by
    show h5 s a l k+_=_;rw[if_neg (by rw[hn];decide)];exact Nat.add_zero _
   exact⟨rfl,ae.sub trivial ⟨rfl,rfl,rfl,rfl,rfl,rfl,rfl,rfl,by rw[e];rfl,trivial⟩⟩
 .intro y fV rr aB;exact zP y (aM s) a l d2 au5 au5 fV (fun k=>rr _ _ _ k k (Fn.qj [(9000,.cn 1001 R),(4,.cells [.ptr 1001 0]),(6,.cells [.d (.ck .u8 bs)]),(7,.cells [.d (.fn (139,[b1,b2]))]),(11,.cells [.d (.int .i64 (h5 s a l k:Int))])] (qk s aD.z) rfl rfl) rfl rfl) (fun k ab=>aB k _ (k+1) ⟨ab,rfl,rfl⟩)
 .have aR:d3 s.l<=512:=as9 (Kv _) aD.lf;refine bz [14,17] (bp) ?_;refine ar (Rr s (by have:=aD.lf;omega)) ⟨rfl,fun h=>?_,fun h=>?_⟩
  .have h:((d3 s.l:Nat):Int) < ((h5 s a l (cQ (aM s) a l):Nat):Int):=gd h;obtain⟨rfl,rfl⟩:=fv au5;exact bg
  have h: ¬((d3 s.l:Nat):Int) < ((h5 s a l (cQ (aM s) a l):Nat):Int):=mu h;have d0:h5 s a l (cQ (aM s) a l)<=d3 s.l:=av3
  obtain⟨rfl,rfl⟩:=KG d0;have ez:=ez d0;have zS:=zS d0;refine bz [17] (cH (KE a l) (Cv s R bs b1 b2)) <| ar (zQ s a l) <| bt.le (cH ((45,.c (.one (.cU 174 [.p 2001 0,.p 2002 0,.p 2003 0])))::KE a l) (qm a l++Cv s R bs b1 b2)) <| bt.range eX [] (pl:=[46]) rfl au8 au8 au8 au8 [1001,1002,1003,1004,9000,4,6,7] _ (KE a l) (qm a l) (fun k:Nat=>Cv (i0 s a l bs y k) R bs b1 b2) 1001 0 (cQ (aM s) a l) (fun k aE dV=>k < cQ (aM s) a l/\aE=[ql (bq (aM s) a l k)]/\dV=k+1) rfl av8 rfl rfl ?_ ?_ ?_
  .rintro k aE dV ⟨ab,rfl,rfl⟩;obtain⟨H,rq⟩:=ss aD eH ab;obtain⟨dY,cS,dG,dL⟩:=tz d2 ab;have ez:=ez k ab;have hw:=uL aD.z;refine⟨rfl,rfl,rfl,rfl,?_⟩
   have hx:tB bs (bq (aM s) a l k)=(bs.take (((bq (aM s) a l k).at_:Int)+((bq (aM s) a l k).b:Int) - ((bq (aM s) a l k).a:Int)).toNat).drop (((bq (aM s) a l k).at_:Int)).toNat:=by
    unfold tB;rw[show(((bq (aM s) a l k).at_:Int)+((bq (aM s) a l k).b:Int) - ((bq (aM s) a l k).a:Int)).toNat=(bq (aM s) a l k).at_+(bq (aM s) a l k).b - (bq (aM s) a l k).a by omega];rfl
   have jb:c0 (((bq (aM s) a l k).at_:Int)+((bq (aM s) a l k).b:Int)):=av3
   have tA:c0 (((bq (aM s) a l k).at_:Int)+((bq (aM s) a l k).b:Int) - ((bq (aM s) a l k).a:Int)):=av3
   have rs:(0:Int)<=((bq (aM s) a l k).at_:Int)/\((bq (aM s) a l k).at_:Int)<=((bq (aM s) a l k).at_:Int)+((bq (aM s) a l k).b:Int) - ((bq (aM s) a l k).a:Int)/\((bq (aM s) a l k).at_:Int)+((bq (aM s) a l k).b:Int) - ((bq (aM s) a l k).a:Int)<=((bs.length:Nat):Int):=av3
   rw[hx] at ez;exact⟨jb,tA,rs,ar ez ⟨rfl,rfl,ae.sub trivial aA⟩⟩
  .intro xU fV rr aB
   have h:=zP xU (aM s) a l d2 au5 au5 (fun k=>fV (min k (cQ (aM s) a l))) (fun k=>rr _ _ _ (min k (cQ (aM s) a l)) (min k (cQ (aM s) a l)) (by
    have O:=zS (min k (cQ (aM s) a l)) (Nat.min_le_right _ _);have G:=qk (i0 s a l bs y (min k (cQ (aM s) a l))) (by rw[O];exact aD.z);rw[show aM (i0 s a l bs y (min k (cQ (aM s) a l)))=aM s from congrArg (fun b=>16*2 ^b) O] at G
    exact Fn.qj [(9000,.cn 1001 R),(4,.cells [.ptr 1001 0]),(6,.cells [.d (.ck .u8 bs)]),(7,.cells [.d (.fn (139,[b1,b2]))])] G rfl rfl) rfl rfl) (fun k ab=>by
    have h:=aB k _ (k+1) ⟨ab,rfl,rfl⟩;rw[Nat.min_eq_left au5,Nat.min_eq_left au5];exact h)
   simp only[Nat.zero_min,Nat.min_self] at h;exact h
  .show bt _ _ _ _ _ _ _;exact bz [] (bp) bg
theorem aee (s:bM) (R:bn->bf) (b1 b2:Nat) (a:Int) (bs:ay4) (h:bs.length % 16≠0) (al:bs.length<=1000000000):Fn Tryz.prog 88 [ap 1001,ac a,bS .u8 bs,nc b1 b2] (fY s R) [] (ac 1) (fY s R):=by
 have aF: ¬((bs.length:Nat):Int) % 16=0:=av3
 refine aU [] Tryz.func88 ?_;refine⟨rfl,rfl,rfl,?_⟩;have m1:(0:Int)<=((bs.length:Nat):Int)/\(0:Int) < 16:=av3
 have m2:c0 (((bs.length:Nat):Int)/16):=av3
 have m3:c0 (((bs.length:Nat):Int) % 16):=av3
 refine⟨m1,m2,m1,m3,?_⟩
 refine⟨fun _=>?_,fun h=>(by
  have h:(!decide ((((bs.length:Nat):Int)) % 16=0))=false:=h;rw[ar8 aF] at h
  cases h)⟩
 exact bg
theorem aef (s:bM) (R:bn->bf) (b1 b2:Nat) (aD:gC s) (a:Int) (l:Nat) (bs:ay4) (hd:bs.length=16*l) (al:l<=100000000) (av:eh s a l≠0):Fn Tryz.prog 88 [ap 1001,ac a,bS .u8 bs,nc b1 b2] (fY s R) [] (ac (eh s a l)) (fY s R):=by
 have aT:((bs.length:Nat):Int)/16=(l:Int):=av3
 have aF:((bs.length:Nat):Int) % 16=0:=av3
 refine aU [4] Tryz.func88 ?_;refine⟨rfl,rfl,rfl,?_⟩;have m1:(0:Int)<=((bs.length:Nat):Int)/\(0:Int) < 16:=av3
 have m2:c0 (((bs.length:Nat):Int)/16):=av3
 have m3:c0 (((bs.length:Nat):Int) % 16):=av3
 refine⟨m1,m2,m1,m3,?_⟩
 refine⟨fun h=>(by
  have h:(!decide ((((bs.length:Nat):Int)) % 16=0))=true:=h;rw[aq1 aF] at h
  cases h),fun _=>?_⟩
 refine bz [] (ae.sub (K':=[(1,ac a),(4,ap 4),(9,ac (l:Int))]) (B':=Cv s R bs b1 b2) ⟨rfl,rfl,aT,trivial⟩ aA) <| ar (wk s aD a l) ?_;exact⟨fun _=>bg,fun h=>absurd (show eh s a l=0 by have h:(!decide (eh s a l=0))=false:=h;simpa using h) av⟩
def jw (s:bM) (a l:Nat):Nat->bM
 |0=>s
 |k+1=>if(bq (aM s) a l k).b - (bq (aM s) a l k).a=aM s then rp (jw s a l k) (bq (aM s) a l k).c cD else jw s a l k
abbrev KI (s:bM):aw:=dx s++[(3,.cells [.ptr 1001 0])]
abbrev RF:aY:=[(3,ap 3)]
theorem aeg (s:bM) (aD:gC s) (a l:Nat) (av:eh s a l=0) (ez: ∀k,k < cQ (aM s) a l->Fn Tryz.prog 145 [ap 1001,ac ((bq (aM s) a l k).c:Int),.c (pC cD)] (dx (jw s a l k)) [] gJ (dx (rp (jw s a l k) (bq (aM s) a l k).c cD))) (zS: ∀k,k<=cQ (aM s) a l->(jw s a l k).z=s.z):
  Fn Tryz.prog 92 [ap 1001,ac (a:Int),ac (l:Int)] (dx s) [] (ac 0) (dx (jw s a l (cQ (aM s) a l))):=by
 have d2:=sq aD.z;have hw:=uL aD.z;have eH:=su av;have xT:hV s<=2048:=Nat.mul_le_mul aD.eV (kp aD.z).2;refine aU [4,8] Tryz.func92 ?_;refine⟨rfl,ar (wk s aD a l) ?_⟩;rw[av];refine df <| bz [8] (cH [(1,ac (a:Int)),(2,ac (l:Int)),(3,ap 3)] (KI s)) <| ar (zQ s a l) <| bt.le (cH ((19,.c (.one (.cU 174 [.p 2001 0,.p 2002 0,.p 2003 0])))::RF) (qm a l++KI s)) <| bt.range eX [] (pl:=[20]) rfl au8 au8 au8 au8 [1001,1002,1003,1004,3] _ RF (qm a l) (fun k:Nat=>KI (jw s a l k)) 1001 0 (cQ (aM s) a l) (fun k aE dV=>k < cQ (aM s) a l/\aE=[ql (bq (aM s) a l k)]/\dV=k+1) rfl av8 rfl rfl ?_ ?_ ?_
 .rintro k aE dV ⟨ab,rfl,rfl⟩;obtain⟨dY,cS,dG,dL⟩:=tz d2 ab;have ez:=ez k ab;have O:=zS k (Nat.le_of_lt ab);have G:=qk (jw s a l k) (by rw[O];exact aD.z);rw[show aM (jw s a l k)=aM s from congrArg (fun b=>16*2 ^b) O] at G;have jb:c0 (((bq (aM s) a l k).b:Int) - ((bq (aM s) a l k).a:Int)):=av3
  refine⟨rfl,rfl,rfl,rfl,jb,ar G ⟨rfl,fun h=>?_,fun h=>?_⟩⟩
  .have h:((bq (aM s) a l k).b:Int) - ((bq (aM s) a l k).a:Int)=((aM s:Nat):Int):=gd h;have e:jw s a l (k+1)=rp (jw s a l k) (bq (aM s) a l k).c cD:=if_pos au5;refine ar (Fn.arg ez ⟨rfl,rfl,aA,trivial⟩) ?_;rw[e];exact⟨rfl,ae.sub trivial aA⟩
  .have h: ¬((bq (aM s) a l k).b:Int) - ((bq (aM s) a l k).a:Int)=((aM s:Nat):Int):=mu h;have e:jw s a l (k+1)=jw s a l k:=if_neg au5;rw[e];exact⟨rfl,ae.sub trivial aA⟩
 .intro xU fV rr aB
  have h:=zP xU (aM s) a l d2 au5 au5 (fun k=>fV (min k (cQ (aM s) a l))) (fun k=>rr _ _ _ (min k (cQ (aM s) a l)) (min k (cQ (aM s) a l)) (by
   have O:=zS (min k (cQ (aM s) a l)) (Nat.min_le_right _ _);have G:=qk (jw s a l (min k (cQ (aM s) a l))) (by rw[O];exact aD.z);rw[show aM (jw s a l (min k (cQ (aM s) a l)))=aM s from congrArg (fun b=>16*2 ^b) O] at G
   exact Fn.qj [(3,.cells [.ptr 1001 0])] G rfl rfl) rfl rfl) (fun k ab=>by
   have h:=aB k _ (k+1) ⟨ab,rfl,rfl⟩;rw[Nat.min_eq_left au5,Nat.min_eq_left au5];exact h)
  simp only[Nat.zero_min,Nat.min_self] at h;exact h
 .show bt _ _ _ _ _ _ _;exact bz [] (bp) bg
theorem aeh (s:bM) (aD:gC s) (a l:Int) (av:eh s a l≠0):Fn Tryz.prog 92 [ap 1001,ac a,ac l] (dx s) [] (ac (eh s a l)) (dx s):=by
 refine aU [] Tryz.func92 ?_;refine⟨rfl,ar (wk s aD a l) ?_⟩;exact⟨fun _=>bg,fun h=>absurd (show eh s a l=0 by have h:(!decide (eh s a l=0))=false:=h;simpa using h) av⟩
end
section
def lg (s:bM) (p:mM):Bool:=decide (p.b - p.a=aM s)
theorem RG (s:bM) (O:s.z<=3) (p:mM) (E:p.a<=p.b) (G:p.b<=1000):Fn Tryz.prog 143 [ql p,ap 4] (dx s++[(4,.cells [.ptr 1001 0])]) [] (fK (lg s p)) (dx s++[(4,.cells [.ptr 1001 0])]):=by
 have jb:c0 ((p.b:Int) - (p.a:Int)):=av3
 refine aU [] Tryz.func143 ?_;refine⟨rfl,jb,ar (qk s O) ⟨rfl,_,_,_,bp,rfl,?_,aA,rfl⟩⟩;show decide ((p.b:Int) - (p.a:Int)=((aM s:Nat):Int))=lg s p;unfold lg;exact decide_eq_decide.2 au5
def nX (s:bM) (p:mM):Bool:= !lg s p&&(decide ((s.t.getD p.c cD).1≠2)&&ht s p.c)
def hu (s:bM) (a l:Nat):Nat->Nat
 |0=>0
 |k+1=>hu s a l k+(if nX s (bq (aM s) a l k)=true then 1 else 0)
theorem aei (s:bM) (a l k:Nat):hu s a l k<=k:=by
 induction k with
 |zero=>exact ap0 _
 |succ k br=>
  show hu s a l k+_<=k+1
  split <;>omega
abbrev zT:e7:=((2:Int),(0:Int),false)
abbrev Cw (n:Nat):ay4:=List.replicate n (0:UInt8)
def xV (s:bM) (p:mM) (y:ay4):bM:=if lg s p=true then rp s p.c zT else if(s.t.getD p.c cD).1=2 then s else xO s p (Cw (p.b - p.a)) y
def e1 (s:bM) (a l:Nat) (y:Nat->ay4):Nat->bM
 |0=>s
 |k+1=>xV (e1 s a l y k) (bq (aM s) a l k) (y (bq (aM s) a l k).c)
abbrev xW (s:bM) (R:bn->bf) (b1 b2:Nat):aw:=fY s R++[(4,.cells [.ptr 1001 0]),(7,.cells [.d (.fn (139,[b1,b2]))]),(10,.cells [.cU 143 [.p 4 0]])]
abbrev FT (s:bM) (R:bn->bf) (b1 b2:Nat) (n:Nat):aw:=fY s R++[(4,.cells [.ptr 1001 0]),(7,.cells [.d (.fn (139,[b1,b2]))]),(10,.cells [.cU 143 [.p 4 0]]),(11,.cells [.d (.int .i64 (n:Int))])]
abbrev FU (a l:Nat):aY:=[(1,ac (a:Int)),(2,ac (l:Int)),(4,ap 4),(7,ap 7),(10,ap 10)]
abbrev aej:aY:=[(1000000+96,.undef),(1000000+140,.undef)]
abbrev KJ (a l:Nat):aY:=aej++[(1,ac (a:Int)),(2,ac (l:Int)),(4,ap 4),(7,ap 7),(10,ap 10),(11,ap 11)]
theorem zU (s:bM) (al:s.t.length<=256) (c:Nat) (H:c < s.t.length):Fn Tryz.prog 96 [ap 1001,ac (c:Int)] (dx s) [] (ac (s.t.getD c cD).1) (dx s):=by
 have h:=ad1 s al c H;have e:s.t[c]=s.t.getD c cD:=by rw[ap9,oj H];rfl
 rwa[e] at h
theorem aek (s:bM) (R:bn->bf) (b1 b2:Nat) (aD:gC s) (a l:Nat) (av:eh s a l=0) (y:Nat->ay4) (r:Int) (s':bM) (fv:d3 s.l < hu s a l (cQ (aM s) a l)->r=120/\s'=s) (KG:hu s a l (cQ (aM s) a l)<=d3 s.l->r=0/\s'=e1 s a l y (cQ (aM s) a l))
  (FV:hu s a l (cQ (aM s) a l)<=d3 s.l-> ∀k,k<=cQ (aM s) a l->gC (e1 s a l y k)/\(e1 s a l y k).z=s.z/\(e1 s a l y k).t.length=s.t.length)
  (gO:hu s a l (cQ (aM s) a l)<=d3 s.l-> ∀k,k < cQ (aM s) a l->lg s (bq (aM s) a l k)=true->Fn Tryz.prog 145 [ap 1001,ac ((bq (aM s) a l k).c:Int),.c (pC zT)] (dx (e1 s a l y k)) [] gJ (dx (e1 s a l y (k+1))))
  (rt:hu s a l (cQ (aM s) a l)<=d3 s.l-> ∀k,k < cQ (aM s) a l->lg s (bq (aM s) a l k)=false->((e1 s a l y k).t.getD (bq (aM s) a l k).c cD).1≠2->Fn Tryz.prog 142 [ap 1001,ql (bq (aM s) a l k),bS .u8 (Cw ((bq (aM s) a l k).b - (bq (aM s) a l k).a)),nc b1 b2] (fY (e1 s a l y k) R) [] gJ (fY (e1 s a l y (k+1)) R)):
  Fn Tryz.prog 90 [ap 1001,ac (a:Int),ac (l:Int),nc b1 b2] (fY s R) [] (ac r) (fY s' R):=by
 have d2:=sq aD.z;have hw:=uL aD.z;have eH:=su av;have xT:hV s<=2048:=Nat.mul_le_mul aD.eV (kp aD.z).2;refine aU [4,5,6,10,12,18] Tryz.func90 ?_;refine⟨rfl,rfl,ar (wk s aD a l) ?_⟩;rw[av];refine df <| bz [5,6] (bp) ⟨rfl,bz [6] (cH (FU a l) (xW s R b1 b2)) ⟨rfl,bt.mI 140 au6 (bt.mI 96 au6 <| bz [] (ae.sub (K':=KJ a l) (B':=FT s R b1 b2 0) ⟨trivial,trivial,rfl,rfl,rfl,rfl,rfl,rfl,trivial⟩ aA) <| ar (zQ s a l) <| bt.le (ae.sub (K':=(25,.c (.one (.cU 174 [.p 2001 0,.p 2002 0,.p 2003 0])))::KJ a l) (B':=qm a l++FT s R b1 b2 0) ⟨rfl,trivial,trivial,rfl,rfl,rfl,rfl,rfl,rfl,trivial⟩ aA) <| bt.range eX [9] (pl:=[26]) rfl au8 au8 au8 au8 [1001,1002,1003,1004,9000,4,7,10,11] _ (KJ a l) (qm a l) (fun k:Nat=>FT s R b1 b2 (hu s a l k)) 1001 0 (cQ (aM s) a l) (fun k aE dV=>k < cQ (aM s) a l/\aE=[ql (bq (aM s) a l k)]/\dV=k+1) rfl (by exact⟨trivial,trivial,rfl,rfl,rfl,rfl,rfl,rfl,trivial⟩) rfl rfl ?_ ?_ ?_)⟩⟩
 .rintro k aE dV ⟨ab,rfl,rfl⟩;obtain⟨H,rq⟩:=ss aD eH ab;obtain⟨dY,cS,dG,dL⟩:=tz d2 ab;have KH:=aei s a l k
  have bG:nX s (bq (aM s) a l k)=false->hu s a l (k+1)=hu s a l k:=fun hn=>by
   show hu s a l k+_=_;rw[if_neg (by rw[hn];decide)];exact Nat.add_zero _
  have ai:nX s (bq (aM s) a l k)=true->((hu s a l k:Nat):Int)+1=((hu s a l (k+1):Nat):Int):=fun hn=>by
   show _=((hu s a l k+_:Nat):Int);rw[if_pos hn];omega
  have jb:c0 (((hu s a l k:Nat):Int)+1):=av3
  have FW:=RG s aD.z (bq (aM s) a l k) dY au5;refine⟨rfl,rfl,rfl,rfl,ar FW ⟨fun hn=>?_,fun hn=>?_⟩⟩
  .have hn:lg s (bq (aM s) a l k)=false:=by simpa using hn
   refine v6 rfl rfl rfl (zU s aD.eV _ H) ⟨fun hq=>?_,fun hq=>?_⟩
   .have hq: ¬(s.t.getD (bq (aM s) a l k).c cD).1=2:=by
     have hq:(!decide ((s.t.getD (bq (aM s) a l k).c cD).1=2))=true:=hq;simpa using hq
    refine v6 rfl rfl rfl (Ky s aD.eV _ H) ⟨fun Fh=>?_,fun Fh=>?_⟩
    .have aR:nX s (bq (aM s) a l k)=true:=by
      unfold nX;rw[hn,aq1 hq,Fh];rfl
     refine bz [] (cH [(11,ap 11)] (FT s R b1 b2 (hu s a l k))) ⟨jb,?_⟩;exact⟨rfl,ae.sub trivial ⟨rfl,rfl,rfl,rfl,rfl,rfl,rfl,rfl,by rw[<-ai aR];rfl,trivial⟩⟩
    .have aR:nX s (bq (aM s) a l k)=false:=by
      unfold nX;rw[Fh,Bool.and_false,Bool.and_false]
     exact⟨rfl,ae.sub trivial ⟨rfl,rfl,rfl,rfl,rfl,rfl,rfl,rfl,by rw[bG aR];rfl,trivial⟩⟩
   .have hq:(s.t.getD (bq (aM s) a l k).c cD).1=2:=by
     have hq:(!decide ((s.t.getD (bq (aM s) a l k).c cD).1=2))=false:=hq;simpa using hq
    have aR:nX s (bq (aM s) a l k)=false:=by
     unfold nX;rw[ar8 (fun h=>h hq),Bool.false_and,Bool.and_false]
    exact⟨rfl,ae.sub trivial ⟨rfl,rfl,rfl,rfl,rfl,rfl,rfl,rfl,by rw[bG aR];rfl,trivial⟩⟩
  .have hn:lg s (bq (aM s) a l k)=true:=by simpa using hn
   have aR:nX s (bq (aM s) a l k)=false:=by
    unfold nX;rw[hn];rfl
   exact⟨rfl,ae.sub trivial ⟨rfl,rfl,rfl,rfl,rfl,rfl,rfl,rfl,by rw[bG aR];rfl,trivial⟩⟩
 .intro xU fV rr aB;exact zP xU (aM s) a l d2 au5 au5 fV (fun k=>rr _ _ _ k k (Fn.qj [(9000,.cn 1001 R),(4,.cells [.ptr 1001 0]),(7,.cells [.d (.fn (139,[b1,b2]))]),(10,.cells [.cU 143 [.p 4 0]]),(11,.cells [.d (.int .i64 (hu s a l k:Int))])] (qk s aD.z) rfl rfl) rfl rfl) (fun k ab=>aB k _ (k+1) ⟨ab,rfl,rfl⟩)
 .have aR:d3 s.l<=512:=as9 (Kv _) aD.lf;refine bz [12,18] (bp) ?_;refine ar (Rr s (by have:=aD.lf;omega)) ⟨rfl,fun h=>?_,fun h=>?_⟩
  .have h:((d3 s.l:Nat):Int) < ((hu s a l (cQ (aM s) a l):Nat):Int):=gd h;obtain⟨rfl,rfl⟩:=fv au5;exact bg
  have h: ¬((d3 s.l:Nat):Int) < ((hu s a l (cQ (aM s) a l):Nat):Int):=mu h;have d0:hu s a l (cQ (aM s) a l)<=d3 s.l:=av3
  obtain⟨rfl,rfl⟩:=KG d0;have FV:=FV d0;have gO:=gO d0;have rt:=rt d0;refine bz [18] (cH (FU a l) (xW s R b1 b2)) <| ar (zQ s a l) <| bt.le (cH ((52,.c (.one (.cU 174 [.p 2001 0,.p 2002 0,.p 2003 0])))::FU a l) (qm a l++xW s R b1 b2)) <| bt.range eX [15,16,17] (pl:=[53]) rfl au8 au8 au8 au8 [1001,1002,1003,1004,9000,4,7,10] _ (FU a l) (qm a l) (fun k:Nat=>xW (e1 s a l y k) R b1 b2) 1001 0 (cQ (aM s) a l) (fun k aE dV=>k < cQ (aM s) a l/\aE=[ql (bq (aM s) a l k)]/\dV=k+1) rfl av8 rfl rfl ?_ ?_ ?_
  .rintro k aE dV ⟨ab,rfl,rfl⟩;obtain⟨H,rq⟩:=ss aD eH ab;obtain⟨dY,cS,dG,dL⟩:=tz d2 ab;obtain⟨fi,g3,pF⟩:=FV k (Nat.le_of_lt ab);have gO:=gO k ab;have rt:=rt k ab;have RH:aM (e1 s a l y k)=aM s:=congrArg (fun b=>16*2 ^b) g3;have FW:=RG (e1 s a l y k) fi.z (bq (aM s) a l k) dY au5;rw[show lg (e1 s a l y k) (bq (aM s) a l k)=lg s (bq (aM s) a l k) by unfold lg;rw[RH]] at FW
   have ael:lg s (bq (aM s) a l k)=false->lg (e1 s a l y k) (bq (aM s) a l k)=false:=fun h=>by
    unfold lg;rw[RH];exact h
   have aem:e1 s a l y (k+1)=xV (e1 s a l y k) (bq (aM s) a l k) (y (bq (aM s) a l k).c):=rfl;refine⟨rfl,rfl,rfl,rfl,ar FW ⟨fun hn=>?_,fun hn=>?_⟩⟩
   .have gO:=gO hn;exact bz [] (cH [(4,ap 4),(13,ap 13)] ((13,.cells (uM (bq (aM s) a l k)))::xW (e1 s a l y k) R b1 b2)) <| ar (Fn.arg gO ⟨rfl,rfl,aA,trivial⟩) ⟨rfl,ae.sub trivial aA⟩
   .show bt _ _ _ _ _ _ _;refine bz [17] (cH [(4,ap 4),(7,ap 7),(13,ap 13)] ((13,.cells (uM (bq (aM s) a l k)))::xW (e1 s a l y k) R b1 b2)) ?_;refine ar (zU (e1 s a l y k) fi.eV _ (by rw[pF];exact H)) ⟨fun hq=>?_,fun hq=>?_⟩
    .have hq: ¬((e1 s a l y k).t.getD (bq (aM s) a l k).c cD).1=2:=by
      have hq:(!decide (((e1 s a l y k).t.getD (bq (aM s) a l k).c cD).1=2))=true:=hq;simpa using hq
     have rt:=rt hn hq;have jb:c0 (((bq (aM s) a l k).b:Int) - ((bq (aM s) a l k).a:Int)):=av3
     have tA:((bq (aM s) a l k).b:Int) - ((bq (aM s) a l k).a:Int)=((bq (aM s) a l k).b:Int) - ((bq (aM s) a l k).a:Int)/\(0:Int)<=((bq (aM s) a l k).b:Int) - ((bq (aM s) a l k).a:Int)/\((bq (aM s) a l k).b:Int) - ((bq (aM s) a l k).a:Int)<=4294967296:=av3
     refine bz [] (cH [(4,ap 4),(7,ap 7),(13,ap 13)] ((13,.cells (uM (bq (aM s) a l k)))::xW (e1 s a l y k) R b1 b2)) ⟨jb,tA,rfl,?_⟩
     have hx:Cw ((bq (aM s) a l k).b - (bq (aM s) a l k).a)=List.replicate (((bq (aM s) a l k).b:Int) - ((bq (aM s) a l k).a:Int)).toNat (0:UInt8):=by
      rw[show(((bq (aM s) a l k).b:Int) - ((bq (aM s) a l k).a:Int)).toNat=(bq (aM s) a l k).b - (bq (aM s) a l k).a by omega]
     rw[hx] at rt;exact ar (Fn.own (d:=76) (args:=[ap 1001,ql (bq (aM s) a l k),eO 76,nc b1 b2]) (e:=5) (u:=.u8) (xs:=List.replicate (((bq (aM s) a l k).b:Int) - ((bq (aM s) a l k).a:Int)).toNat (0:UInt8)) rt rfl) ⟨rfl,rfl,ae.sub trivial aA⟩
    .have hq:((e1 s a l y k).t.getD (bq (aM s) a l k).c cD).1=2:=by
      have hq:(!decide (((e1 s a l y k).t.getD (bq (aM s) a l k).c cD).1=2))=false:=hq;simpa using hq
     have e:e1 s a l y (k+1)=e1 s a l y k:=by
      rw[aem];unfold xV;rw[ael hn,if_neg au6,if_pos hq]
     rw[e];exact⟨rfl,ae.sub trivial aA⟩
  .intro xU fV rr aB
   have h:=zP xU (aM s) a l d2 au5 au5 (fun k=>fV (min k (cQ (aM s) a l))) (fun k=>rr _ _ _ (min k (cQ (aM s) a l)) (min k (cQ (aM s) a l)) (by
    obtain⟨fi,O,pF⟩:=FV (min k (cQ (aM s) a l)) (Nat.min_le_right _ _);have G:=qk (e1 s a l y (min k (cQ (aM s) a l))) (by rw[O];exact aD.z);rw[show aM (e1 s a l y (min k (cQ (aM s) a l)))=aM s from congrArg (fun b=>16*2 ^b) O] at G
    exact Fn.qj [(9000,.cn 1001 R),(4,.cells [.ptr 1001 0]),(7,.cells [.d (.fn (139,[b1,b2]))]),(10,.cells [.cU 143 [.p 4 0]])] G rfl rfl) rfl rfl) (fun k ab=>by
    have h:=aB k _ (k+1) ⟨ab,rfl,rfl⟩;rw[Nat.min_eq_left au5,Nat.min_eq_left au5];exact h)
   simp only[Nat.zero_min,Nat.min_self] at h;exact h
  .show bt _ _ _ _ _ _ _;exact bz [] (bp) bg
theorem RI {l:List Int} {h:Nat} {n m:Int} (al:l[h]? =some n):d3 (l.set h m)+(if n=0 then 1 else 0)=d3 l+(if m=0 then 1 else 0):=by
 induction l generalizing h with
 |nil=>simp at al
 |cons x l br=>
  match h with
  |0=>
   simp only[aq5,ap4] at al;subst al;simp only[List.set_cons_zero];unfold d3;rw[List.filter_cons,List.filter_cons]
   by_cases E:x=0 <;>by_cases G:m=0 <;>simp[E,G] <;>omega
  |h+1=>
   have al:l[h]? =some n:=ay2
   have:=br al;simp only[List.set_cons_succ];unfold d3 at*;rw[List.filter_cons,List.filter_cons]
   by_cases E:x=0 <;>simp[E] <;>omega
theorem aen {xs ys:ay4} {a n:Nat} (E:a+n<=xs.length) (G:ys.length=n):(laid xs a n ys).length=xs.length:=by
 unfold laid;rw[ap1,ap1,ap8,ap8,at1];omega
structure Cx (s s':bM) (p:mM) (bs y:ay4):Prop where
 ok:gC s'
 z:s'.z=s.z
 eV:s'.t.length=s.t.length
 lf:s'.l.length=s.l.length
 kc: ∀c,c≠p.c->s'.t[c]? =s.t[c]? /\ ∀aC,fO s' c aC=fO s c aC
 KK: ∀aC,fO s' p.c aC=laid (fO s p.c (some y)) p.a (p.b - p.a) bs
 jV:ht s' p.c=false
 kq:d3 s'.l+(if ht s p.c=true then 1 else 0)=d3 s.l
theorem aeo {s:bM} {c:Nat} {h:Int} {xs:ay4} (E:s.t[c]? =some ((1:Int),h,true)) (G:s.f h=some xs) (aC:Option ay4):fO s c aC=xs:=by
 unfold fO;rw[E];simp only[if_pos,G,Option.getD_some]
theorem KL {s s':bM} {c:Nat} (O:s'.z=s.z) (cq:s'.t[c]? =s.t[c]?) (hf: ∀h,s.t[c]? =some ((1:Int),h,true)->s'.f h=s.f h) (aD:gC s) (aC:Option ay4):fO s' c aC=fO s c aC:=by
 have aR:kq s'=kq s:=by unfold kq aM;rw[O]
 have hw:aM s'=aM s:=by unfold aM;rw[O]
 unfold fO;rw[cq]
 cases e:s.t[c]? with
 |none=>rfl
 |some q=>
  simp only;rcases aD.slot c q e with h |h |⟨h,ao,_⟩
  .rw[h,aR,hw];rfl
  .rw[h,aR];rfl
  .rw[ao] at e;rw[ao,hf _ e,aR,hw]
theorem aep {s:bM} {c:Nat} {h:Int} (E:s.t[c]? =some ((1:Int),h,true)):ht s c=false:=by
 unfold ht wh;rw[zN E];rfl
theorem aeq {s:bM} (aD:gC s) {c:Nat} (H:c < s.t.length) (y:ay4) (aR:ht s c=true->0 < d3 s.l):
  (mN s c y).z=s.z/\(mN s c y).l.length=s.l.length/\(∀d,d≠c->(mN s c y).t[d]? =s.t[d]? /\ ∀h,s.t[d]? =some ((1:Int),h,true)->(mN s c y).f h=s.f h)/\d3 (mN s c y).l+(if ht s c=true then 1 else 0)=d3 s.l:=by
 unfold mN
 by_cases hn:ht s c=true
 .rw[if_pos hn,if_pos hn];obtain⟨kk,q1⟩:=Kz (aR hn);refine⟨rfl,List.length_set,fun d J=>⟨List.getElem?_set_ne (Ne.symm J),fun h bk=>?_⟩,?_⟩
  .show(if h=(hU s.l:Int) then _ else s.f h)=s.f h;rw[if_neg];intro e;rcases aD.slot d _ bk with ao |ao |⟨h',ao,aj,_⟩
   .cases ao
   .cases ao
   .have:h=(h':Int):=by injection ao with _ ao;injection ao
    have:h'=hU s.l:=av3
    rw[this,kk] at aj
    cases aj
  .have:=RI (m:=1) kk;simpa using this
 .rw[if_neg hn,if_neg hn];exact⟨rfl,rfl,fun d _=>⟨rfl,fun _ _=>rfl⟩,rfl⟩
theorem RJ {s:bM} (aD:gC s) {p:mM} (H:p.c < s.t.length) {bs y:ay4} (E:p.a<=p.b) (G:p.b<=aM s) (aj:bs.length=p.b - p.a) (aR:ht s p.c=true->0 < d3 s.l):Cx s (xO s p bs y) p bs y:=by
 obtain⟨fi,g3,pF,h,uN,wj⟩:=Rz aD H y aR;obtain⟨r1,r2,ga,jJ⟩:=aeq aD H y aR;have dJ:=xP aD H (some y);unfold xO;generalize mN s p.c y=s' at*;generalize sa:fO s p.c (some y)=xs at*;have tX:=zN uN
 have e:FP s' p bs={s' with f:=i' s'.f (h:Int) (laid xs p.a (p.b - p.a) bs)}:=by
  unfold FP;rw[tX];simp only[wj,Option.getD_some]
 rw[e];have mK:=aen (xs:=xs) (ys:=bs) (a:=p.a) (n:=p.b - p.a) au5 aj
 have aer: ∀(d:Nat) (k:Int),d≠p.c->s'.t[d]? =some ((1:Int),k,true)->i' s'.f (h:Int) (laid xs p.a (p.b - p.a) bs) k=s'.f k:=fun d k J ab=>by
  unfold i';rw[if_neg];intro e;subst e;exact J (fi.inj d p.c _ ab uN)
 refine⟨⟨fi.z,fi.eV,fi.lf,fun c q aT=>?_,fi.inj,fi.FN,fun k ab=>?_,fi.FO,Ry fi.dom (by rw[mK,dJ];exact Rx aD.z)⟩,r1,pF,r2,fun c lv=>⟨(ga c lv).1,fun aC=>?_⟩,fun aC=>by rw[sa];exact aeo (s:={s' with f:=i' s'.f (h:Int) (laid xs p.a (p.b - p.a) bs)}) uN (if_pos rfl) aC,aep (s:={s' with f:=i' s'.f (h:Int) (laid xs p.a (p.b - p.a) bs)}) uN,jJ⟩
 .rcases fi.slot c q aT with e |e |⟨k,e,g1,ys,g2,cZ⟩
  .exact .inl e
  .exact .inr (.inl e)
  .refine .inr (.inr ⟨k,e,g1,?_⟩)
   by_cases ab:(k:Int)=(h:Int)
   .exact⟨_,if_pos ab,by rw[mK,dJ,<-g3];rfl⟩
   .exact⟨ys,(if_neg ab).trans g2,cZ⟩
 .show(if(k:Int)=(h:Int) then _ else s'.f k)=none;rw[if_neg]
  .exact fi.zM k ab
  .intro e;have:k=h:=av3
   subst this;rcases fi.slot p.c _ uN with e |e |⟨j,e,g1,_⟩
   .cases e
   .cases e
   .have:(k:Int)=(j:Int):=by injection e with _ e;injection e
    have:k=j:=av3
    rw[this,g1] at ab
    cases ab
 .refine KL (s:=s) (s':={s' with f:=i' s'.f (h:Int) (laid xs p.a (p.b - p.a) bs)}) r1 (ga c lv).1 (fun k ab=>?_) aD aC;rw[<-(ga c lv).2 k ab];exact aer c k lv ((ga c lv).1.trans ab)
structure KM (s s':bM) (c:Nat) (q:e7):Prop where
 ok:gC s'
 z:s'.z=s.z
 eV:s'.t.length=s.t.length
 lf:s'.l.length=s.l.length
 kc: ∀d,d≠c->s'.t[d]? =s.t[d]? /\ ∀aC,fO s' d aC=fO s d aC
 KK:s'.t[c]? =some q
 kq:d3 s.l<=d3 s'.l
theorem RK {s:bM} (aD:gC s) {c:Nat} (H:c < s.t.length) {q:e7} (aT:q=cD\/q=zT):KM s (rp s c q) c q:=by
 have mD:s.t[c]? =some (s.t.getD c cD):=by rw[ap9,oj H];rfl
 have uB: ∀h:Int,q≠((1:Int),h,true):=fun h e=>by rcases aT with aT |aT <;>rw[aT] at e <;>cases e
 have RL:q=cD\/q=((2:Int),(0:Int),false):=aT;unfold rp zL;rcases FQ aD H with⟨_,h⟩ |⟨_,h,E,G,xs,aj,aX⟩
 .have hn: ¬(s.t.getD c cD).1=1:=by rcases h with h |h <;>rw[h] <;>decide
  rw[if_neg hn];refine⟨⟨aD.z,by show(s.t.set _ _).length<=256;rw[List.length_set];exact aD.eV,aD.lf,fun d r aF=>?_,fun d e k J V=>?_,aD.FN,aD.zM,fun k ab=>?_,aD.dom⟩,rfl,List.length_set,rfl,fun d J=>⟨List.getElem?_set_ne (Ne.symm J),fun aC=>KL (s:=s) (s':={s with t:=s.t.set c q}) rfl (List.getElem?_set_ne (Ne.symm J)) (fun _ _=>rfl) aD aC⟩,List.getElem?_set_self H,ap0 _⟩
  .rw[List.getElem?_set] at aF
   split at aF
   .injection aF with aF
    rw[<-aF];exact RL.imp id .inl
   .exact aD.slot d r aF
  .rw[List.getElem?_set] at J V
   split at J
   .injection J with J;exact absurd J (uB k)
   .split at V
    .injection V with V;exact absurd V (uB k)
    .exact aD.inj d e k J V
  .obtain⟨d,J⟩:=aD.FO k ab
   have a2:c≠d:=fun e=>by
    subst e;rw[mD] at J;injection J with J
    rw[J] at hn;exact hn rfl
   exact⟨d,(List.getElem?_set_ne a2).trans J⟩
 .have a1:=zN E;rw[a1,if_pos rfl];have bw:h < s.l.length:=(ap5.1 G).1;have bG:((h:Int)).toNat=h:=rfl;simp only[bG]
  have other: ∀(d k:Nat),d≠c->s.t[d]? =some ((1:Int),(k:Int),true)->k≠h:=fun d k J ab e=>by
   subst e;exact J (aD.inj d c _ ab E)
  refine⟨⟨aD.z,by show(s.t.set _ _).length<=256;rw[List.length_set];exact aD.eV,by show(s.l.set _ _).length<=512;rw[List.length_set];exact aD.lf,fun d r aF=>?_,fun d e k J V=>?_,fun k n ab=>?_,fun k ab=>?_,fun k ab=>?_,fun k xs ab=>aD.dom k xs (by
   have ab:(if k=(h:Int) then none else s.f k)=some xs:=ab
   split at ab
   .cases ab
   .exact ab)⟩,rfl,List.length_set,List.length_set,fun d J=>⟨List.getElem?_set_ne (Ne.symm J),fun aC=>KL (s:=s) (s':={s with t:=s.t.set c q,l:=s.l.set h 0,f:=B7 s.f (h:Int)}) rfl (List.getElem?_set_ne (Ne.symm J)) (fun k ab=>?_) aD aC⟩,List.getElem?_set_self H,?_⟩
  .rw[List.getElem?_set] at aF
   split at aF
   .injection aF with aF
    rw[<-aF];exact RL.imp id .inl
   .rename_i a2;rcases aD.slot d r aF with e |e |⟨k,e,g1,ys,g2,cZ⟩
    .exact .inl e
    .exact .inr (.inl e)
    .have ab:=other d k (Ne.symm a2) (e▸aF);exact .inr (.inr ⟨k,e,by show(s.l.set h 0)[k]? =some 1;rw[List.getElem?_set_ne (Ne.symm ab)];exact g1,ys,by show(if(k:Int)=(h:Int) then none else s.f k)=some ys;rw[if_neg au5];exact g2,cZ⟩)
  .rw[List.getElem?_set] at J V
   split at J
   .injection J with J;exact absurd J (uB k)
   .split at V
    .injection V with V;exact absurd V (uB k)
    .exact aD.inj d e k J V
  .rw[List.getElem?_set] at ab
   split at ab
   .injection ab with ab;exact .inl ab.symm
   .exact aD.FN k n ab
  .show(if(k:Int)=(h:Int) then none else s.f k)=none
   by_cases e:k=h
   .rw[if_pos au5]
   .rw[if_neg au5];rw[List.getElem?_set_ne (fun ao=>e ao.symm)] at ab;exact aD.zM k ab
  .by_cases e:k=h
   .subst e;rw[List.getElem?_set_self bw] at ab
    cases ab
   .rw[List.getElem?_set_ne (fun ao=>e ao.symm)] at ab;obtain⟨d,J⟩:=aD.FO k ab
    have a2:c≠d:=fun ao=>by
     subst ao;rw[E] at J;injection J with J
     have:(h:Int)=(k:Int):=by injection J with _ J;injection J
     omega
    exact⟨d,(List.getElem?_set_ne a2).trans J⟩
  .rcases aD.slot d _ ab with e |e |⟨j,e,_⟩
   .cases e
   .cases e
   .have Z:k=(j:Int):=by injection e with _ e;injection e
    subst Z;have:=other d j J ab;show(if(j:Int)=(h:Int) then none else s.f j)=s.f j;rw[if_neg au5]
  .have:=RI (m:=0) G;simp at this;show d3 s.l<=d3 (s.l.set h 0);omega
theorem Cy {s s':bM} {c:Nat} (h:s'.t[c]? =s.t[c]?):ht s' c=ht s c:=by
 unfold ht;rw[ap9,ap9,h]
structure jc (s s':bM):Prop where
 ok:gC s'
 z:s'.z=s.z
 eV:s'.t.length=s.t.length
 lf:s'.l.length=s.l.length
theorem jc.refl {s:bM} (h:gC s):jc s s:=⟨h,rfl,rfl,rfl⟩
theorem jc.trans {s s' Cz:bM} (h:jc s s') (k:jc s' Cz):jc s Cz:=⟨k.ok,k.z.trans h.z,k.eV.trans h.eV,k.lf.trans h.lf⟩
theorem jc.aM {s s':bM} (h:jc s s'):aM s'=aM s:=congrArg (fun b=>16*2 ^b) h.z
theorem Cx.fH {s s':bM} {p:mM} {bs y:ay4} (h:Cx s s' p bs y):jc s s':=⟨h.ok,h.z,h.eV,h.lf⟩
theorem KM.fH {s s':bM} {c:Nat} {q:e7} (h:KM s s' c q):jc s s':=⟨h.ok,h.z,h.eV,h.lf⟩
def qn (s s':bM) (c:Nat):Prop:=s'.t[c]? =s.t[c]? /\ ∀aC,fO s' c aC=fO s c aC
theorem qn.refl (s:bM) (c:Nat):qn s s c:=⟨rfl,fun _=>rfl⟩
theorem qn.trans {s s' Cz:bM} {c:Nat} (h:qn s s' c) (k:qn s' Cz c):qn s Cz c:=⟨k.1.trans h.1,fun aC=>(k.2 aC).trans (h.2 aC)⟩
def KN (s:bM) (R:bn->bf) (b1 b2:Nat) (y:Nat->ay4):Prop:= ∀s',jc s s'-> ∀(c:Nat) (h:c < s'.t.length),(s'.t[c]).1=0->FM s' R b1 b2 c (y c)
theorem aes (s:bM) (a l:Nat) {j k:Nat} (h:j<=k):h5 s a l j<=h5 s a l k:=by
 induction k with
 |zero=>
    have:j=0:=av3
    rw[this];exact ap0 _
 |succ k br=>
  by_cases e:j=k+1
  .rw[e];exact ap0 _
  .have:=br au5;show h5 s a l j<=h5 s a l k+_;omega
theorem RM {bs:ay4} {p:mM} (E:p.a<=p.b) (G:p.at_+(p.b - p.a)<=bs.length):(tB bs p).length=p.b - p.a:=by
 unfold tB;rw[at1,ap8];omega
structure FX (s:bM) (a l:Nat) (bs:ay4) (y:Nat->ay4) (k:Nat):Prop where
 fH:jc s (i0 s a l bs y k)
 kq:d3 (i0 s a l bs y k).l+h5 s a l k=d3 s.l
 kc: ∀c,(c < 16*a/aM s\/16*a/aM s+k<=c)->qn s (i0 s a l bs y k) c
 done: ∀j,j < k->ht (i0 s a l bs y k) (16*a/aM s+j)=false/\ ∀aC,fO (i0 s a l bs y k) (16*a/aM s+j) aC=laid (fO s (16*a/aM s+j) (some (y (16*a/aM s+j)))) (bq (aM s) a l j).a ((bq (aM s) a l j).b - (bq (aM s) a l j).a) (tB bs (bq (aM s) a l j))
theorem RN {s:bM} (aD:gC s) {a l:Nat} {bs:ay4} (hd:bs.length=16*l) (eH:a+l<=hV s) {y:Nat->ay4} (d0:h5 s a l (cQ (aM s) a l)<=d3 s.l) {k:Nat} (h:FX s a l bs y k) (ab:k < cQ (aM s) a l):Cx (i0 s a l bs y k) (i0 s a l bs y (k+1)) (bq (aM s) a l k) (tB bs (bq (aM s) a l k)) (y (bq (aM s) a l k).c)/\(ht (i0 s a l bs y k) (bq (aM s) a l k).c=true->0 < d3 (i0 s a l bs y k).l):=by
 have d2:=sq aD.z;obtain⟨dY,cS,dG,dL⟩:=tz d2 ab;obtain⟨H,_⟩:=ss aD eH ab;have nS:=h.kc (16*a/aM s+k) (.inr (ap0 _))
 have aR:ht (i0 s a l bs y k) (bq (aM s) a l k).c=true->0 < d3 (i0 s a l bs y k).l:=fun hn=>by
  have bl:ht (i0 s a l bs y k) (bq (aM s) a l k).c=ht s (bq (aM s) a l k).c:=Cy nS.1;rw[bl] at hn;have E:=aes s a l (show k+1<=cQ (aM s) a l from ab)
  have G:h5 s a l (k+1)=h5 s a l k+1:=by
   show h5 s a l k+_=_;rw[if_pos hn]
  have:=h.kq;omega
 exact⟨RJ h.fH.ok ay1 dY (by rw[h.fH.aM];exact cS) (RM dY au5) aR,aR⟩
theorem FY {s:bM} (aD:gC s) {a l:Nat} {bs:ay4} (hd:bs.length=16*l) (eH:a+l<=hV s) (y:Nat->ay4) (d0:h5 s a l (cQ (aM s) a l)<=d3 s.l): ∀k,k<=cQ (aM s) a l->FX s a l bs y k/\(k < cQ (aM s) a l->Cx (i0 s a l bs y k) (i0 s a l bs y (k+1)) (bq (aM s) a l k) (tB bs (bq (aM s) a l k)) (y (bq (aM s) a l k).c)/\(ht (i0 s a l bs y k) (bq (aM s) a l k).c=true->0 < d3 (i0 s a l bs y k).l))
 |0,ab=>by
  have av:FX s a l bs y 0:=⟨jc.refl aD,rfl,fun c _=>qn.refl s c,fun j Z=>absurd Z au5⟩;exact⟨av,fun ab=>RN aD hd eH d0 av ab⟩
 |k+1,ab=>by
  obtain⟨h,ax⟩:=FY aD hd eH y d0 k au5;have fe:k < cQ (aM s) a l:=av3
  obtain⟨af,_⟩:=ax fe;have uO:(bq (aM s) a l k).c=16*a/aM s+k:=rfl;have nS:=h.kc (16*a/aM s+k) (.inr (ap0 _))
  have E:FX s a l bs y (k+1):=by
   refine⟨h.fH.trans af.fH,?_,fun c H=>?_,fun j Z=>?_⟩
   .have ai:=af.kq;have ao:=h.kq;have bl:ht (i0 s a l bs y k) (bq (aM s) a l k).c=ht s (bq (aM s) a l k).c:=Cy nS.1;rw[bl] at ai;show d3 _+(h5 s a l k+_)=_;omega
   .exact(h.kc c (H.imp id fun h=>by omega)).trans (af.kc c (by rw[uO];omega))
   .by_cases e:j=k
    .subst e;refine⟨af.jV,fun aC=>?_⟩;have:=af.KK aC;rw[uO] at this;rw[this,nS.2]
    .obtain⟨g1,g2⟩:=h.done j au5;have hf:=af.kc (16*a/aM s+j) (by rw[uO];omega);exact⟨(Cy hf.1).trans g1,fun aC=>(hf.2 aC).trans (g2 aC)⟩
  exact⟨E,fun ab=>RN aD hd eH d0 E ab⟩
def RO (s:bM) (a l:Nat):Int:=if h5 s a l (cQ (aM s) a l)<=d3 s.l then 0 else 120
def FZ (s:bM) (a l:Nat) (bs:ay4) (y:Nat->ay4):bM:=if h5 s a l (cQ (aM s) a l)<=d3 s.l then i0 s a l bs y (cQ (aM s) a l) else s
theorem aet (s:bM) (R:bn->bf) (b1 b2:Nat) (aD:gC s) (a l:Nat) (bs:ay4) (hd:bs.length=16*l) (av:eh s a l=0) (y:Nat->ay4) (da:KN s R b1 b2 y):
  Fn Tryz.prog 88 [ap 1001,ac (a:Int),bS .u8 bs,nc b1 b2] (fY s R) [] (ac (RO s a l)) (fY (FZ s a l bs y) R):=by
 have eH:=su av;refine aed s R b1 b2 aD a l bs hd av y _ _ (fun h=>⟨if_neg au5,if_neg au5⟩) (fun h=>⟨if_pos h,if_pos h⟩) (fun d0 k ab=>?_) (fun d0 k ab=>(FY aD hd eH y d0 k ab).1.fH.z);obtain⟨h,ax⟩:=FY aD hd eH y d0 k (Nat.le_of_lt ab);obtain⟨_,aR⟩:=ax ab;obtain⟨dY,cS,dG,dL⟩:=tz (sq aD.z) ab;obtain⟨H,_⟩:=ss aD eH ab;have d7:(bq (aM s) a l k).c < (i0 s a l bs y k).t.length:=ay1
 exact RB (i0 s a l bs y k) R b1 b2 h.fH.ok (bq (aM s) a l k) d7 (tB bs (bq (aM s) a l k)) dY (by rw[h.fH.aM];exact cS) (RM dY au5) (y (bq (aM s) a l k).c) (fun e=>da _ h.fH _ d7 e) aR
theorem aeu {s:bM} (aD:gC s) {a l:Nat} {bs:ay4} (hd:bs.length=16*l) (av:eh s a l=0) (y:Nat->ay4):jc s (FZ s a l bs y):=by
 unfold FZ
 split
 .rename_i h;exact(FY aD hd (su av) y h _ (ap0 _)).1.fH
 .exact jc.refl aD
structure KO (s:bM) (a l:Nat) (k:Nat):Prop where
 fH:jc s (jw s a l k)
 kc: ∀c,(c < 16*a/aM s\/16*a/aM s+k<=c)->qn s (jw s a l k) c
 done: ∀j,j < k->if(bq (aM s) a l j).b - (bq (aM s) a l j).a=aM s then(jw s a l k).t[16*a/aM s+j]? =some cD else qn s (jw s a l k) (16*a/aM s+j)
theorem CA {s:bM} (aD:gC s) {a l:Nat} (eH:a+l<=hV s): ∀k,k<=cQ (aM s) a l->KO s a l k
 |0,_=>⟨jc.refl aD,fun c _=>qn.refl s c,fun j Z=>absurd Z au5⟩
 |k+1,ab=>by
  have h:=CA aD eH k au5;have fe:k < cQ (aM s) a l:=av3
  obtain⟨H,_⟩:=ss aD eH fe;have uO:(bq (aM s) a l k).c=16*a/aM s+k:=rfl;have nS:=h.kc (16*a/aM s+k) (.inr (ap0 _))
  by_cases e:(bq (aM s) a l k).b - (bq (aM s) a l k).a=aM s
  .have ai:jw s a l (k+1)=rp (jw s a l k) (bq (aM s) a l k).c cD:=if_pos e;have af:=RK h.fH.ok (c:=(bq (aM s) a l k).c) ay1 (q:=cD) (.inl rfl);rw[<-ai] at af;refine⟨h.fH.trans af.fH,fun c H=>(h.kc c (H.imp id fun h=>by omega)).trans (af.kc c (by rw[uO];omega)),fun j Z=>?_⟩
   by_cases Cr:j=k
   .subst Cr;rw[if_pos e];exact af.KK
   .have g:=h.done j au5;have hf:=af.kc (16*a/aM s+j) (by rw[uO];omega)
    split
    .rename_i ao;rw[if_pos ao] at g;exact hf.1.trans g
    .rename_i ao;rw[if_neg ao] at g;exact g.trans hf
  .have ai:jw s a l (k+1)=jw s a l k:=if_neg e;rw[show KO s a l (k+1)↔KO s a l (k+1) from Iff.rfl];refine⟨by rw[ai];exact h.fH,fun c H=>by rw[ai];exact h.kc c (H.imp id fun h=>by omega),fun j Z=>?_⟩;rw[ai]
   by_cases Cr:j=k
   .subst Cr;rw[if_neg e];exact nS
   .exact h.done j au5
def RP (s:bM) (a l:Nat):bM:=jw s a l (cQ (aM s) a l)
theorem RQ {s:bM} (aD:gC s) {c:Nat} (H:c < s.t.length):(s.t.getD c cD).1=1-> ∃h:Nat,(s.t.getD c cD).2.1=(h:Int)/\s.l[h]? =some 1:=fun E=>by
 rcases FQ aD H with⟨_,h⟩ |⟨_,h,g1,g2,_⟩
 .rcases h with h |h <;>rw[h] at E <;>cases E
 .exact⟨h,by rw[zN g1],g2⟩
theorem aev (s:bM) (aD:gC s) (a l:Nat) (av:eh s a l=0):Fn Tryz.prog 92 [ap 1001,ac (a:Int),ac (l:Int)] (dx s) [] (ac 0) (dx (RP s a l)):=by
 have eH:=su av;refine aeg s aD a l av (fun k ab=>?_) (fun k ab=>(CA aD eH k ab).fH.z);have h:=CA aD eH k (Nat.le_of_lt ab);obtain⟨H,_⟩:=ss aD eH ab;have d7:(bq (aM s) a l k).c < (jw s a l k).t.length:=ay1
 exact Kx (jw s a l k) h.fH.ok.eV _ d7 cD ⟨au6,au6⟩ rfl (RQ h.fH.ok d7)
structure RR (s:bM) (a l:Nat) (y:Nat->ay4) (k:Nat):Prop where
 fH:jc s (e1 s a l y k)
 kq:d3 s.l<=d3 (e1 s a l y k).l+hu s a l k
 kc: ∀c,(c < 16*a/aM s\/16*a/aM s+k<=c)->qn s (e1 s a l y k) c
theorem aew (s:bM) (a l:Nat) {j k:Nat} (h:j<=k):hu s a l j<=hu s a l k:=by
 induction k with
 |zero=>
    have:j=0:=av3
    rw[this];exact ap0 _
 |succ k br=>
  by_cases e:j=k+1
  .rw[e];exact ap0 _
  .have:=br au5;show hu s a l j<=hu s a l k+_;omega
theorem KP {s s':bM} (h:jc s s') (p:mM):lg s' p=lg s p:=by unfold lg;rw[h.aM]
theorem RS {s:bM} {a l:Nat} {y:Nat->ay4} (d0:hu s a l (cQ (aM s) a l)<=d3 s.l) {k:Nat} (h:RR s a l y k) (ab:k < cQ (aM s) a l) (hw:lg s (bq (aM s) a l k)=false) (G:((e1 s a l y k).t.getD (bq (aM s) a l k).c cD).1≠2):
  ht (e1 s a l y k) (bq (aM s) a l k).c=true->0 < d3 (e1 s a l y k).l:=fun hn=>by
 have nS:=h.kc (16*a/aM s+k) (.inr (ap0 _));have bl:ht (e1 s a l y k) (bq (aM s) a l k).c=ht s (bq (aM s) a l k).c:=Cy nS.1
 have c2:(e1 s a l y k).t.getD (bq (aM s) a l k).c cD=s.t.getD (bq (aM s) a l k).c cD:=by
  rw[ap9,ap9];exact congrArg (fun o=>o.getD cD) nS.1
 rw[bl] at hn;rw[c2] at G
 have aR:nX s (bq (aM s) a l k)=true:=by
  unfold nX;rw[hw,aq1 G,hn];rfl
 have E:=aew s a l (show k+1<=cQ (aM s) a l from ab)
 have aj:hu s a l (k+1)=hu s a l k+1:=by
  show hu s a l k+_=_;rw[if_pos aR]
 have:=h.kq;omega
theorem CB {s:bM} (aD:gC s) {a l:Nat} (eH:a+l<=hV s) (y:Nat->ay4) (d0:hu s a l (cQ (aM s) a l)<=d3 s.l): ∀k,k<=cQ (aM s) a l->RR s a l y k
 |0,_=>⟨jc.refl aD,Nat.le_add_right _ _,fun c _=>qn.refl s c⟩
 |k+1,ab=>by
  have h:=CB aD eH y d0 k au5;have fe:k < cQ (aM s) a l:=av3
  obtain⟨H,_⟩:=ss aD eH fe;obtain⟨dY,cS,dG,dL⟩:=tz (sq aD.z) fe;have uO:(bq (aM s) a l k).c=16*a/aM s+k:=rfl;have d7:(bq (aM s) a l k).c < (e1 s a l y k).t.length:=ay1
  have nS:=h.kc (16*a/aM s+k) (.inr (ap0 _));have yT:hu s a l (k+1)=hu s a l k+(if nX s (bq (aM s) a l k)=true then 1 else 0):=rfl;have ai:e1 s a l y (k+1)=xV (e1 s a l y k) (bq (aM s) a l k) (y (bq (aM s) a l k).c):=rfl;unfold xV at ai;rw[KP h.fH] at ai
  by_cases hw:lg s (bq (aM s) a l k)=true
  .rw[if_pos hw] at ai;have af:=RK h.fH.ok (c:=(bq (aM s) a l k).c) d7 (q:=zT) (.inr rfl);rw[<-ai] at af;refine⟨h.fH.trans af.fH,?_,fun c H=>(h.kc c (H.imp id fun h=>by omega)).trans (af.kc c (by rw[uO];omega))⟩;have:=af.kq;have:=h.kq;omega
  .have hw:lg s (bq (aM s) a l k)=false:=by simpa using hw
   rw[hw,if_neg au6] at ai
   by_cases G:((e1 s a l y k).t.getD (bq (aM s) a l k).c cD).1=2
   .rw[if_pos G] at ai;refine⟨by rw[ai];exact h.fH,?_,fun c H=>by rw[ai];exact h.kc c (H.imp id fun h=>by omega)⟩;rw[ai];have:=h.kq;omega
   .rw[if_neg G] at ai;have af:=RJ (y:=y (bq (aM s) a l k).c) (bs:=Cw ((bq (aM s) a l k).b - (bq (aM s) a l k).a)) h.fH.ok d7 dY (by rw[h.fH.aM];exact cS) as4 (RS d0 h fe hw G);rw[<-ai] at af;refine⟨h.fH.trans af.fH,?_,fun c H=>(h.kc c (H.imp id fun h=>by omega)).trans (af.kc c (by rw[uO];omega))⟩;have fS:=af.kq;have bl:ht (e1 s a l y k) (bq (aM s) a l k).c=ht s (bq (aM s) a l k).c:=Cy nS.1
    have c2:(e1 s a l y k).t.getD (bq (aM s) a l k).c cD=s.t.getD (bq (aM s) a l k).c cD:=by
     rw[ap9,ap9];exact congrArg (fun o=>o.getD cD) nS.1
    rw[c2] at G
    have aR:nX s (bq (aM s) a l k)=ht s (bq (aM s) a l k).c:=by
     unfold nX;rw[hw,aq1 G];rfl
    rw[bl,<-aR] at fS;have:=h.kq;omega
def RT (s:bM) (a l:Nat):Int:=if hu s a l (cQ (aM s) a l)<=d3 s.l then 0 else 120
def F0 (s:bM) (a l:Nat) (y:Nat->ay4):bM:=if hu s a l (cQ (aM s) a l)<=d3 s.l then e1 s a l y (cQ (aM s) a l) else s
theorem aex (s:bM) (R:bn->bf) (b1 b2:Nat) (aD:gC s) (a l:Nat) (av:eh s a l=0) (y:Nat->ay4) (da:KN s R b1 b2 y):
  Fn Tryz.prog 90 [ap 1001,ac (a:Int),ac (l:Int),nc b1 b2] (fY s R) [] (ac (RT s a l)) (fY (F0 s a l y) R):=by
 have eH:=su av;refine aek s R b1 b2 aD a l av y _ _ (fun h=>⟨if_neg au5,if_neg au5⟩) (fun h=>⟨if_pos h,if_pos h⟩) (fun d0 k ab=>?_) (fun d0 k ab hw=>?_) (fun d0 k ab hw G=>?_)
 .have h:=(CB aD eH y d0 k ab).fH;exact⟨h.ok,h.z,h.eV⟩
 .have h:=CB aD eH y d0 k (Nat.le_of_lt ab);obtain⟨H,_⟩:=ss aD eH ab;have d7:(bq (aM s) a l k).c < (e1 s a l y k).t.length:=ay1
  have ai:e1 s a l y (k+1)=rp (e1 s a l y k) (bq (aM s) a l k).c zT:=if_pos ((KP h.fH _).trans hw);rw[ai];exact Kx (e1 s a l y k) h.fH.ok.eV _ d7 zT ⟨au6,au6⟩ rfl (RQ h.fH.ok d7)
 .have h:=CB aD eH y d0 k (Nat.le_of_lt ab);obtain⟨H,_⟩:=ss aD eH ab;obtain⟨dY,cS,dG,dL⟩:=tz (sq aD.z) ab;have d7:(bq (aM s) a l k).c < (e1 s a l y k).t.length:=ay1
  have ai:e1 s a l y (k+1)=xO (e1 s a l y k) (bq (aM s) a l k) (Cw ((bq (aM s) a l k).b - (bq (aM s) a l k).a)) (y (bq (aM s) a l k).c):=by
   show xV _ _ _=_;unfold xV;rw[KP h.fH,hw,if_neg au6,if_neg G]
  rw[ai];exact RB (e1 s a l y k) R b1 b2 h.fH.ok (bq (aM s) a l k) d7 _ dY (by rw[h.fH.aM];exact cS) as4 _ (fun e=>da _ h.fH _ d7 e) (RS d0 h ab hw G)
theorem aey {s:bM} (aD:gC s) {a l:Nat} (av:eh s a l=0) (y:Nat->ay4):jc s (F0 s a l y):=by
 unfold F0
 split
 .rename_i h;exact(CB aD (su av) y h _ (ap0 _)).fH
 .exact jc.refl aD
theorem aez (s:bM) (R:bn->bf) (b1 b2:Nat) (aD:gC s) (a l:Int) (av:eh s a l≠0):Fn Tryz.prog 90 [ap 1001,ac a,ac l,nc b1 b2] (fY s R) [] (ac (eh s a l)) (fY s R):=by
 refine aU [] Tryz.func90 ?_;refine⟨rfl,rfl,ar (wk s aD a l) ?_⟩;exact⟨fun _=>bg,fun h=>absurd (show eh s a l=0 by have h:(!decide (eh s a l=0))=false:=h;simpa using h) av⟩
def hv (z size U:Nat):bM:=⟨z,List.replicate size cD,List.replicate U (0:Int),J0⟩
theorem aeA {z size U:Nat} (E:z<=3) (G:size<=256) (aj:U<=512):gC (hv z size U):=by
 have cq: ∀(c:Nat) (q:e7),(hv z size U).t[c]? =some q->q=cD:=fun c q h=>by
  have h:(List.replicate size cD)[c]? =some q:=h;rw[List.getElem?_replicate] at h
  split at h
  .injection h with h;exact h.symm
  .cases h
 have al: ∀(h:Nat) n,(hv z size U).l[h]? =some n->n=0:=fun h n e=>by
  have e:(List.replicate U (0:Int))[h]? =some n:=e;rw[List.getElem?_replicate] at e
  split at e
  .injection e with e;exact e.symm
  .cases e
 refine⟨E,by show(List.replicate size cD).length<=256;rw[as4];exact G,by show(List.replicate U (0:Int)).length<=512;rw[as4];exact aj,fun c q aT=>.inl (cq c q aT),fun c d h H J=>?_,fun h n hn=>.inl (al h n hn),fun h _=>rfl,fun h bk=>?_,fun k xs ab=>(by cases ab)⟩
 .have:=cq c _ H;cases this
 .have:=al h _ bk;cases this
def j6 (z size U:Int):Bool:=decide (0<=size)&&decide (size<=256)&&(decide (0<=U)&&decide (U<=512))&&(decide (0<=z)&&decide (z<=3))
theorem aeB (z size U:Nat) (E:z<=3) (G:size<=256) (aj:U<=512):Fn Tryz.prog 39 [ac (z:Int),ac (size:Int),ac (U:Int)] [] [1001,1002,1003,1004] (.cf [.one (.ptr 1001 0),dw 0]) (dx (hv z size U)):=by
 refine aU [3] Tryz.func39 ?_;refine ar (Fn.aV [(1001,1002),(1002,2002)] (Ku size G)) <| ar (Fn.aV [(1001,1003),(1002,2003)] (FI (U:Int) au5 au5)) <| bz [] (cH [(0,ac (z:Int)),(8,ap 1002),(9,ac 0),(10,ap 1003),(11,ac 0)] [(1002,.aG (rl (List.replicate size cD))),(1003,.aG (rn (List.replicate U (0:Int))))]) <| df <| df ⟨fun h=>?_,fun h=>?_⟩
 .exfalso;have h:(z:Int) < 0:=gd h;omega
 refine⟨fun h=>?_,fun h=>?_⟩
 .exfalso;have h:(3:Int) < (z:Int):=gd h;omega
 exact⟨rfl,rfl,_,_,_,(ae.aV 41 1001 rfl).trans ((ae.aV 39 1004 rfl).trans (ae.QE 1004 rfl)),rfl,aA,aA,rfl⟩
theorem aeC {z size U:Int} (h:j6 z size U=false): ¬(0<=size/\size<=256)\/ ¬(0<=U/\U<=512)\/ ¬(0<=z/\z<=3):=by
 unfold j6 at h
 by_cases E:0<=size/\size<=256
 .by_cases G:0<=U/\U<=512
  .by_cases aj:0<=z/\z<=3
   .rw[aq1 E.1,aq1 E.2,aq1 G.1,aq1 G.2,aq1 aj.1,aq1 aj.2] at h
    cases h
   .exact .inr (.inr aj)
  .exact .inr (.inl G)
 .exact .inl E
theorem RU (z size U:Int) (h:j6 z size U=false):Fn Tryz.prog 39 [ac z,ac size,ac U] [] [] (.cf [mG,dw 1]) []:=by
 have O:=aeC h;refine aU [] Tryz.func39 ?_
 by_cases E:0<=size/\size<=256
 .obtain⟨ed,rfl⟩: ∃n:Nat,size=(n:Int):=⟨size.toNat,au5⟩;refine ar (Fn.aV [(1001,1002),(1002,2002)] (Ku ed au5)) ?_
  by_cases G:0<=U/\U<=512
  .refine ar (Fn.aV [(1001,1003),(1002,2003)] (FI U au5 au5)) <| df <| df ⟨fun _=>?_,fun aj=>?_⟩
   .exact bg
   .refine⟨fun _=>?_,fun aX=>?_⟩
    .exact bg
    .exfalso;have aj: ¬z < 0:=mu aj;have aX: ¬(3:Int) < z:=mu aX;omega
  .exact ar (Rp U G) <| df <| e5 bg
 .refine ar (adJ size E) ?_
  by_cases G:0<=U/\U<=512
  .exact ar (Fn.aV [(1001,1003),(1002,2003)] (FI U au5 au5)) <| e5 bg
  .exact ar (Rp U G) <| e5 bg
end
end Go.Proofs.YthnboghbhgapcaaGreat
