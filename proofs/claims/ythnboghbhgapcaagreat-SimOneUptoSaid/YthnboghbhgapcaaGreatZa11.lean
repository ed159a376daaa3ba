/-
A part of the proof of this claim: lemmas, with no condition beyond what each says.
-/
import Derived.Test.YthnboghbhgapcaaGreatZa10
set_option linter.unusedVariables false
set_option linter.unusedSimpArgs false
set_option maxRecDepth 10000
namespace Go.Proofs.YthnboghbhgapcaaGreat
open Go.RowKit Go.Proofs
section
structure bL where
 z:Nat
 t:List e7
 l:List Int
 f:k7
abbrev adN (n:Int):List bC:=[.d (.int .i64 n),.ptr 1002 0,.ptr 1003 0,.mp 1004,.dD]
abbrev dx (s:bL):ay:=[(1001,.cells (adN s.z)),(1002,.aG (rj s.t)),(1003,.aG (rk s.l)),(1004,.aG (mH s.f))]
def iZ (s:bL):bh:=.iX 1001 (dx s)
theorem adO (t:List e7):Fn Tryz.prog 38 [ao 1001] [(1001,.aG (rj t))] [] (ae (t.length:Nat)) [(1001,.aG (rj t))]:=
 Fn.E7 (sc:=fun es:{es//nV t es}=>.iX 1001 (oT (t.length:Nat) es.1)) au8 (fun _ _ _ _ ⟨es,h,a6⟩=>⟨⟨es,h⟩,a6⟩) fun es=>
  Fn.close [1002] (ads _ es.1) (fun _ _ _ _ h=>h) (fun _ _ _ _ h=>⟨es.1,es.2,h⟩) rfl rfl
theorem Ck (t:List e7) (aq:t.length<=256) (c:Nat) (H:c < t.length):Fn Tryz.prog 148 [ao 1001,ae (c:Int)] [(1001,.aG (rj t))] [] (.c (py t[c])) [(1001,.aG (rj t))]:=
 Fn.E7 (sc:=fun es:{es//nV t es}=>.iX 1001 (oT (t.length:Nat) es.1)) au8 (fun _ _ _ _ ⟨es,h,a6⟩=>⟨⟨es,h⟩,a6⟩) fun es=>
  Fn.close [1002] (Q9 es.2 aq c H) (fun _ _ _ _ h=>h) (fun _ _ _ _ h=>⟨es.1,es.2,h⟩) rfl rfl
theorem adP (t:List e7) (aq:t.length<=256) (c:Nat) (H:c < t.length) (s:e7) (ax:tr s) (aF:rh s=true):
  Fn Tryz.prog 182 [ao 1001,ae (c:Int),.c (py s)] [(1001,.aG (rj t))] [] (.ce [py t[c],dw 0]) [(1001,.aG (rj (t.set c s)))]:=
 Fn.E7 (sc:=fun es:{es//nV t es}=>.iX 1001 (oT (t.length:Nat) es.1)) au8 (fun _ _ _ _ ⟨es,h,a6⟩=>⟨⟨es,h⟩,a6⟩) fun es=>
  Fn.close [1002] (adA es.2 aq c H s ax aF) (fun _ _ _ _ h=>h) (fun _ _ _ _ h=>⟨_,es.2.set c s ax,by rw[List.length_set];exact h⟩) rfl rfl
theorem adQ (l:List Int) (h:Nat) (n:Int) (hn:l[h]? =some n) (E:1<=n) (G:n<=65535):Fn Tryz.prog 206 [ao 1001,ae (h:Int)] [(1001,.aG (rk l))] [] (.ce [.one (.d (.int .i64 (n - 1))),dw 0]) [(1001,.aG (rk (l.set h (n - 1))))]:=
 Fn.close [1002] (adG l h n hn E G) (fun _ _ _ _ h=>h) (fun _ _ _ _ h=>h) rfl rfl
theorem adR (l:List Int) (aq:l.length<=1000000):Fn Tryz.prog 180 [ao 1001] [(1001,.aG (rk l))] [] (ae (d3 l:Nat)) [(1001,.aG (rk l))]:=
 Fn.close [1002] (adJ l aq) (fun _ _ _ _ h=>h) (fun _ _ _ _ h=>h) rfl rfl
theorem adS (l:List Int) (aq:l.length<=1000000) (h:Nat) (bl:l[h]? =some 0) (hf: ∀j,j < h->l[j]? ≠some 0):Fn Tryz.prog 181 [ao 1001] [(1001,.aG (rk l))] [] (.ce [.one (.d (.int .i64 (h:Int))),dw 0]) [(1001,.aG (rk (l.set h 1)))]:=
 Fn.close [1002] (adL l aq h bl hf) (fun _ _ _ _ h=>h) (fun _ _ _ _ h=>h) rfl rfl
def aN (s:bL):Nat:=16*2 ^s.z
theorem ko {b:Nat} (h:b<=3):1<=2 ^b/\2 ^b<=8:=by
 match b,h with
 |0,_=>decide
 |1,_=>decide
 |2,_=>decide
 |3,_=>decide
theorem uF {s:bL} (h:s.z<=3):16<=aN s/\aN s<=128:=by
 have:=ko h;unfold aN;omega
theorem qi (s:bL) (O:s.z<=3):Fn Tryz.prog 144 [ao 1001] (dx s) [] (ae (aN s:Nat)) (dx s):=by
 have h:=ko O;have e:(16:Int)*((2 ^s.z:Nat):Int)=((aN s:Nat):Int):=by unfold aN;omega
 refine aW [] Tryz.func144 rfl rfl rfl rfl ?_;have m:(0:Int)<=16/\(0:Int)<=(s.z:Int)/\(s.z:Int)<=64:=by omega
 have m2:(-9223372036854775808:Int)<=16*((2 ^s.z:Nat):Int)/\(16:Int)*((2 ^s.z:Nat):Int)<=9223372036854775807:=by omega
 refine⟨m,m2,?_⟩;exact aT aH rfl e ac rfl
theorem na (s:bL):Fn Tryz.prog 14 [ao 1001] (dx s) [] (ae (s.t.length:Nat)) (dx s):=by
 refine aW [] Tryz.func14 rfl rfl rfl rfl ?_;refine au (Fn.aX [(1001,1002)] (adO s.t)) ?_;exact aT aH rfl rfl ac rfl
theorem adT (s:bL) (aq:s.t.length<=256) (c:Nat) (H:c < s.t.length):Fn Tryz.prog 96 [ao 1001,ae (c:Int)] (dx s) [] (ae (s.t[c]).1) (dx s):=by
 refine aW [] Tryz.func96 rfl rfl rfl rfl ?_;refine au (Fn.aX [(1001,1002)] (Ck s.t aq c H)) ?_;refine⟨_,_,fun N=>Ki rfl Tryz.underlying224 rfl Tryz.underlying3 rfl rfl rfl N,rfl,?_⟩;exact aT aH rfl rfl ac rfl
theorem Rj (s:bL) (aq:s.l.length<=1000000):Fn Tryz.prog 141 [ao 1001] (dx s) [] (ae (d3 s.l:Nat)) (dx s):=by
 refine aW [] Tryz.func141 rfl rfl rfl rfl ?_;refine au (Fn.aX [(1001,1003),(1002,2003)] (adR s.l aq)) ?_;exact aT aH rfl rfl ac rfl
theorem Rk (x:List UInt8) (hx:x.length<=4294967296):Fn Tryz.prog 152 [eM 1001] [(1001,.row 5 .u8 x)] [1002] (eM 1002) [(1001,.row 5 .u8 x),(1002,.row 5 .u8 x)]:=by
 refine aW [1] Tryz.func152 rfl rfl rfl rfl ?_;refine bt.h3 eN au8 ?_;refine⟨_,abW (c:=1001) rfl rfl rfl Tryz.underlying25,fun v e h=>?_⟩;obtain⟨b,O,rfl,rfl⟩:=h
 cases b
 .refine⟨rfl,?_⟩;have m1:([]:List UInt8).length+x.length<=4294967296:=by simp;omega
  refine⟨m1,rfl,?_⟩;exact⟨_,_,_,af.aX 7 1002 rfl,rfl,rfl,ac,rfl⟩
 .have O:=O rfl;subst O;exact⟨_,_,_,af.nil 2 1002 5 .u8 rfl rfl,rfl,rfl,ac,rfl⟩
theorem adU (x:List UInt8) (hx:x.length<=4294967296):Fn Tryz.prog 152 [bS .u8 x] [] [2001] (eM 2001) [(2001,.row 5 .u8 x)]:=by
 refine aW [1] Tryz.func152 rfl rfl rfl rfl ?_;refine bt.h3 eN au8 ?_;refine⟨_,Qr rfl rfl Tryz.underlying25,fun v e h=>?_⟩;obtain⟨b,O,rfl,rfl⟩:=h
 cases b
 .refine⟨rfl,?_⟩;have aq:0+x.length<=4294967296:=by omega
  refine⟨aq,rfl,?_⟩;exact⟨_,_,_,af.aX 7 2001 rfl,rfl,rfl,ac,rfl⟩
 .have O:=O rfl;subst O;exact⟨_,_,_,af.nil 2 2001 5 .u8 rfl rfl,rfl,rfl,ac,rfl⟩
theorem Rl {f:k7} {k:Int} {xs:List UInt8} (h:f k=some xs):ja f k xs=f:=funext fun j=>by
 unfold ja
 split
 .rename_i e;rw[e,h]
 .rfl
theorem Ko:(Tryz.prog.info? 25).map (fun i=>(i.zero,i.size,i.bytes))=some (some (.slice none 0 0),1,24):=by kernel_rfl
def kp (s:bL):List UInt8:=List.replicate (aN s) 0
def fL (s:bL) (c:Nat) (y:Option (List UInt8)):List UInt8:=match s.t[c]? with
 |some q=>if q.1=1 then(s.f q.2.1).getD [] else if q.1=0 then(match y with
  |some y=>if y.length=aN s then y else kp s
  |none=>kp s) else kp s
 |none=>[]
theorem adV (s:bL) (O:s.z<=3) (aq:s.t.length<=256) (c:Nat) (H:c < s.t.length) (hf:(s.t[c]).1=1-> ∃xs,s.f (s.t[c]).2.1=some xs/\xs.length<=128):
  Fn Tryz.prog 132 [ao 1001,ae (c:Int),.c (.one (.bI .nilFunc))] (dx s) [2001] (eM 2001) (dx s++[(2001,.row 5 .u8 (fL s c none))]):=by
 obtain⟨c7,oG,oH,uD,zB⟩:=info_parts Ko;have hw:=uF O
 have dJ:fL s c none=if(s.t[c]).1=1 then(s.f (s.t[c]).2.1).getD [] else kp s:=by
  unfold fL;rw[oj H];simp
 refine aW [] Tryz.func132 rfl rfl rfl rfl ?_;refine au (Fn.aX [(1001,1002)] (Ck s.t aq c H)) ?_;refine⟨rfl,fun h=>?_,fun h=>?_⟩
 .have h:=gd h;obtain⟨xs,hx,vA⟩:=hf h;rw[if_pos h,hx] at dJ;refine⟨_,_,fun N=>Fh (d:=5001) (k:=(s.t[c]).2.1) rfl Tryz.underlying89 Tryz.underlying3 rfl oG oH rfl rfl rfl hx N,rfl,?_⟩;refine au (Fn.aX [(1001,5001),(1002,2001)] (Rk xs au5)) ?_;refine⟨rfl,?_⟩;exact⟨_,_,_,af.Fi 1004 5001 (Rl hx) rfl rfl au6 (by rw[hx];rfl),rfl,rfl,⟨rfl,rfl,rfl,rfl,by rw[dJ];rfl,trivial⟩,rfl⟩
 .have h:=mu h;rw[if_neg h] at dJ;have m:(0:Int)<=(aN s:Nat)/\((aN s:Nat):Int)<=4294967296:=by omega
  refine⟨fun aw=>?_,fun aw=>?_⟩
  .refine⟨_,_,fun N=>adl (.inr ⟨rfl,rfl⟩) rfl Tryz.underlying154 rfl N,rfl,?_⟩;refine au (qi s O) ?_;refine⟨⟨rfl,m⟩,rfl,?_⟩;exact⟨_,_,_,af.aX 45 2001 rfl,rfl,rfl,⟨rfl,rfl,rfl,rfl,by rw[dJ];rfl,trivial⟩,rfl⟩
  .refine au (qi s O) ?_;refine⟨⟨rfl,m⟩,rfl,?_⟩;exact⟨_,_,_,af.aX 45 2001 rfl,rfl,rfl,⟨rfl,rfl,rfl,rfl,by rw[dJ];rfl,trivial⟩,rfl⟩
abbrev nb (b1 b2:Nat):aQ:=.c (.one (.d (.fn (139,[b1,b2]))))
abbrev fX (s:bL) (R:bo->bh):ay:=dx s++[(9000,.co 1001 R)]
def FD (s:bL) (R:bo->bh) (b1 b2:Nat) (c:Nat) (y:List UInt8):Prop:=
 y.length<=1000000/\Fn Tryz.prog 139 [ae (c:Int),dn b1,dn b2] (fX s R) [] (bS .u8 y) (fX s R)
set_option maxHeartbeats 1000000 in
theorem adW (s:bL) (R:bo->bh) (b1 b2:Nat) (O:s.z<=3) (aq:s.t.length<=256) (c:Nat) (H:c < s.t.length) (hf:(s.t[c]).1=1-> ∃xs,s.f (s.t[c]).2.1=some xs/\xs.length<=128) (y:List UInt8) (c':(s.t[c]).1=0->FD s R b1 b2 c y):
  Fn Tryz.prog 132 [ao 1001,ae (c:Int),nb b1 b2] (fX s R) [2001] (eM 2001) (fX s R++[(2001,.row 5 .u8 (fL s c (some y)))]):=by
 obtain⟨c7,oG,oH,uD,zB⟩:=info_parts Ko;have hw:=uF O
 have dJ:fL s c (some y)=if(s.t[c]).1=1 then(s.f (s.t[c]).2.1).getD [] else if(s.t[c]).1=0 then(if y.length=aN s then y else kp s) else kp s:=by
  unfold fL;rw[oj H]
 refine aW [7,8] Tryz.func132 rfl rfl rfl rfl ?_;refine au (Fn.aX [(1001,1002)] (Ck s.t aq c H)) ?_;refine⟨rfl,fun h=>?_,fun h=>?_⟩
 .have h:=gd h;obtain⟨xs,hx,vA⟩:=hf h;rw[if_pos h,hx] at dJ;refine⟨_,_,fun N=>Fh (d:=5001) (k:=(s.t[c]).2.1) rfl Tryz.underlying89 Tryz.underlying3 rfl oG oH rfl rfl rfl hx N,rfl,?_⟩;refine au (Fn.aX [(1001,5001),(1002,2001)] (Rk xs au5)) ?_;refine⟨rfl,?_⟩;exact⟨_,_,_,af.Fi 1004 5001 (Rl hx) rfl rfl au6 (by rw[hx];rfl),rfl,rfl,⟨rfl,rfl,rfl,rfl,rfl,by rw[dJ];rfl,trivial⟩,rfl⟩
 .have h:=mu h;rw[if_neg h] at dJ;have m:(0:Int)<=(aN s:Nat)/\((aN s:Nat):Int)<=4294967296:=by omega
  refine⟨fun aw=>?_,fun aw=>?_⟩
  .have aw:=gd aw;obtain⟨Rm,c'⟩:=c' aw;rw[if_pos aw] at dJ;refine⟨_,_,fun N=>adk (.inr ⟨rfl,rfl⟩) rfl Tryz.underlying154 rfl N,rfl,?_⟩;refine au c' ?_;refine au (qi s O) ?_;refine⟨fun G=>?_,fun G=>?_⟩
   .have G:(y.length:Int)=(aN s:Nat):=gd G;have G:y.length=aN s:=by omega
    rw[if_pos G] at dJ;refine bz [] (cG [(8,bS .u8 y)] (fX s R)) ?_;refine au (adU y au5) ?_;exact aT aH rfl rfl ⟨rfl,rfl,rfl,rfl,rfl,by rw[dJ];rfl,trivial⟩ rfl
   .have G: ¬(y.length:Int)=(aN s:Nat):=mu G;have G: ¬y.length=aN s:=by omega
    rw[if_neg G] at dJ;refine bz [] (cG [(0,ao 1001)] (fX s R)) ?_;refine au (qi s O) ?_;refine⟨⟨rfl,m⟩,rfl,?_⟩;exact⟨_,_,_,af.aX 45 2001 rfl,rfl,rfl,⟨rfl,rfl,rfl,rfl,rfl,by rw[dJ];rfl,trivial⟩,rfl⟩
  .have aw:=mu aw;rw[if_neg aw] at dJ;refine bz [] (cG [(0,ao 1001)] (fX s R)) ?_;refine au (qi s O) ?_;refine⟨⟨rfl,m⟩,rfl,?_⟩;exact⟨_,_,_,af.aX 45 2001 rfl,rfl,rfl,⟨rfl,rfl,rfl,rfl,rfl,by rw[dJ];rfl,trivial⟩,rfl⟩
def zD (s:bL) (q:e7):bL:=if q.1=1 then {s with l:=s.l.set q.2.1.toNat 0,f:=BZ s.f q.2.1} else s
theorem adX (s:bL) (q:e7) (aV:q.1=1-> ∃h:Nat,q.2.1=(h:Int)/\s.l[h]? =some 1):Fn Tryz.prog 183 [ao 1001,.c (py q)] (dx s) [] gI (dx (zD s q)):=by
 refine aW [] Tryz.func183 rfl rfl rfl rfl ?_;refine⟨rfl,fun E=>?_,fun E=>?_⟩
 .have E: ¬q.1=1:=by
   have E:(!decide (q.1=1))=true:=E;simpa using E
  rw[show zD s q=s from if_neg E];exact aT aH rfl trivial ac rfl
 .have E:q.1=1:=by
   have E:(!decide (q.1=1))=false:=E;simpa using E
  obtain⟨h,e,aq⟩:=aV E;rw[show zD s q={s with l:=s.l.set q.2.1.toNat 0,f:=BZ s.f q.2.1} from if_pos E];obtain⟨k,x,o⟩:=q;simp only at e;subst e;refine au (Fn.aX [(1001,1003),(1002,2003)] (adQ s.l h 1 aq au6 au6)) ?_;refine⟨rfl,eO ?_⟩;refine⟨_,_,fun N=>ab' (k:=(h:Int)) rfl Tryz.underlying89 Tryz.underlying3 rfl rfl rfl rfl N,rfl,?_⟩;refine⟨rfl,?_⟩;exact aT aH rfl trivial ac rfl
def rn (s:bL) (c:Nat) (q:e7):bL:=zD {s with t:=s.t.set c q} (s.t.getD c cD)
theorem Kp (s:bL) (aq:s.t.length<=256) (c:Nat) (H:c < s.t.length) (q:e7) (ax:tr q) (aF:rh q=true) (aV:(s.t.getD c cD).1=1-> ∃h:Nat,(s.t.getD c cD).2.1=(h:Int)/\s.l[h]? =some 1):
  Fn Tryz.prog 145 [ao 1001,ae (c:Int),.c (py q)] (dx s) [] gI (dx (rn s c q)):=by
 have e:s.t[c]=s.t.getD c cD:=by rw[ap9,oj H];rfl
 have gN:=adP s.t aq c H q ax aF;unfold rn;rw[e] at gN;generalize s.t.getD c cD=qR at aV gN;refine aW [] Tryz.func145 rfl rfl rfl rfl ?_;refine⟨rfl,au (Fn.aX [(1001,1002)] gN) ?_⟩;refine⟨rfl,rfl,au (adX {s with t:=s.t.set c q} qR aV) ?_⟩;exact aT aH rfl trivial ac rfl
structure mJ where
 c:Nat
 a:Nat
 b:Nat
 at_:Nat
abbrev uG (p:mJ):List bC:=[.d (.int .i64 (p.c:Int)),.d (.int .i64 (p.a:Int)),.d (.int .i64 (p.b:Int)),.d (.int .i64 (p.at_:Int))]
abbrev qj (p:mJ):aQ:=.c (.agg (uG p))
def hs (s:bL) (c:Nat):Bool:= !v8 (s.t.getD c cD)
theorem Kq (s:bL) (aq:s.t.length<=256) (p:mJ) (H:p.c < s.t.length):Fn Tryz.prog 140 [ao 1001,qj p] (dx s) [] (fI (hs s p.c)) (dx s):=by
 have e:s.t[p.c]=s.t.getD p.c cD:=by rw[ap9,oj H];rfl
 have mw:=Ck s.t aq p.c H;unfold hs;rw[e] at mw;refine aW [] Tryz.func140 rfl rfl rfl rfl ?_;refine⟨rfl,au (Fn.aX [(1001,1002)] mw) ?_⟩;refine au (adr (s.t.getD p.c cD)) ?_;refine⟨rfl,?_⟩;exact aT aH rfl rfl ac rfl
structure gB (s:bL):Prop where
 z:s.z<=3
 eW:s.t.length<=256
 lc:s.l.length<=512
 slot: ∀(c:Nat) (q:e7),s.t[c]? =some q->q=cD\/q=((2:Int),(0:Int),false)\/ ∃h:Nat,q=((1:Int),(h:Int),true)/\s.l[h]? =some 1/\ ∃xs,s.f (h:Int)=some xs/\xs.length=aN s
 inj: ∀(c d:Nat) (h:Int),s.t[c]? =some ((1:Int),h,true)->s.t[d]? =some ((1:Int),h,true)->c=d
 FE: ∀(h:Nat) n,s.l[h]? =some n->n=0\/n=1
 zE: ∀h:Nat,s.l[h]? =some 0->s.f (h:Int)=none
 FF: ∀h:Nat,s.l[h]? =some 1-> ∃c:Nat,s.t[c]? =some ((1:Int),(h:Int),true)
 dom: ∀(k:Int) xs,s.f k=some xs->xs.length<=128
def hS (l:List Int):Nat:=l.findIdx fun n=>decide (n=0)
theorem Kr {l:List Int} (h:0 < d3 l):l[hS l]? =some 0/\ ∀j,j < hS l->l[j]? ≠some 0:=by
 have bw:hS l < l.length:=by
  unfold hS;rw[List.findIdx_lt_length];unfold d3 at h;obtain⟨x,hx⟩:=List.exists_mem_of_length_pos h;rw[at5] at hx;exact⟨x,hx.1,hx.2⟩
 refine⟨?_,fun j aa e=>?_⟩
 .have:=List.findIdx_getElem (xs:=l) (p:=fun n=>decide (n=0)) (w:=bw);rw[oj bw];exact congrArg some (gd this)
 .have fh:j < l.length:=by omega
  have:=List.not_of_lt_findIdx (p:=fun n=>decide (n=0)) (xs:=l) aa;rw[oj fh] at e;injection e with e
  simp[e] at this
def mK (s:bL) (c:Nat) (y:List UInt8):bL:=
 if hs s c=true then {s with t:=s.t.set c ((1:Int),(hS s.l:Int),true),l:=s.l.set (hS s.l) 1,f:=ja s.f (hS s.l:Int) (fL s c (some y))} else s
def FG (s:bL) (p:mJ) (bs:List UInt8):bL:={s with f:=ja s.f (s.t.getD p.c cD).2.1 (laid ((s.f (s.t.getD p.c cD).2.1).getD []) p.a (p.b - p.a) bs)}
def xH (s:bL) (p:mJ) (bs:List UInt8) (y:List UInt8):bL:=FG (mK s p.c y) p bs
abbrev Rn (bs:List UInt8):a1:=[(0,ao 1001),(2,bS .u8 bs),(5,ao 5)]
abbrev Ro (s:bL) (R:bo->bh) (p:mJ):ay:=(5,.cells (uG p))::fX s R
theorem zF {t:List e7} {c:Nat} {q:e7} (h:t[c]? =some q):t.getD c cD=q:=by
 rw[ap9,h];rfl
theorem xI {s:bL} (aE:gB s) {c:Nat} (H:c < s.t.length) (y:Option (List UInt8)):(fL s c y).length=aN s:=by
 have aR:(kp s).length=aN s:=as7;have a6:s.t[c]? =some s.t[c]:=oj H;unfold fL;rw[a6];simp only;rcases aE.slot c _ a6 with e |e |⟨h,e,_,xs,hx,aq⟩
 .rw[e,if_neg au6,if_pos au6]
  split
  .split
   .rename_i h;exact h
   .exact aR
  .exact aR
 .rw[e,if_neg au6,if_neg au6];exact aR
 .rw[e,if_pos rfl];simp only[hx,Option.getD_some];exact aq
theorem FH {s:bL} (aE:gB s) {c:Nat} (H:c < s.t.length):(hs s c=true/\(s.t.getD c cD=cD\/s.t.getD c cD=((2:Int),(0:Int),false)))\/(hs s c=false/\ ∃h:Nat,s.t[c]? =some ((1:Int),(h:Int),true)/\s.l[h]? =some 1/\ ∃xs,s.f (h:Int)=some xs/\xs.length=aN s):=by
 have a6:s.t[c]? =some s.t[c]:=oj H;have J:=zF a6;unfold hs v8;rw[J];rcases aE.slot c _ a6 with e |e |⟨h,e,G⟩
 .rw[e];exact .inl ⟨rfl,.inl rfl⟩
 .rw[e];exact .inl ⟨rfl,.inr rfl⟩
 .rw[e] at a6⊢;exact .inr ⟨rfl,h,a6,G⟩
theorem Rp {s:bL} (h:s.z<=3):aN s<=128:=by
 have:=ko h;show 16*2 ^s.z<=128;omega
theorem Rq {f:k7} (h: ∀(k:Int) xs,f k=some xs->xs.length<=128) {FI:Int} {ys:List UInt8} (aC:ys.length<=128): ∀(k:Int) xs,ja f FI ys k=some xs->xs.length<=128:=fun k xs ab=>by
 unfold ja at ab
 split at ab
 .injection ab with ab
  rw[<-ab];exact aC
 .exact h k xs ab
theorem Rr {s:bL} (aE:gB s) {c:Nat} (H:c < s.t.length) (y:List UInt8) (aR:hs s c=true->0 < d3 s.l):
  gB (mK s c y)/\aN (mK s c y)=aN s/\(mK s c y).t.length=s.t.length/\ ∃h:Nat,(mK s c y).t[c]? =some ((1:Int),(h:Int),true)/\(mK s c y).f (h:Int)=some (fL s c (some y)):=by
 rcases FH aE H with⟨hn,aV⟩ |⟨hn,h,E,G,xs,al,aZ⟩
 .obtain⟨kj,qZ⟩:=Kr (aR hn);have bw:hS s.l < s.l.length:=(ap5.1 kj).1;have j0:=aE.zE _ kj;have dJ:=xI aE H (some y);have mC:s.t[c]? =some (s.t.getD c cD):=by rw[ap9,oj H];rfl
  rw[show mK s c y={s with t:=s.t.set c ((1:Int),(hS s.l:Int),true),l:=s.l.set (hS s.l) 1,f:=ja s.f (hS s.l:Int) (fL s c (some y))} from if_pos hn];generalize fL s c (some y)=xs at dJ;generalize hS s.l=aw at*
  have Rs: ∀(d:Nat),s.t[d]? ≠some ((1:Int),(aw:Int),true):=fun d e=>by
   rcases aE.slot d _ e with ap |ap |⟨h,ap,al,_⟩
   .cases ap
   .cases ap
   .have:(aw:Int)=(h:Int):=by injection ap with _ ap;injection ap
    have:aw=h:=by omega
    subst this;rw[kj] at al
    cases al
  refine⟨⟨aE.z,by show(s.t.set _ _).length<=256;rw[List.length_set];exact aE.eW,by show(s.l.set _ _).length<=512;rw[List.length_set];exact aE.lc,fun d q aV=>?_,fun d e h J V=>?_,fun h n hn=>?_,fun h bl=>?_,fun h bl=>?_,Rq aE.dom (by rw[dJ];exact Rp aE.z)⟩,rfl,List.length_set,aw,?_,if_pos rfl⟩
  .rw[List.getElem?_set] at aV
   split at aV
   .rename_i e;subst e;injection aV with aV
    exact .inr (.inr ⟨aw,aV.symm,by rw[List.getElem?_set_self bw],xs,if_pos rfl,dJ⟩)
   .rcases aE.slot d q aV with e |e |⟨h,e,g1,ys,g2,cX⟩
    .exact .inl e
    .exact .inr (.inl e)
    .have ba:aw≠h:=fun e=>by subst e;rw[kj] at g1;cases g1
     exact .inr (.inr ⟨h,e,by rw[List.getElem?_set_ne ba];exact g1,ys,by show(if(h:Int)=(aw:Int) then some xs else s.f h)=some ys;rw[if_neg au5];exact g2,cX⟩)
  .rw[List.getElem?_set] at J V
   split at J
   .rename_i aj
    split at V
    .rename_i ap;rw[<-aj,<-ap]
    .have:(aw:Int)=h:=by injection J with J;injection J with _ J;injection J
     subst this;exact absurd V (Rs e)
   .split at V
    .rename_i ap;have:(aw:Int)=h:=by injection V with J;injection J with _ J;injection J
     subst this;exact absurd J (Rs d)
    .exact aE.inj d e h J V
  .rw[List.getElem?_set] at hn
   split at hn
   .rename_i e;injection hn with hn
    exact .inr hn.symm
   .exact aE.FE h n hn
  .rw[List.getElem?_set] at bl
   split at bl
   .rename_i e;injection bl with bl
    exact absurd bl au6
   .rename_i e;show(if(h:Int)=(aw:Int) then some xs else s.f h)=none;rw[if_neg au5];exact aE.zE h bl
  .by_cases e:aw=h
   .subst e;exact⟨c,List.getElem?_set_self H⟩
   .rw[List.getElem?_set_ne e] at bl;obtain⟨d,J⟩:=aE.FF h bl
    have ba:c≠d:=fun ap=>by
     subst ap;rw[mC] at J;injection J with J
     rw[J] at aV;rcases aV with aV |aV <;>cases aV
    exact⟨d,by rw[List.getElem?_set_ne ba];exact J⟩
  .exact List.getElem?_set_self H
 .have e:mK s c y=s:=if_neg (by rw[hn];decide);rw[e];refine⟨aE,rfl,rfl,h,E,?_⟩;unfold fL;rw[E];simp only[if_pos,al,Option.getD_some]
set_option maxHeartbeats 1000000 in
theorem Rt (s:bL) (R:bo->bh) (b1 b2:Nat) (aE:gB s) (p:mJ) (H:p.c < s.t.length) (bs:List UInt8) (E:p.a<=p.b) (G:p.b<=aN s) (al:bs.length=p.b - p.a) (y:List UInt8) (c':(s.t[p.c]).1=0->FD s R b1 b2 p.c y) (aR:hs s p.c=true->0 < d3 s.l):
  Fn Tryz.prog 142 [ao 1001,qj p,bS .u8 bs,nb b1 b2] (fX s R) [] gI (fX (xH s p bs y) R):=by
 obtain⟨c7,oG,oH,uD,zB⟩:=info_parts Ko;have hw:=uF aE.z;have e:s.t[p.c]=s.t.getD p.c cD:=by rw[ap9,oj H];rfl
 obtain⟨fg,g0,pB,eu,uH,wa⟩:=Rr aE H y aR;have dJ:=xI aE H (some y);unfold xH
 have gj:=adW s R b1 b2 aE.z aE.eW p.c H (fun h=>by
  rcases aE.slot p.c _ (oj H) with ap |ap |⟨h,ap,_,xs,hx,aq⟩
  .rw[ap] at h;cases h
  .rw[ap] at h;cases h
  .rw[ap];exact⟨xs,hx,au5⟩) y c'
 generalize d1:mK s p.c y=s' at fg g0 pB uH wa;have tR:=zF uH
 have vp:s'.t[p.c]'au5=((1:Int),(eu:Int),true):=by
  have:=oj (l:=s'.t) (i:=p.c) au5;rw[uH] at this;injection this with this
  exact this.symm
 have Cl:=Ck s'.t fg.eW p.c au5;rw[vp] at Cl;unfold FG;rw[tR];simp only[wa,Option.getD_some];have m:(0:Int)<=(p.a:Int)/\(p.a:Int)<=(p.b:Int)/\(p.b:Int)<=(((fL s p.c (some y)).length:Nat):Int):=by omega
 have m2:p.a+(p.b - p.a)<=(fL s p.c (some y)).length:=by omega
 have vB:ja s'.f (eu:Int) (laid (fL s p.c (some y)) p.a (p.b - p.a) bs)=ja s'.f (eu:Int) (laid (fL s p.c (some y)) p.a (p.b - p.a) bs):=rfl;refine aW [3,5,6] Tryz.func142 rfl rfl rfl rfl ?_;refine⟨rfl,au (Kq s aE.eW p H) ?_⟩;refine⟨fun hn=>?_,fun hn=>?_⟩
 .obtain⟨kj,qZ⟩:=Kr (aR hn);refine au gj ?_;refine bz [5,6] (cG [(0,ao 1001),(2,bS .u8 bs),(5,ao 5),(8,eM 2001)] ((5,.cells (uG p))::(2001,.row 5 .u8 (fL s p.c (some y)))::fX s R)) ?_;refine au (Fn.aX [(1001,1003),(1002,2003)] (adS s.l (by have:=aE.lc;omega) (hS s.l) kj qZ)) ?_;refine⟨_,_,fun N=>ab8 (d:=2001) (k:=(hS s.l:Int)) rfl Tryz.underlying89 Tryz.underlying3 rfl rfl rfl rfl rfl rfl au6 (aE.zE _ kj) N,rfl,?_⟩;refine bz [6] (cG [(0,ao 1001),(2,bS .u8 bs),(5,ao 5),(9,ae (hS s.l:Nat))] ((5,.cells (uG p))::fX {s with l:=s.l.set (hS s.l) 1,f:=ja s.f (hS s.l:Int) (fL s p.c (some y))} R)) ?_
  have gN:Fn Tryz.prog 145 [ao 1001,ae (p.c:Int),.c (py ((1:Int),(hS s.l:Int),true))] (dx {s with l:=s.l.set (hS s.l) 1,f:=ja s.f (hS s.l:Int) (fL s p.c (some y))}) [] gI (dx s'):=by
   have bw:hS s.l < s.l.length:=(ap5.1 kj).1;have mI:=aE.lc
   have tg: ¬(s.t.getD p.c cD).1=1:=by
    rcases FH aE H with⟨_,h⟩ |⟨h,_⟩
    .rcases h with h |h <;>rw[h] <;>decide
    .rw[hn] at h;cases h
   have h:=Kp {s with l:=s.l.set (hS s.l) 1,f:=ja s.f (hS s.l:Int) (fL s p.c (some y))} aE.eW p.c H ((1:Int),(hS s.l:Int),true) ⟨⟨by show(-1000000:Int)<=1;decide,by show(1:Int)<=1000000;decide⟩,by show(-1000000:Int)<=(hS s.l:Int);omega,by show((hS s.l:Nat):Int)<=1000000;omega⟩ (by
    show(if(1:Int)=1 then decide (0<=(hS s.l:Int))&&decide ((hS s.l:Int) < 512) else _)=true;rw[if_pos rfl,aq2 au5,aq2 au5];rfl) (fun h=>absurd h tg)
   rwa[show rn {s with l:=s.l.set (hS s.l) 1,f:=ja s.f (hS s.l:Int) (fL s p.c (some y))} p.c ((1:Int),(hS s.l:Int),true)=s' by
    rw[<-d1];unfold rn zD mK;rw[if_neg tg,if_pos hn]] at h
  refine au (Fn.arg gN ⟨rfl,rfl,ac,trivial⟩) ?_;refine bz [] (cG (Rn bs) (Ro s' R p)) ?_;refine au (Fn.aX [(1001,1002)] Cl) ?_;refine⟨_,_,fun N=>Ki rfl Tryz.underlying224 rfl Tryz.underlying3 rfl rfl rfl N,rfl,?_⟩;refine⟨_,_,fun N=>Fh (d:=5001) (k:=(eu:Int)) rfl Tryz.underlying89 Tryz.underlying3 rfl oG oH rfl rfl rfl wa N,rfl,?_⟩;refine⟨m,m2,rfl,?_⟩;exact⟨_,_,_,af.Fi 1004 5001 vB rfl rfl au6 (by rw[wa];rfl),rfl,trivial,ac,rfl⟩
 .have f':s=s':=by rw[<-d1];unfold mK;rw[if_neg (by rw[hn];decide)]
  subst f';refine bz [] (cG (Rn bs) (Ro s R p)) ?_;refine au (Fn.aX [(1001,1002)] Cl) ?_;refine⟨_,_,fun N=>Ki rfl Tryz.underlying224 rfl Tryz.underlying3 rfl rfl rfl N,rfl,?_⟩;refine⟨_,_,fun N=>Fh (d:=5001) (k:=(eu:Int)) rfl Tryz.underlying89 Tryz.underlying3 rfl oG oH rfl rfl rfl wa N,rfl,?_⟩;refine⟨m,m2,rfl,?_⟩;exact⟨_,_,_,af.Fi 1004 5001 vB rfl rfl au6 (by rw[wa];rfl),rfl,trivial,ac,rfl⟩
def hT (s:bL):Nat:=s.t.length*2 ^s.z
def eh (s:bL) (at_ a2:Int):Int:=if a2 < 0 then 1 else if at_ < 0\/a2 >hT s\/at_ >hT s - a2 then 121 else 0
theorem wb (s:bL) (aE:gB s) (at_ a2:Int):Fn Tryz.prog 130 [ao 1001,ae at_,ae a2] (dx s) [] (ae (eh s at_ a2)) (dx s):=by
 have ag:=ko aE.z;have nc:=aE.eW;have E:s.t.length*2 ^s.z<=256*8:=Nat.mul_le_mul nc ag.2;have e:((s.t.length:Nat):Int)*((2 ^s.z:Nat):Int)=((hT s:Nat):Int):=by unfold hT;rw[Int.natCast_mul]
 have eB:hT s<=2048:=E;refine aW [1,2] Tryz.func130 rfl rfl rfl rfl ?_;refine bt.m5 14 au6 ?_;refine bz [2] (aH) ?_;refine vZ rfl rfl rfl (na s) ?_;have m1:(0:Int)<=(s.t.length:Nat)/\(0:Int)<=(s.z:Int)/\(s.z:Int)<=64:=by have:=aE.z;omega
 have m2:cY (((s.t.length:Nat):Int)*((2 ^s.z:Nat):Int)):=by rw[e];omega
 refine⟨m1,m2,rfl,bz [] (af.sub (K':=[(1,ae at_),(2,ae a2),(7,ae (hT s:Nat))]) (B':=dx s) ⟨rfl,rfl,e,trivial⟩ ac) ?_⟩;refine⟨fun h=>?_,fun h=>?_⟩
 .have h:a2 < 0:=gd h;exact aT aH rfl (show(1:Int)=eh s at_ a2 by unfold eh;rw[if_pos h]) ac rfl
 .have h: ¬a2 < 0:=mu h;have Ks: ∀(_:at_ < 0\/a2 >hT s\/at_ >hT s - a2),(121:Int)=eh s at_ a2:=fun G=>by unfold eh;rw[if_neg h,if_pos G]
  refine⟨fun E=>?_,fun E=>?_⟩
  .have E:at_ < 0:=gd E;exact aT aH rfl (Ks (.inl E)) ac rfl
  .have E: ¬at_ < 0:=mu E;refine⟨fun G=>?_,fun G=>?_⟩
   .have G:((hT s:Nat):Int) < a2:=gd G;exact aT aH rfl (Ks (.inr (.inl G))) ac rfl
   .have G: ¬((hT s:Nat):Int) < a2:=mu G;have m3:cY (((hT s:Nat):Int) - a2):=by omega
    refine⟨m3,fun al=>?_,fun al=>?_⟩
    .have al:((hT s:Nat):Int) - a2 < at_:=gd al;exact aT aH rfl (Ks (.inr (.inr al))) ac rfl
    .have al: ¬((hT s:Nat):Int) - a2 < at_:=mu al;exact aT aH rfl (show(0:Int)=eh s at_ a2 by unfold eh;rw[if_neg h,if_neg au5]) ac rfl
def bq (W a l k:Nat):mJ:=⟨16*a/W+k,16*a - (16*a/W+k)*W,min (16*(a+l) - (16*a/W+k)*W) W,(16*a/W+k)*W+(16*a - (16*a/W+k)*W) - 16*a⟩
def cO (W a l:Nat):Nat:=if l=0 then 0 else(16*(a+l)+W - 1)/W - 16*a/W
def zG (W:Nat):Prop:=W=16\/W=32\/W=64\/W=128
theorem sk {s:bL} (h:s.z<=3):zG (aN s):=by
 unfold zG aN;generalize s.z=b at h
 match b,h with
 |0,_=>exact .inl rfl
 |1,_=>exact .inr (.inl rfl)
 |2,_=>exact .inr (.inr (.inl rfl))
 |3,_=>exact .inr (.inr (.inr rfl))
theorem xJ {W a l k:Nat} (d2:zG W):(0 < l/\(16*a/W+k)*W < 16*(a+l))↔k < cO W a l:=by
 unfold cO;rcases d2 with rfl |rfl |rfl |rfl <;>(split <;>omega)
theorem ts {W a l k:Nat} (d2:zG W) (ab:k < cO W a l):(bq W a l k).a<=(bq W a l k).b/\(bq W a l k).b<=W/\(bq W a l k).at_+((bq W a l k).b - (bq W a l k).a)<=16*l/\(bq W a l k).c*W < 16*(a+l):=by
 have h:=(xJ (a:=a) (l:=l) (k:=k) d2).2 ab;unfold bq;simp only;rcases d2 with rfl |rfl |rfl |rfl <;>omega
abbrev Cm (l:Nat):aQ:=.c (.one (.bI (.func (.yield l) #[] #[])))
abbrev qk (a l:Int):ay:=[(2001,.cells [.ptr 1001 0]),(2002,.cells [.d (.int .i64 a)]),(2003,.cells [.d (.int .i64 l)])]
abbrev Ru (y W a l k:Nat):a1:=[(0,Cm y),(1,ao 2001),(2,ao 2002),(3,ao 2003),(5,ae (W:Nat)),(6,ae ((16*a:Nat):Int)),(7,ae ((16*(a+l):Nat):Int)),(8,ae ((16*a/W+k:Nat):Int))]
abbrev FJ (a l:Nat) (o:bh):ay:=[(2001,.cells [.ptr 1001 0]),(2002,.cells [.d (.int .i64 (a:Int))]),(2003,.cells [.d (.int .i64 (l:Int))]),(1001,.aG o)]
abbrev adY (y W:Nat):a1:=[(0,Cm y),(1,ao 2001),(2,ao 2002),(3,ao 2003),(5,ae (W:Nat))]
theorem adZ {W a l k:Nat} (d2:zG W):(((16*a/W+k:Nat):Int))*(W:Int)=(((16*a/W+k)*W:Nat):Int)/\max (((16*a:Nat):Int) - (((16*a/W+k)*W:Nat):Int)) 0=((bq W a l k).a:Int)/\(k < cO W a l->min (((16*(a+l):Nat):Int) - (((16*a/W+k)*W:Nat):Int)) (W:Int)=((bq W a l k).b:Int))/\(((16*a/W+k)*W:Nat):Int)+((bq W a l k).a:Int) - ((16*a:Nat):Int)=((bq W a l k).at_:Int):=by
 refine⟨by rw[Int.natCast_mul],?_,fun ab=>?_,?_⟩
 .unfold bq;simp only;omega
 .have h:=(xJ (a:=a) (l:=l) (k:=k) d2).2 ab;unfold bq;simp only;omega
 .unfold bq;simp only;rcases d2 with rfl |rfl |rfl |rfl <;>omega
theorem zH (y W a l:Nat) (d2:zG W) (ha:a<=10000) (aq:l<=10000) (fT:Nat->bh) (O: ∀k,Fn Tryz.prog 144 [ao 1001] [(1001,.aG (fT k))] [] (ae (W:Nat)) [(1001,.aG (fT k))])
  (aC: ∀k,k < cO W a l->xo Tryz.prog y [qj (bq W a l k)] [(1001,.aG (fT k))] (fun _:Unit=>qT true) (fun _=>[(1001,.aG (fT (k+1)))])):
  Fn Tryz.prog 174 [Cm y,ao 2001,ao 2002,ao 2003] (FJ a l (fT 0)) [] (.ce []) [(1001,.aG (fT (cO W a l)))]:=by
 have xK:16<=W/\W<=128:=by rcases d2 with rfl |rfl |rfl |rfl <;>omega
 refine aW [1,7] Tryz.func174 rfl rfl rfl rfl ?_;refine au (O 0) ?_;refine bz [7] (cG (adY y W) (FJ a l (fT 0))) ?_;have m1:cY ((a:Int)*16):=by omega
 have m2:cY ((a:Int)+(l:Int)):=by omega
 have m3:cY (((a:Int)+(l:Int))*16):=by omega
 refine⟨m1,m2,m3,rfl,?_⟩;have bG:((a:Int)*16)/(W:Int)=((16*a/W+0:Nat):Int):=by rcases d2 with rfl |rfl |rfl |rfl <;>omega
 have jc:(0:Int)<=(a:Int)*16/\(0:Int) < (W:Int):=by omega
 have vC:16*a/W<=10000:=by rcases d2 with rfl |rfl |rfl |rfl <;>omega
 have tt:cY (((a:Int)*16)/(W:Int)):=by rw[bG];generalize 16*a/W=q at vC;omega
 refine⟨jc,tt,dX [7] (X:=Nat) (Ru y W a l) (fun k=>FJ a l (fT k)) (fun k=>k<=cO W a l) (fun k=>cO W a l - k) 0 (ap7 _) ?_ ?_⟩
 .exact af.sub ⟨rfl,rfl,rfl,rfl,rfl,(by show(a:Int)*16=((16*a:Nat):Int);omega),(by show((a:Int)+(l:Int))*16=((16*(a+l):Nat):Int);omega),bG,trivial⟩ ac
 intro k ab;obtain⟨g1,g2,cX,jo⟩:=adZ (a:=a) (l:=l) (k:=k) d2;have qS:=xJ (a:=a) (l:=l) (k:=k) d2
 have eH:cO W a l<=30000:=by
  unfold cO;rcases d2 with rfl |rfl |rfl |rfl <;>(split <;>omega)
 have dJ:(16*a/W+k)*W<=40000*128:=Nat.mul_le_mul au5 xK.2;have out: ∀(h: ¬k < cO W a l),k=cO W a l:=fun h=>by omega
 refine⟨fun E=>?_,fun E=>?_⟩
 .have E:(0:Int) < (l:Int):=gd E;have cH:cY (((16*a/W+k:Nat):Int)*(W:Int)):=by rw[g1];omega
  refine⟨cH,fun G=>?_,fun G=>?_⟩
  .have G:((16*a/W+k:Nat):Int)*(W:Int) < ((16*(a+l):Nat):Int):=gd G;have ro:k < cO W a l:=qS.1 ⟨au5,by rw[g1] at G;omega⟩;have dF:cY (((16*a:Nat):Int) - ((16*a/W+k:Nat):Int)*(W:Int)):=by rw[g1];omega
   have la:cY (((16*(a+l):Nat):Int) - ((16*a/W+k:Nat):Int)*(W:Int)):=by rw[g1];omega
   refine⟨cH,dF,cH,la,rfl,?_⟩;have sl:cY (((16*a/W+k:Nat):Int)*(W:Int)+max (((16*a:Nat):Int) - ((16*a/W+k:Nat):Int)*(W:Int)) 0):=by rw[g1];omega
   have n5:cY (((16*a/W+k:Nat):Int)*(W:Int)+max (((16*a:Nat):Int) - ((16*a/W+k:Nat):Int)*(W:Int)) 0 - ((16*a:Nat):Int)):=by rw[g1];omega
   refine⟨cH,sl,n5,?_⟩
   have gj: [bC.d (.int .i64 ((16*a/W+k:Nat):Int)),.d (.int .i64 (max (((16*a:Nat):Int) - ((16*a/W+k:Nat):Int)*(W:Int)) 0)),.d (.int .i64 (min (((16*(a+l):Nat):Int) - ((16*a/W+k:Nat):Int)*(W:Int)) (W:Int))),.d (.int .i64 (((16*a/W+k:Nat):Int)*(W:Int)+max (((16*a:Nat):Int) - ((16*a/W+k:Nat):Int)*(W:Int)) 0 - ((16*a:Nat):Int)))]=uG (bq W a l k):=by
    rw[g1,g2,cX ro,jo];rfl
   refine bt.le (af.sub (K':=(9,ao 9)::Ru y W a l k) (B':=(9,.cells (uG (bq W a l k)))::FJ a l (fT k)) ac ⟨?_,rfl,rfl,rfl,rfl,trivial⟩) ?_
   .exact congrArg (fun l=>some (bd.cells l)) gj
   refine bt.h3 eN au8 ?_;refine⟨Unit,_,_,_,aC k ro,ac,fun _=>rfl,fun _=>?_⟩;have n6:cY (((16*a/W+k:Nat):Int)+1):=by generalize 16*a/W=q at vC;omega
   refine⟨n6,k+1,ro,au5,af.sub ac ac⟩
  .have G: ¬((16*a/W+k:Nat):Int)*(W:Int) < ((16*(a+l):Nat):Int):=mu G;have ro:k=cO W a l:=out fun h=>G (by have:=(qS.2 h).2;rw[g1];omega)
   subst ro;exact aT aH rfl trivial ac rfl
 .have E: ¬(0:Int) < (l:Int):=mu E;have ro:k=cO W a l:=out fun h=>E (by have:=(qS.2 h).1;omega)
  subst ro;exact aT aH rfl trivial ac rfl
theorem zI (s:bL) (a l:Int):Fn Tryz.prog 131 [ao 1001,ae a,ae l] (dx s) [2001,2002,2003] (.c (.one (.cT 174 [.p 2001 0,.p 2002 0,.p 2003 0]))) (dx s++qk a l):=by
 refine aW [] Tryz.func131 rfl rfl rfl rfl ?_;refine⟨rfl,rfl,rfl,?_⟩;exact⟨_,_,_,(af.aX 3 2001 rfl).trans ((af.aX 4 2002 rfl).trans (af.aX 5 2003 rfl)),rfl,rfl,ac,rfl⟩
theorem ad0 (s:bL) (aE:gB s) (c:Nat) (H:c < s.t.length):Fn Tryz.prog 132 [ao 1001,ae (c:Int),.c (.one (.bI .nilFunc))] (dx s) [] (bS .u8 (fL s c none)) (dx s):=
 Fn.dV (adV s aE.z aE.eW c H fun h=>by
  rcases aE.slot c _ (oj H) with ap |ap |⟨h,ap,_,xs,hx,aq⟩
  .rw[ap] at h;cases h
  .rw[ap] at h;cases h
  .rw[ap];exact⟨xs,hx,by have:=(uF aE.z).2;omega⟩) rfl rfl
def zJ (s:bL) (a l k:Nat):List UInt8:=((fL s (bq (aN s) a l k).c none).take (bq (aN s) a l k).b).drop (bq (aN s) a l k).a
def xL (s:bL) (a l:Nat):Nat->List UInt8
 |0=>[]
 |k+1=>xL s a l k++zJ s a l k
def Kt (s:bL) (a l:Nat):List UInt8:=xL s a l (cO (aN s) a l)
abbrev ad1:a1:=[(3,ao 3),(9,ao 9)]
abbrev Ku (s:bL) (acc:List UInt8):ay:=dx s++[(3,.cells [.ptr 1001 0]),(9,.cells [.own 5002]),(5002,.row 5 .u8 acc)]
abbrev ad2 (s:bL) (acc:List UInt8):ay:=dx s++[(3,.cells [.ptr 1001 0]),(9,.cells [.own 33]),(33,.row 5 .u8 acc)]
theorem Rv {s:bL} (aE:gB s) {a l:Nat}: ∀k,(xL s a l k).length<=k*128
 |0=>ap0 _
 |k+1=>by
  have h:=Rv aE (a:=a) (l:=l) k
  have G:(zJ s a l k).length<=128:=by
   unfold zJ;rw[at1,ap8]
   have al:(bq (aN s) a l k).b<=128:=by
    unfold bq;simp only;have:=(uF aE.z).2;omega
   omega
  show(xL s a l k++zJ s a l k).length<=_;rw[ap1];omega
set_option maxHeartbeats 1000000 in
theorem Rw (s:bL) (aE:gB s) (a l:Nat) (aw:eh s a l=0):Fn Tryz.prog 80 [ao 1001,ae (a:Int),ae (l:Int)] (dx s) [] (.ce [.one (.d (.ck .u8 (Kt s a l))),dw 0]) (dx s):=by
 have d2:=sk aE.z
 have eB:(a:Int)+(l:Int)<=(hT s:Nat):=by
  unfold eh at aw
  split at aw
  .cases aw
  .split at aw
   .cases aw
   .omega
 have xM:hT s<=2048:=Nat.mul_le_mul aE.eW (ko aE.z).2;refine aW [4,5] Tryz.func80 rfl rfl rfl rfl ?_;refine⟨rfl,au (wb s aE a l) ?_⟩;rw[aw];refine da ?_;refine bz [5] (aH) ?_;refine⟨rfl,bz [] ((af.vG 9 0 5002 5 .u8 rfl rfl rfl).trans (cG [(1,ae (a:Int)),(2,ae (l:Int)),(3,ao 3),(9,ao 9)] (Ku s []))) ?_⟩;refine au (zI s a l) ?_;refine bt.le (cG [(21,.c (.one (.cT 174 [.p 2001 0,.p 2002 0,.p 2003 0]))),(3,ao 3),(9,ao 9)] (qk a l++Ku s [])) ?_;refine bt.range eN [] (pl:=[22]) rfl au8 au8 au8 au8 [1001,1002,1003,1004,3,9] _ ad1 (qk a l) (fun k:Nat=>Ku s (xL s a l k)) 1001 0 (cO (aN s) a l) (fun k aD dU=>k < cO (aN s) a l/\aD=[qj (bq (aN s) a l k)]/\dU=k+1) rfl (by exact ac) rfl rfl ?_ ?_ ?_
 .rintro k aD dU ⟨ab,rfl,rfl⟩;obtain⟨dY,cR,dG,dL⟩:=ts d2 ab
  have H:(bq (aN s) a l k).c < s.t.length:=by
   have e:hT s*16=s.t.length*aN s:=by unfold hT aN;rw[Nat.mul_assoc,Nat.mul_comm (2 ^s.z) 16]
   have E:(bq (aN s) a l k).c*aN s < s.t.length*aN s:=by omega
   exact Nat.lt_of_mul_lt_mul_right E
  have dJ:=xI aE H none;have b6:=Rv aE (a:=a) (l:=l) k
  have ro:k<=3000:=by
   have E:=(xJ (a:=a) (l:=l) (k:=k) d2).2 ab;rcases d2 with e |e |e |e <;>rw[e] at E <;>omega
  have m1:(0:Int)<=((bq (aN s) a l k).a:Int)/\((bq (aN s) a l k).a:Int)<=((bq (aN s) a l k).b:Int)/\((bq (aN s) a l k).b:Int)<=(((fL s (bq (aN s) a l k).c none).length:Nat):Int):=by omega
  have m2:(xL s a l k).length+(((fL s (bq (aN s) a l k).c none).take (bq (aN s) a l k).b).drop (bq (aN s) a l k).a).length<=4294967296:=by
   rw[at1,ap8];omega
  have ad3:=ad0 s aE _ H;refine⟨rfl,rfl,rfl,rfl,au ad3 ?_⟩;refine⟨m1,m2,rfl,rfl,?_⟩;exact⟨rfl,(cG [] (ad2 s (xL s a l (k+1)))).trans (af.aX 33 5002 rfl)⟩
 .intro y fT rp aC;exact zH y (aN s) a l d2 au5 au5 fT (fun k=>rp _ _ _ k k (Fn.qh _ (qi s aE.z) rfl rfl) rfl rfl) (fun k ab=>aC k _ (k+1) ⟨ab,rfl,rfl⟩)
 .refine⟨_,_,_,af.dV 5002 rfl,rfl,ac,ac,rfl⟩
theorem ad4 (s:bL) (aE:gB s) (a l:Int) (aw:eh s a l≠0):Fn Tryz.prog 80 [ao 1001,ae a,ae l] (dx s) [] (.ce [.one .dD,dw (eh s a l)]) (dx s):=by
 refine aW [] Tryz.func80 rfl rfl rfl rfl ?_;refine⟨rfl,au (wb s aE a l) ?_⟩;refine⟨fun _=>?_,fun h=>absurd (show eh s a l=0 by have h:(!decide (eh s a l=0))=false:=h;simpa using h) aw⟩;exact aT aH rfl ac ac rfl
theorem sm {s:bL} (aE:gB s) {a l:Nat} (eB:a+l<=hT s) {k:Nat} (ab:k < cO (aN s) a l):(bq (aN s) a l k).c < s.t.length/\k<=3000:=by
 have d2:=sk aE.z;have xM:hT s<=2048:=Nat.mul_le_mul aE.eW (ko aE.z).2;obtain⟨dY,cR,dG,dL⟩:=ts d2 ab;refine⟨?_,?_⟩
 .have e:hT s*16=s.t.length*aN s:=by unfold hT aN;rw[Nat.mul_assoc,Nat.mul_comm (2 ^s.z) 16]
  have E:(bq (aN s) a l k).c*aN s < s.t.length*aN s:=by omega
  exact Nat.lt_of_mul_lt_mul_right E
 .have E:=(xJ (a:=a) (l:=l) (k:=k) d2).2 ab;rcases d2 with e |e |e |e <;>rw[e] at E <;>omega
theorem sn {s:bL} {a l:Nat} (aw:eh s a l=0):a+l<=hT s:=by
 unfold eh at aw
 split at aw
 .cases aw
 .split at aw
  .cases aw
  .omega
def h5 (s:bL) (a l:Nat):Nat->Nat
 |0=>0
 |k+1=>h5 s a l k+(if hs s (bq (aN s) a l k).c=true then 1 else 0)
def tu (bs:List UInt8) (p:mJ):List UInt8:=(bs.take (p.at_+p.b - p.a)).drop p.at_
def i0 (s:bL) (a l:Nat) (bs:List UInt8) (y:Nat->List UInt8):Nat->bL
 |0=>s
 |k+1=>xH (i0 s a l bs y k) (bq (aN s) a l k) (tu bs (bq (aN s) a l k)) (y (bq (aN s) a l k).c)
theorem ad5 (s:bL) (a l k:Nat):h5 s a l k<=k:=by
 induction k with
 |zero=>exact ap0 _
 |succ k br=>
  show h5 s a l k+_<=k+1
  split <;>omega
abbrev Kv (s:bL) (R:bo->bh) (bs:List UInt8) (b1 b2:Nat) (n:Nat):ay:=fX s R++[(4,.cells [.ptr 1001 0]),(6,.cells [.d (.ck .u8 bs)]),(7,.cells [.d (.fn (139,[b1,b2]))]),(11,.cells [.d (.int .i64 (n:Int))])]
abbrev Cn (s:bL) (R:bo->bh) (bs:List UInt8) (b1 b2:Nat):ay:=fX s R++[(4,.cells [.ptr 1001 0]),(6,.cells [.d (.ck .u8 bs)]),(7,.cells [.d (.fn (139,[b1,b2]))])]
abbrev Kw (a l:Nat):a1:=[(1,ae (a:Int)),(4,ao 4),(6,ao 6),(7,ao 7),(9,ae (l:Int))]
abbrev Kx (a l:Nat):a1:=[(1,ae (a:Int)),(4,ao 4),(6,ao 6),(7,ao 7),(9,ae (l:Int)),(11,ao 11)]
set_option maxHeartbeats 1000000 in
theorem ad6 (s:bL) (R:bo->bh) (b1 b2:Nat) (aE:gB s) (a l:Nat) (bs:List UInt8) (hb:bs.length=16*l) (aw:eh s a l=0) (y:Nat->List UInt8) (r:Int) (s':bL) (e4:d3 s.l < h5 s a l (cO (aN s) a l)->r=120/\s'=s) (Ky:h5 s a l (cO (aN s) a l)<=d3 s.l->r=0/\s'=i0 s a l bs y (cO (aN s) a l))
  (eu:h5 s a l (cO (aN s) a l)<=d3 s.l-> ∀k,k < cO (aN s) a l->Fn Tryz.prog 142 [ao 1001,qj (bq (aN s) a l k),bS .u8 (tu bs (bq (aN s) a l k)),nb b1 b2] (fX (i0 s a l bs y k) R) [] gI (fX (i0 s a l bs y (k+1)) R)) (zK:h5 s a l (cO (aN s) a l)<=d3 s.l-> ∀k,k<=cO (aN s) a l->(i0 s a l bs y k).z=s.z):
  Fn Tryz.prog 88 [ao 1001,ae (a:Int),bS .u8 bs,nb b1 b2] (fX s R) [] (ae r) (fX s' R):=by
 have d2:=sk aE.z;have eB:=sn aw;have xM:hT s<=2048:=Nat.mul_le_mul aE.eW (ko aE.z).2;have aV:((bs.length:Nat):Int)/16=(l:Int):=by omega
 have aF:((bs.length:Nat):Int) % 16=0:=by omega
 refine aW [4,7,8,12,14,17] Tryz.func88 rfl rfl rfl rfl ?_;refine⟨rfl,rfl,rfl,?_⟩;have m1:(0:Int)<=((bs.length:Nat):Int)/\(0:Int) < 16:=by omega
 have m2:cY (((bs.length:Nat):Int)/16):=by omega
 have m3:cY (((bs.length:Nat):Int) % 16):=by omega
 refine⟨m1,m2,m1,m3,?_⟩
 refine⟨fun h=>(by
  have h:(!decide ((((bs.length:Nat):Int)) % 16=0))=true:=h;rw[aq2 aF] at h
  cases h),fun _=>?_⟩
 refine bz [7] (af.sub (K':=[(1,ae (a:Int)),(4,ao 4),(6,ao 6),(7,ao 7),(9,ae (l:Int))]) (B':=Cn s R bs b1 b2) ⟨rfl,rfl,rfl,rfl,aV,trivial⟩ ac) ?_;refine au (wb s aE a l) ?_;rw[aw];refine da ?_;refine bz [8] (aH) ?_;refine⟨rfl,bz [] (cG (Kx a l) (Kv s R bs b1 b2 0)) ?_⟩;refine au (zI s a l) ?_;refine bt.le (cG ((31,.c (.one (.cT 174 [.p 2001 0,.p 2002 0,.p 2003 0])))::Kx a l) (qk a l++Kv s R bs b1 b2 0)) ?_;refine bt.range eN [] (pl:=[32]) rfl au8 au8 au8 au8 [1001,1002,1003,1004,9000,4,6,7,11] _ (Kx a l) (qk a l) (fun k:Nat=>Kv s R bs b1 b2 (h5 s a l k)) 1001 0 (cO (aN s) a l) (fun k aD dU=>k < cO (aN s) a l/\aD=[qj (bq (aN s) a l k)]/\dU=k+1) rfl (by exact ac) rfl rfl ?_ ?_ ?_
 .rintro k aD dU ⟨ab,rfl,rfl⟩;obtain⟨H,ro⟩:=sm aE eB ab;have Kz:=ad5 s a l k;refine⟨rfl,rfl,rfl,rfl,au (Kq s aE.eW _ H) ?_⟩;refine⟨fun hn=>?_,fun hn=>?_⟩
  .have e:((h5 s a l k:Nat):Int)+1=((h5 s a l (k+1):Nat):Int):=by
    show _=((h5 s a l k+_:Nat):Int);rw[if_pos hn];omega
   have jc:cY (((h5 s a l k:Nat):Int)+1):=by omega
   refine⟨jc,?_⟩;exact⟨rfl,af.sub trivial ⟨rfl,rfl,rfl,rfl,rfl,rfl,rfl,rfl,by rw[<-e];rfl,trivial⟩⟩
  .have e:h5 s a l (k+1)=h5 s a l k:=by
    show h5 s a l k+_=_;rw[if_neg (by rw[hn];decide)];exact Nat.add_zero _
   exact⟨rfl,af.sub trivial ⟨rfl,rfl,rfl,rfl,rfl,rfl,rfl,rfl,by rw[e];rfl,trivial⟩⟩
 .intro y fT rp aC;exact zH y (aN s) a l d2 au5 au5 fT (fun k=>rp _ _ _ k k (Fn.qh [(9000,.co 1001 R),(4,.cells [.ptr 1001 0]),(6,.cells [.d (.ck .u8 bs)]),(7,.cells [.d (.fn (139,[b1,b2]))]),(11,.cells [.d (.int .i64 (h5 s a l k:Int))])] (qi s aE.z) rfl rfl) rfl rfl) (fun k ab=>aC k _ (k+1) ⟨ab,rfl,rfl⟩)
 .have aR:d3 s.l<=512:=as9 (Kn _) aE.lc;refine bz [14,17] (aH) ?_;refine au (Rj s (by have:=aE.lc;omega)) ?_;refine⟨rfl,fun h=>?_,fun h=>?_⟩
  .have h:((d3 s.l:Nat):Int) < ((h5 s a l (cO (aN s) a l):Nat):Int):=gd h;obtain⟨rfl,rfl⟩:=e4 au5;exact aT aH rfl rfl ac rfl
  have h: ¬((d3 s.l:Nat):Int) < ((h5 s a l (cO (aN s) a l):Nat):Int):=mu h;have d0:h5 s a l (cO (aN s) a l)<=d3 s.l:=by omega
  obtain⟨rfl,rfl⟩:=Ky d0;have eu:=eu d0;have zK:=zK d0;refine bz [17] (cG (Kw a l) (Cn s R bs b1 b2)) ?_;refine au (zI s a l) ?_;refine bt.le (cG ((45,.c (.one (.cT 174 [.p 2001 0,.p 2002 0,.p 2003 0])))::Kw a l) (qk a l++Cn s R bs b1 b2)) ?_;refine bt.range eN [] (pl:=[46]) rfl au8 au8 au8 au8 [1001,1002,1003,1004,9000,4,6,7] _ (Kw a l) (qk a l) (fun k:Nat=>Cn (i0 s a l bs y k) R bs b1 b2) 1001 0 (cO (aN s) a l) (fun k aD dU=>k < cO (aN s) a l/\aD=[qj (bq (aN s) a l k)]/\dU=k+1) rfl (by exact ac) rfl rfl ?_ ?_ ?_
  .rintro k aD dU ⟨ab,rfl,rfl⟩;obtain⟨H,ro⟩:=sm aE eB ab;obtain⟨dY,cR,dG,dL⟩:=ts d2 ab;have eu:=eu k ab;have hw:=uF aE.z;refine⟨rfl,rfl,rfl,rfl,?_⟩
   have hx:tu bs (bq (aN s) a l k)=(bs.take (((bq (aN s) a l k).at_:Int)+((bq (aN s) a l k).b:Int) - ((bq (aN s) a l k).a:Int)).toNat).drop (((bq (aN s) a l k).at_:Int)).toNat:=by
    unfold tu;rw[show(((bq (aN s) a l k).at_:Int)+((bq (aN s) a l k).b:Int) - ((bq (aN s) a l k).a:Int)).toNat=(bq (aN s) a l k).at_+(bq (aN s) a l k).b - (bq (aN s) a l k).a by omega];rfl
   have jc:cY (((bq (aN s) a l k).at_:Int)+((bq (aN s) a l k).b:Int)):=by omega
   have tt:cY (((bq (aN s) a l k).at_:Int)+((bq (aN s) a l k).b:Int) - ((bq (aN s) a l k).a:Int)):=by omega
   have rq:(0:Int)<=((bq (aN s) a l k).at_:Int)/\((bq (aN s) a l k).at_:Int)<=((bq (aN s) a l k).at_:Int)+((bq (aN s) a l k).b:Int) - ((bq (aN s) a l k).a:Int)/\((bq (aN s) a l k).at_:Int)+((bq (aN s) a l k).b:Int) - ((bq (aN s) a l k).a:Int)<=((bs.length:Nat):Int):=by omega
   rw[hx] at eu;refine⟨jc,tt,rq,au eu ?_⟩;refine⟨rfl,?_⟩;exact⟨rfl,af.sub trivial ac⟩
  .intro xN fT rp aC
   have h:=zH xN (aN s) a l d2 au5 au5 (fun k=>fT (min k (cO (aN s) a l))) (fun k=>rp _ _ _ (min k (cO (aN s) a l)) (min k (cO (aN s) a l)) (by
    have O:=zK (min k (cO (aN s) a l)) (Nat.min_le_right _ _);have G:=qi (i0 s a l bs y (min k (cO (aN s) a l))) (by rw[O];exact aE.z);rw[show aN (i0 s a l bs y (min k (cO (aN s) a l)))=aN s from congrArg (fun b=>16*2 ^b) O] at G
    exact Fn.qh [(9000,.co 1001 R),(4,.cells [.ptr 1001 0]),(6,.cells [.d (.ck .u8 bs)]),(7,.cells [.d (.fn (139,[b1,b2]))])] G rfl rfl) rfl rfl) (fun k ab=>by
    have h:=aC k _ (k+1) ⟨ab,rfl,rfl⟩;rw[Nat.min_eq_left au5,Nat.min_eq_left au5];exact h)
   simp only[Nat.zero_min,Nat.min_self] at h;exact h
  .show bt _ _ _ _ _ _ _;refine bz [] (aH) ?_;exact aT aH rfl rfl ac rfl
theorem ad7 (s:bL) (R:bo->bh) (b1 b2:Nat) (a:Int) (bs:List UInt8) (h:bs.length % 16≠0) (aq:bs.length<=1000000000):Fn Tryz.prog 88 [ao 1001,ae a,bS .u8 bs,nb b1 b2] (fX s R) [] (ae 1) (fX s R):=by
 have aF: ¬((bs.length:Nat):Int) % 16=0:=by omega
 refine aW [] Tryz.func88 rfl rfl rfl rfl ?_;refine⟨rfl,rfl,rfl,?_⟩;have m1:(0:Int)<=((bs.length:Nat):Int)/\(0:Int) < 16:=by omega
 have m2:cY (((bs.length:Nat):Int)/16):=by omega
 have m3:cY (((bs.length:Nat):Int) % 16):=by omega
 refine⟨m1,m2,m1,m3,?_⟩
 refine⟨fun _=>?_,fun h=>(by
  have h:(!decide ((((bs.length:Nat):Int)) % 16=0))=false:=h;rw[ar8 aF] at h
  cases h)⟩
 exact aT aH rfl rfl ac rfl
theorem ad8 (s:bL) (R:bo->bh) (b1 b2:Nat) (aE:gB s) (a:Int) (l:Nat) (bs:List UInt8) (hb:bs.length=16*l) (aq:l<=100000000) (aw:eh s a l≠0):Fn Tryz.prog 88 [ao 1001,ae a,bS .u8 bs,nb b1 b2] (fX s R) [] (ae (eh s a l)) (fX s R):=by
 have aV:((bs.length:Nat):Int)/16=(l:Int):=by omega
 have aF:((bs.length:Nat):Int) % 16=0:=by omega
 refine aW [4] Tryz.func88 rfl rfl rfl rfl ?_;refine⟨rfl,rfl,rfl,?_⟩;have m1:(0:Int)<=((bs.length:Nat):Int)/\(0:Int) < 16:=by omega
 have m2:cY (((bs.length:Nat):Int)/16):=by omega
 have m3:cY (((bs.length:Nat):Int) % 16):=by omega
 refine⟨m1,m2,m1,m3,?_⟩
 refine⟨fun h=>(by
  have h:(!decide ((((bs.length:Nat):Int)) % 16=0))=true:=h;rw[aq2 aF] at h
  cases h),fun _=>?_⟩
 refine bz [] (af.sub (K':=[(1,ae a),(4,ao 4),(9,ae (l:Int))]) (B':=Cn s R bs b1 b2) ⟨rfl,rfl,aV,trivial⟩ ac) ?_;refine au (wb s aE a l) ?_;refine⟨fun _=>?_,fun h=>absurd (show eh s a l=0 by have h:(!decide (eh s a l=0))=false:=h;simpa using h) aw⟩;exact aT aH rfl rfl ac rfl
def jw (s:bL) (a l:Nat):Nat->bL
 |0=>s
 |k+1=>if(bq (aN s) a l k).b - (bq (aN s) a l k).a=aN s then rn (jw s a l k) (bq (aN s) a l k).c cD else jw s a l k
abbrev KA (s:bL):ay:=dx s++[(3,.cells [.ptr 1001 0])]
abbrev Rx:a1:=[(3,ao 3)]
set_option maxHeartbeats 1000000 in
theorem ad9 (s:bL) (aE:gB s) (a l:Nat) (aw:eh s a l=0) (eu: ∀k,k < cO (aN s) a l->Fn Tryz.prog 145 [ao 1001,ae ((bq (aN s) a l k).c:Int),.c (py cD)] (dx (jw s a l k)) [] gI (dx (rn (jw s a l k) (bq (aN s) a l k).c cD))) (zK: ∀k,k<=cO (aN s) a l->(jw s a l k).z=s.z):
  Fn Tryz.prog 92 [ao 1001,ae (a:Int),ae (l:Int)] (dx s) [] (ae 0) (dx (jw s a l (cO (aN s) a l))):=by
 have d2:=sk aE.z;have hw:=uF aE.z;have eB:=sn aw;have xM:hT s<=2048:=Nat.mul_le_mul aE.eW (ko aE.z).2;refine aW [4,8] Tryz.func92 rfl rfl rfl rfl ?_;refine⟨rfl,au (wb s aE a l) ?_⟩;rw[aw];refine da ?_;refine bz [8] (cG [(1,ae (a:Int)),(2,ae (l:Int)),(3,ao 3)] (KA s)) ?_;refine au (zI s a l) ?_;refine bt.le (cG ((19,.c (.one (.cT 174 [.p 2001 0,.p 2002 0,.p 2003 0])))::Rx) (qk a l++KA s)) ?_;refine bt.range eN [] (pl:=[20]) rfl au8 au8 au8 au8 [1001,1002,1003,1004,3] _ Rx (qk a l) (fun k:Nat=>KA (jw s a l k)) 1001 0 (cO (aN s) a l) (fun k aD dU=>k < cO (aN s) a l/\aD=[qj (bq (aN s) a l k)]/\dU=k+1) rfl (by exact ac) rfl rfl ?_ ?_ ?_
 .rintro k aD dU ⟨ab,rfl,rfl⟩;obtain⟨dY,cR,dG,dL⟩:=ts d2 ab;have eu:=eu k ab;have O:=zK k (Nat.le_of_lt ab);have G:=qi (jw s a l k) (by rw[O];exact aE.z);rw[show aN (jw s a l k)=aN s from congrArg (fun b=>16*2 ^b) O] at G;have jc:cY (((bq (aN s) a l k).b:Int) - ((bq (aN s) a l k).a:Int)):=by omega
  refine⟨rfl,rfl,rfl,rfl,jc,au G ?_⟩;refine⟨rfl,fun h=>?_,fun h=>?_⟩
  .have h:((bq (aN s) a l k).b:Int) - ((bq (aN s) a l k).a:Int)=((aN s:Nat):Int):=gd h;have e:jw s a l (k+1)=rn (jw s a l k) (bq (aN s) a l k).c cD:=if_pos au5;refine au (Fn.arg eu ⟨rfl,rfl,ac,trivial⟩) ?_;rw[e];exact⟨rfl,af.sub trivial ac⟩
  .have h: ¬((bq (aN s) a l k).b:Int) - ((bq (aN s) a l k).a:Int)=((aN s:Nat):Int):=mu h;have e:jw s a l (k+1)=jw s a l k:=if_neg au5;rw[e];exact⟨rfl,af.sub trivial ac⟩
 .intro xN fT rp aC
  have h:=zH xN (aN s) a l d2 au5 au5 (fun k=>fT (min k (cO (aN s) a l))) (fun k=>rp _ _ _ (min k (cO (aN s) a l)) (min k (cO (aN s) a l)) (by
   have O:=zK (min k (cO (aN s) a l)) (Nat.min_le_right _ _);have G:=qi (jw s a l (min k (cO (aN s) a l))) (by rw[O];exact aE.z);rw[show aN (jw s a l (min k (cO (aN s) a l)))=aN s from congrArg (fun b=>16*2 ^b) O] at G
   exact Fn.qh [(3,.cells [.ptr 1001 0])] G rfl rfl) rfl rfl) (fun k ab=>by
   have h:=aC k _ (k+1) ⟨ab,rfl,rfl⟩;rw[Nat.min_eq_left au5,Nat.min_eq_left au5];exact h)
  simp only[Nat.zero_min,Nat.min_self] at h;exact h
 .show bt _ _ _ _ _ _ _;refine bz [] (aH) ?_;exact aT aH rfl rfl ac rfl
theorem ad' (s:bL) (aE:gB s) (a l:Int) (aw:eh s a l≠0):Fn Tryz.prog 92 [ao 1001,ae a,ae l] (dx s) [] (ae (eh s a l)) (dx s):=by
 refine aW [] Tryz.func92 rfl rfl rfl rfl ?_;refine⟨rfl,au (wb s aE a l) ?_⟩;refine⟨fun _=>?_,fun h=>absurd (show eh s a l=0 by have h:(!decide (eh s a l=0))=false:=h;simpa using h) aw⟩;exact aT aH rfl rfl ac rfl
end
section
def ld (s:bL) (p:mJ):Bool:=decide (p.b - p.a=aN s)
theorem Ry (s:bL) (O:s.z<=3) (p:mJ) (E:p.a<=p.b) (G:p.b<=1000):Fn Tryz.prog 143 [qj p,ao 4] (dx s++[(4,.cells [.ptr 1001 0])]) [] (fI (ld s p)) (dx s++[(4,.cells [.ptr 1001 0])]):=by
 have jc:cY ((p.b:Int) - (p.a:Int)):=by omega
 refine aW [] Tryz.func143 rfl rfl rfl rfl ?_;refine⟨rfl,jc,au (qi s O) ?_⟩;refine⟨rfl,_,_,_,aH,rfl,?_,ac,rfl⟩;show decide ((p.b:Int) - (p.a:Int)=((aN s:Nat):Int))=ld s p;unfold ld;exact decide_eq_decide.2 au5
def nX (s:bL) (p:mJ):Bool:= !ld s p&&(decide ((s.t.getD p.c cD).1≠2)&&hs s p.c)
def ht (s:bL) (a l:Nat):Nat->Nat
 |0=>0
 |k+1=>ht s a l k+(if nX s (bq (aN s) a l k)=true then 1 else 0)
theorem aea (s:bL) (a l k:Nat):ht s a l k<=k:=by
 induction k with
 |zero=>exact ap0 _
 |succ k br=>
  show ht s a l k+_<=k+1
  split <;>omega
abbrev zL:e7:=((2:Int),(0:Int),false)
abbrev Co (n:Nat):List UInt8:=List.replicate n (0:UInt8)
def xO (s:bL) (p:mJ) (y:List UInt8):bL:=if ld s p=true then rn s p.c zL else if(s.t.getD p.c cD).1=2 then s else xH s p (Co (p.b - p.a)) y
def e1 (s:bL) (a l:Nat) (y:Nat->List UInt8):Nat->bL
 |0=>s
 |k+1=>xO (e1 s a l y k) (bq (aN s) a l k) (y (bq (aN s) a l k).c)
abbrev xP (s:bL) (R:bo->bh) (b1 b2:Nat):ay:=fX s R++[(4,.cells [.ptr 1001 0]),(7,.cells [.d (.fn (139,[b1,b2]))]),(10,.cells [.cT 143 [.p 4 0]])]
abbrev FK (s:bL) (R:bo->bh) (b1 b2:Nat) (n:Nat):ay:=fX s R++[(4,.cells [.ptr 1001 0]),(7,.cells [.d (.fn (139,[b1,b2]))]),(10,.cells [.cT 143 [.p 4 0]]),(11,.cells [.d (.int .i64 (n:Int))])]
abbrev FL (a l:Nat):a1:=[(1,ae (a:Int)),(2,ae (l:Int)),(4,ao 4),(7,ao 7),(10,ao 10)]
abbrev aeb:a1:=[(1000000+96,.undef),(1000000+140,.undef)]
abbrev KB (a l:Nat):a1:=aeb++[(1,ae (a:Int)),(2,ae (l:Int)),(4,ao 4),(7,ao 7),(10,ao 10),(11,ao 11)]
theorem zM (s:bL) (aq:s.t.length<=256) (c:Nat) (H:c < s.t.length):Fn Tryz.prog 96 [ao 1001,ae (c:Int)] (dx s) [] (ae (s.t.getD c cD).1) (dx s):=by
 have h:=adT s aq c H;have e:s.t[c]=s.t.getD c cD:=by rw[ap9,oj H];rfl
 rwa[e] at h
set_option maxHeartbeats 1000000 in
theorem aec (s:bL) (R:bo->bh) (b1 b2:Nat) (aE:gB s) (a l:Nat) (aw:eh s a l=0) (y:Nat->List UInt8) (r:Int) (s':bL) (e4:d3 s.l < ht s a l (cO (aN s) a l)->r=120/\s'=s) (Ky:ht s a l (cO (aN s) a l)<=d3 s.l->r=0/\s'=e1 s a l y (cO (aN s) a l))
  (FM:ht s a l (cO (aN s) a l)<=d3 s.l-> ∀k,k<=cO (aN s) a l->gB (e1 s a l y k)/\(e1 s a l y k).z=s.z/\(e1 s a l y k).t.length=s.t.length)
  (gN:ht s a l (cO (aN s) a l)<=d3 s.l-> ∀k,k < cO (aN s) a l->ld s (bq (aN s) a l k)=true->Fn Tryz.prog 145 [ao 1001,ae ((bq (aN s) a l k).c:Int),.c (py zL)] (dx (e1 s a l y k)) [] gI (dx (e1 s a l y (k+1))))
  (rr:ht s a l (cO (aN s) a l)<=d3 s.l-> ∀k,k < cO (aN s) a l->ld s (bq (aN s) a l k)=false->((e1 s a l y k).t.getD (bq (aN s) a l k).c cD).1≠2->Fn Tryz.prog 142 [ao 1001,qj (bq (aN s) a l k),bS .u8 (Co ((bq (aN s) a l k).b - (bq (aN s) a l k).a)),nb b1 b2] (fX (e1 s a l y k) R) [] gI (fX (e1 s a l y (k+1)) R)):
  Fn Tryz.prog 90 [ao 1001,ae (a:Int),ae (l:Int),nb b1 b2] (fX s R) [] (ae r) (fX s' R):=by
 have d2:=sk aE.z;have hw:=uF aE.z;have eB:=sn aw;have xM:hT s<=2048:=Nat.mul_le_mul aE.eW (ko aE.z).2;refine aW [4,5,6,10,12,18] Tryz.func90 rfl rfl rfl rfl ?_;refine⟨rfl,rfl,au (wb s aE a l) ?_⟩;rw[aw];refine da ?_;refine bz [5,6] (aH) ?_;refine⟨rfl,bz [6] (cG (FL a l) (xP s R b1 b2)) ?_⟩;refine⟨rfl,bt.m5 140 au6 (bt.m5 96 au6 ?_)⟩;refine bz [] (af.sub (K':=KB a l) (B':=FK s R b1 b2 0) ⟨trivial,trivial,rfl,rfl,rfl,rfl,rfl,rfl,trivial⟩ ac) ?_;refine au (zI s a l) ?_;refine bt.le (af.sub (K':=(25,.c (.one (.cT 174 [.p 2001 0,.p 2002 0,.p 2003 0])))::KB a l) (B':=qk a l++FK s R b1 b2 0) ⟨rfl,trivial,trivial,rfl,rfl,rfl,rfl,rfl,rfl,trivial⟩ ac) ?_;refine bt.range eN [9] (pl:=[26]) rfl au8 au8 au8 au8 [1001,1002,1003,1004,9000,4,7,10,11] _ (KB a l) (qk a l) (fun k:Nat=>FK s R b1 b2 (ht s a l k)) 1001 0 (cO (aN s) a l) (fun k aD dU=>k < cO (aN s) a l/\aD=[qj (bq (aN s) a l k)]/\dU=k+1) rfl (by exact⟨trivial,trivial,rfl,rfl,rfl,rfl,rfl,rfl,trivial⟩) rfl rfl ?_ ?_ ?_
 .rintro k aD dU ⟨ab,rfl,rfl⟩;obtain⟨H,ro⟩:=sm aE eB ab;obtain⟨dY,cR,dG,dL⟩:=ts d2 ab;have Kz:=aea s a l k
  have bG:nX s (bq (aN s) a l k)=false->ht s a l (k+1)=ht s a l k:=fun hn=>by
   show ht s a l k+_=_;rw[if_neg (by rw[hn];decide)];exact Nat.add_zero _
  have aj:nX s (bq (aN s) a l k)=true->((ht s a l k:Nat):Int)+1=((ht s a l (k+1):Nat):Int):=fun hn=>by
   show _=((ht s a l k+_:Nat):Int);rw[if_pos hn];omega
  have jc:cY (((ht s a l k:Nat):Int)+1):=by omega
  have FN:=Ry s aE.z (bq (aN s) a l k) dY au5;refine⟨rfl,rfl,rfl,rfl,au FN ?_⟩;refine⟨fun hn=>?_,fun hn=>?_⟩
  .have hn:ld s (bq (aN s) a l k)=false:=by simpa using hn
   refine vZ rfl rfl rfl (zM s aE.eW _ H) ?_;refine⟨fun hp=>?_,fun hp=>?_⟩
   .have hp: ¬(s.t.getD (bq (aN s) a l k).c cD).1=2:=by
     have hp:(!decide ((s.t.getD (bq (aN s) a l k).c cD).1=2))=true:=hp;simpa using hp
    refine vZ rfl rfl rfl (Kq s aE.eW _ H) ?_;refine⟨fun E9=>?_,fun E9=>?_⟩
    .have aR:nX s (bq (aN s) a l k)=true:=by
      unfold nX;rw[hn,aq2 hp,E9];rfl
     refine bz [] (cG [(11,ao 11)] (FK s R b1 b2 (ht s a l k))) ?_;refine⟨jc,?_⟩;exact⟨rfl,af.sub trivial ⟨rfl,rfl,rfl,rfl,rfl,rfl,rfl,rfl,by rw[<-aj aR];rfl,trivial⟩⟩
    .have aR:nX s (bq (aN s) a l k)=false:=by
      unfold nX;rw[E9,Bool.and_false,Bool.and_false]
     exact⟨rfl,af.sub trivial ⟨rfl,rfl,rfl,rfl,rfl,rfl,rfl,rfl,by rw[bG aR];rfl,trivial⟩⟩
   .have hp:(s.t.getD (bq (aN s) a l k).c cD).1=2:=by
     have hp:(!decide ((s.t.getD (bq (aN s) a l k).c cD).1=2))=false:=hp;simpa using hp
    have aR:nX s (bq (aN s) a l k)=false:=by
     unfold nX;rw[ar8 (fun h=>h hp),Bool.false_and,Bool.and_false]
    exact⟨rfl,af.sub trivial ⟨rfl,rfl,rfl,rfl,rfl,rfl,rfl,rfl,by rw[bG aR];rfl,trivial⟩⟩
  .have hn:ld s (bq (aN s) a l k)=true:=by simpa using hn
   have aR:nX s (bq (aN s) a l k)=false:=by
    unfold nX;rw[hn];rfl
   exact⟨rfl,af.sub trivial ⟨rfl,rfl,rfl,rfl,rfl,rfl,rfl,rfl,by rw[bG aR];rfl,trivial⟩⟩
 .intro xN fT rp aC;exact zH xN (aN s) a l d2 au5 au5 fT (fun k=>rp _ _ _ k k (Fn.qh [(9000,.co 1001 R),(4,.cells [.ptr 1001 0]),(7,.cells [.d (.fn (139,[b1,b2]))]),(10,.cells [.cT 143 [.p 4 0]]),(11,.cells [.d (.int .i64 (ht s a l k:Int))])] (qi s aE.z) rfl rfl) rfl rfl) (fun k ab=>aC k _ (k+1) ⟨ab,rfl,rfl⟩)
 .have aR:d3 s.l<=512:=as9 (Kn _) aE.lc;refine bz [12,18] (aH) ?_;refine au (Rj s (by have:=aE.lc;omega)) ?_;refine⟨rfl,fun h=>?_,fun h=>?_⟩
  .have h:((d3 s.l:Nat):Int) < ((ht s a l (cO (aN s) a l):Nat):Int):=gd h;obtain⟨rfl,rfl⟩:=e4 au5;exact aT aH rfl rfl ac rfl
  have h: ¬((d3 s.l:Nat):Int) < ((ht s a l (cO (aN s) a l):Nat):Int):=mu h;have d0:ht s a l (cO (aN s) a l)<=d3 s.l:=by omega
  obtain⟨rfl,rfl⟩:=Ky d0;have FM:=FM d0;have gN:=gN d0;have rr:=rr d0;refine bz [18] (cG (FL a l) (xP s R b1 b2)) ?_;refine au (zI s a l) ?_;refine bt.le (cG ((52,.c (.one (.cT 174 [.p 2001 0,.p 2002 0,.p 2003 0])))::FL a l) (qk a l++xP s R b1 b2)) ?_;refine bt.range eN [15,16,17] (pl:=[53]) rfl au8 au8 au8 au8 [1001,1002,1003,1004,9000,4,7,10] _ (FL a l) (qk a l) (fun k:Nat=>xP (e1 s a l y k) R b1 b2) 1001 0 (cO (aN s) a l) (fun k aD dU=>k < cO (aN s) a l/\aD=[qj (bq (aN s) a l k)]/\dU=k+1) rfl (by exact ac) rfl rfl ?_ ?_ ?_
  .rintro k aD dU ⟨ab,rfl,rfl⟩;obtain⟨H,ro⟩:=sm aE eB ab;obtain⟨dY,cR,dG,dL⟩:=ts d2 ab;obtain⟨fg,g0,pB⟩:=FM k (Nat.le_of_lt ab);have gN:=gN k ab;have rr:=rr k ab;have Rz:aN (e1 s a l y k)=aN s:=congrArg (fun b=>16*2 ^b) g0;have FN:=Ry (e1 s a l y k) fg.z (bq (aN s) a l k) dY au5;rw[show ld (e1 s a l y k) (bq (aN s) a l k)=ld s (bq (aN s) a l k) by unfold ld;rw[Rz]] at FN
   have aed:ld s (bq (aN s) a l k)=false->ld (e1 s a l y k) (bq (aN s) a l k)=false:=fun h=>by
    unfold ld;rw[Rz];exact h
   have aee:e1 s a l y (k+1)=xO (e1 s a l y k) (bq (aN s) a l k) (y (bq (aN s) a l k).c):=rfl;refine⟨rfl,rfl,rfl,rfl,au FN ?_⟩;refine⟨fun hn=>?_,fun hn=>?_⟩
   .have gN:=gN hn;refine bz [] (cG [(4,ao 4),(13,ao 13)] ((13,.cells (uG (bq (aN s) a l k)))::xP (e1 s a l y k) R b1 b2)) ?_;refine au (Fn.arg gN ⟨rfl,rfl,ac,trivial⟩) ?_;exact⟨rfl,af.sub trivial ac⟩
   .show bt _ _ _ _ _ _ _;refine bz [17] (cG [(4,ao 4),(7,ao 7),(13,ao 13)] ((13,.cells (uG (bq (aN s) a l k)))::xP (e1 s a l y k) R b1 b2)) ?_;refine au (zM (e1 s a l y k) fg.eW _ (by rw[pB];exact H)) ?_;refine⟨fun hp=>?_,fun hp=>?_⟩
    .have hp: ¬((e1 s a l y k).t.getD (bq (aN s) a l k).c cD).1=2:=by
      have hp:(!decide (((e1 s a l y k).t.getD (bq (aN s) a l k).c cD).1=2))=true:=hp;simpa using hp
     have rr:=rr hn hp;have jc:cY (((bq (aN s) a l k).b:Int) - ((bq (aN s) a l k).a:Int)):=by omega
     have tt:((bq (aN s) a l k).b:Int) - ((bq (aN s) a l k).a:Int)=((bq (aN s) a l k).b:Int) - ((bq (aN s) a l k).a:Int)/\(0:Int)<=((bq (aN s) a l k).b:Int) - ((bq (aN s) a l k).a:Int)/\((bq (aN s) a l k).b:Int) - ((bq (aN s) a l k).a:Int)<=4294967296:=by omega
     refine bz [] (cG [(4,ao 4),(7,ao 7),(13,ao 13)] ((13,.cells (uG (bq (aN s) a l k)))::xP (e1 s a l y k) R b1 b2)) ?_;refine⟨jc,tt,rfl,?_⟩
     have hx:Co ((bq (aN s) a l k).b - (bq (aN s) a l k).a)=List.replicate (((bq (aN s) a l k).b:Int) - ((bq (aN s) a l k).a:Int)).toNat (0:UInt8):=by
      rw[show(((bq (aN s) a l k).b:Int) - ((bq (aN s) a l k).a:Int)).toNat=(bq (aN s) a l k).b - (bq (aN s) a l k).a by omega]
     rw[hx] at rr;refine au (Fn.own (d:=76) (args:=[ao 1001,qj (bq (aN s) a l k),eM 76,nb b1 b2]) (e:=5) (u:=.u8) (xs:=List.replicate (((bq (aN s) a l k).b:Int) - ((bq (aN s) a l k).a:Int)).toNat (0:UInt8)) rr rfl) ?_;refine⟨rfl,?_⟩;exact⟨rfl,af.sub trivial ac⟩
    .have hp:((e1 s a l y k).t.getD (bq (aN s) a l k).c cD).1=2:=by
      have hp:(!decide (((e1 s a l y k).t.getD (bq (aN s) a l k).c cD).1=2))=false:=hp;simpa using hp
     have e:e1 s a l y (k+1)=e1 s a l y k:=by
      rw[aee];unfold xO;rw[aed hn,if_neg au6,if_pos hp]
     rw[e];exact⟨rfl,af.sub trivial ac⟩
  .intro xN fT rp aC
   have h:=zH xN (aN s) a l d2 au5 au5 (fun k=>fT (min k (cO (aN s) a l))) (fun k=>rp _ _ _ (min k (cO (aN s) a l)) (min k (cO (aN s) a l)) (by
    obtain⟨fg,O,pB⟩:=FM (min k (cO (aN s) a l)) (Nat.min_le_right _ _);have G:=qi (e1 s a l y (min k (cO (aN s) a l))) (by rw[O];exact aE.z);rw[show aN (e1 s a l y (min k (cO (aN s) a l)))=aN s from congrArg (fun b=>16*2 ^b) O] at G
    exact Fn.qh [(9000,.co 1001 R),(4,.cells [.ptr 1001 0]),(7,.cells [.d (.fn (139,[b1,b2]))]),(10,.cells [.cT 143 [.p 4 0]])] G rfl rfl) rfl rfl) (fun k ab=>by
    have h:=aC k _ (k+1) ⟨ab,rfl,rfl⟩;rw[Nat.min_eq_left au5,Nat.min_eq_left au5];exact h)
   simp only[Nat.zero_min,Nat.min_self] at h;exact h
  .show bt _ _ _ _ _ _ _;refine bz [] (aH) ?_;exact aT aH rfl rfl ac rfl
theorem RA {l:List Int} {h:Nat} {n m:Int} (aq:l[h]? =some n):d3 (l.set h m)+(if n=0 then 1 else 0)=d3 l+(if m=0 then 1 else 0):=by
 induction l generalizing h with
 |nil=>simp at aq
 |cons x l br=>
  match h with
  |0=>
   simp only[aq5,ap4] at aq;subst aq;simp only[List.set_cons_zero];unfold d3;rw[List.filter_cons,List.filter_cons]
   by_cases E:x=0 <;>by_cases G:m=0 <;>simp[E,G] <;>omega
  |h+1=>
   have aq:l[h]? =some n:=by simpa using aq
   have:=br aq;simp only[List.set_cons_succ];unfold d3 at*;rw[List.filter_cons,List.filter_cons]
   by_cases E:x=0 <;>simp[E] <;>omega
theorem aef {xs ys:List UInt8} {a n:Nat} (E:a+n<=xs.length) (G:ys.length=n):(laid xs a n ys).length=xs.length:=by
 unfold laid;rw[ap1,ap1,ap8,ap8,at1];omega
structure Cp (s s':bL) (p:mJ) (bs y:List UInt8):Prop where
 ok:gB s'
 z:s'.z=s.z
 eW:s'.t.length=s.t.length
 lc:s'.l.length=s.l.length
 kb: ∀c,c≠p.c->s'.t[c]? =s.t[c]? /\ ∀aB,fL s' c aB=fL s c aB
 KC: ∀aB,fL s' p.c aB=laid (fL s p.c (some y)) p.a (p.b - p.a) bs
 jX:hs s' p.c=false
 kp:d3 s'.l+(if hs s p.c=true then 1 else 0)=d3 s.l
theorem aeg {s:bL} {c:Nat} {h:Int} {xs:List UInt8} (E:s.t[c]? =some ((1:Int),h,true)) (G:s.f h=some xs) (aB:Option (List UInt8)):fL s c aB=xs:=by
 unfold fL;rw[E];simp only[if_pos,G,Option.getD_some]
theorem KD {s s':bL} {c:Nat} (O:s'.z=s.z) (cr:s'.t[c]? =s.t[c]?) (hf: ∀h,s.t[c]? =some ((1:Int),h,true)->s'.f h=s.f h) (aE:gB s) (aB:Option (List UInt8)):fL s' c aB=fL s c aB:=by
 have aR:kp s'=kp s:=by unfold kp aN;rw[O]
 have hw:aN s'=aN s:=by unfold aN;rw[O]
 unfold fL;rw[cr]
 cases e:s.t[c]? with
 |none=>rfl
 |some q=>
  simp only;rcases aE.slot c q e with h |h |⟨h,ap,_⟩
  .rw[h,aR,hw];rfl
  .rw[h,aR];rfl
  .rw[ap] at e;rw[ap,hf _ e,aR,hw]
theorem aeh {s:bL} {c:Nat} {h:Int} (E:s.t[c]? =some ((1:Int),h,true)):hs s c=false:=by
 unfold hs v8;rw[zF E];rfl
theorem aei {s:bL} (aE:gB s) {c:Nat} (H:c < s.t.length) (y:List UInt8) (aR:hs s c=true->0 < d3 s.l):
  (mK s c y).z=s.z/\(mK s c y).l.length=s.l.length/\(∀d,d≠c->(mK s c y).t[d]? =s.t[d]? /\ ∀h,s.t[d]? =some ((1:Int),h,true)->(mK s c y).f h=s.f h)/\d3 (mK s c y).l+(if hs s c=true then 1 else 0)=d3 s.l:=by
 unfold mK
 by_cases hn:hs s c=true
 .rw[if_pos hn,if_pos hn];obtain⟨kj,qZ⟩:=Kr (aR hn);refine⟨rfl,List.length_set,fun d J=>⟨List.getElem?_set_ne (Ne.symm J),fun h bl=>?_⟩,?_⟩
  .show(if h=(hS s.l:Int) then _ else s.f h)=s.f h;rw[if_neg];intro e;rcases aE.slot d _ bl with ap |ap |⟨h',ap,al,_⟩
   .cases ap
   .cases ap
   .have:h=(h':Int):=by injection ap with _ ap;injection ap
    have:h'=hS s.l:=by omega
    rw[this,kj] at al
    cases al
  .have:=RA (m:=1) kj;simpa using this
 .rw[if_neg hn,if_neg hn];exact⟨rfl,rfl,fun d _=>⟨rfl,fun _ _=>rfl⟩,rfl⟩
theorem RB {s:bL} (aE:gB s) {p:mJ} (H:p.c < s.t.length) {bs y:List UInt8} (E:p.a<=p.b) (G:p.b<=aN s) (al:bs.length=p.b - p.a) (aR:hs s p.c=true->0 < d3 s.l):Cp s (xH s p bs y) p bs y:=by
 obtain⟨fg,g0,pB,h,uH,wa⟩:=Rr aE H y aR;obtain⟨r1,r2,ga,jK⟩:=aei aE H y aR;have dJ:=xI aE H (some y);unfold xH;generalize mK s p.c y=s' at*;generalize r7:fL s p.c (some y)=xs at*;have tR:=zF uH
 have e:FG s' p bs={s' with f:=ja s'.f (h:Int) (laid xs p.a (p.b - p.a) bs)}:=by
  unfold FG;rw[tR];simp only[wa,Option.getD_some]
 rw[e];have mI:=aef (xs:=xs) (ys:=bs) (a:=p.a) (n:=p.b - p.a) au5 al
 have aej: ∀(d:Nat) (k:Int),d≠p.c->s'.t[d]? =some ((1:Int),k,true)->ja s'.f (h:Int) (laid xs p.a (p.b - p.a) bs) k=s'.f k:=fun d k J ab=>by
  unfold ja;rw[if_neg];intro e;subst e;exact J (fg.inj d p.c _ ab uH)
 refine⟨⟨fg.z,fg.eW,fg.lc,fun c q aV=>?_,fg.inj,fg.FE,fun k ab=>?_,fg.FF,Rq fg.dom (by rw[mI,dJ];exact Rp aE.z)⟩,r1,pB,r2,fun c ls=>⟨(ga c ls).1,fun aB=>?_⟩,fun aB=>by rw[r7];exact aeg (s:={s' with f:=ja s'.f (h:Int) (laid xs p.a (p.b - p.a) bs)}) uH (if_pos rfl) aB,aeh (s:={s' with f:=ja s'.f (h:Int) (laid xs p.a (p.b - p.a) bs)}) uH,jK⟩
 .rcases fg.slot c q aV with e |e |⟨k,e,g1,ys,g2,cX⟩
  .exact .inl e
  .exact .inr (.inl e)
  .refine .inr (.inr ⟨k,e,g1,?_⟩)
   by_cases ab:(k:Int)=(h:Int)
   .exact⟨_,if_pos ab,by rw[mI,dJ,<-g0];rfl⟩
   .exact⟨ys,(if_neg ab).trans g2,cX⟩
 .show(if(k:Int)=(h:Int) then _ else s'.f k)=none;rw[if_neg]
  .exact fg.zE k ab
  .intro e;have:k=h:=by omega
   subst this;rcases fg.slot p.c _ uH with e |e |⟨j,e,g1,_⟩
   .cases e
   .cases e
   .have:(k:Int)=(j:Int):=by injection e with _ e;injection e
    have:k=j:=by omega
    rw[this,g1] at ab
    cases ab
 .refine KD (s:=s) (s':={s' with f:=ja s'.f (h:Int) (laid xs p.a (p.b - p.a) bs)}) r1 (ga c ls).1 (fun k ab=>?_) aE aB;rw[<-(ga c ls).2 k ab];exact aej c k ls ((ga c ls).1.trans ab)
structure KE (s s':bL) (c:Nat) (q:e7):Prop where
 ok:gB s'
 z:s'.z=s.z
 eW:s'.t.length=s.t.length
 lc:s'.l.length=s.l.length
 kb: ∀d,d≠c->s'.t[d]? =s.t[d]? /\ ∀aB,fL s' d aB=fL s d aB
 KC:s'.t[c]? =some q
 kp:d3 s.l<=d3 s'.l
theorem RC {s:bL} (aE:gB s) {c:Nat} (H:c < s.t.length) {q:e7} (aV:q=cD\/q=zL):KE s (rn s c q) c q:=by
 have mC:s.t[c]? =some (s.t.getD c cD):=by rw[ap9,oj H];rfl
 have uv: ∀h:Int,q≠((1:Int),h,true):=fun h e=>by rcases aV with aV |aV <;>rw[aV] at e <;>cases e
 have RD:q=cD\/q=((2:Int),(0:Int),false):=aV;unfold rn zD;rcases FH aE H with⟨_,h⟩ |⟨_,h,E,G,xs,al,aZ⟩
 .have hn: ¬(s.t.getD c cD).1=1:=by rcases h with h |h <;>rw[h] <;>decide
  rw[if_neg hn];refine⟨⟨aE.z,by show(s.t.set _ _).length<=256;rw[List.length_set];exact aE.eW,aE.lc,fun d r aF=>?_,fun d e k J V=>?_,aE.FE,aE.zE,fun k ab=>?_,aE.dom⟩,rfl,List.length_set,rfl,fun d J=>⟨List.getElem?_set_ne (Ne.symm J),fun aB=>KD (s:=s) (s':={s with t:=s.t.set c q}) rfl (List.getElem?_set_ne (Ne.symm J)) (fun _ _=>rfl) aE aB⟩,List.getElem?_set_self H,ap0 _⟩
  .rw[List.getElem?_set] at aF
   split at aF
   .injection aF with aF
    rw[<-aF];exact RD.imp id .inl
   .exact aE.slot d r aF
  .rw[List.getElem?_set] at J V
   split at J
   .injection J with J;exact absurd J (uv k)
   .split at V
    .injection V with V;exact absurd V (uv k)
    .exact aE.inj d e k J V
  .obtain⟨d,J⟩:=aE.FF k ab
   have ba:c≠d:=fun e=>by
    subst e;rw[mC] at J;injection J with J
    rw[J] at hn;exact hn rfl
   exact⟨d,(List.getElem?_set_ne ba).trans J⟩
 .have a6:=zF E;rw[a6,if_pos rfl];have bw:h < s.l.length:=(ap5.1 G).1;have bG:((h:Int)).toNat=h:=rfl;simp only[bG]
  have other: ∀(d k:Nat),d≠c->s.t[d]? =some ((1:Int),(k:Int),true)->k≠h:=fun d k J ab e=>by
   subst e;exact J (aE.inj d c _ ab E)
  refine⟨⟨aE.z,by show(s.t.set _ _).length<=256;rw[List.length_set];exact aE.eW,by show(s.l.set _ _).length<=512;rw[List.length_set];exact aE.lc,fun d r aF=>?_,fun d e k J V=>?_,fun k n ab=>?_,fun k ab=>?_,fun k ab=>?_,fun k xs ab=>aE.dom k xs (by
   have ab:(if k=(h:Int) then none else s.f k)=some xs:=ab
   split at ab
   .cases ab
   .exact ab)⟩,rfl,List.length_set,List.length_set,fun d J=>⟨List.getElem?_set_ne (Ne.symm J),fun aB=>KD (s:=s) (s':={s with t:=s.t.set c q,l:=s.l.set h 0,f:=BZ s.f (h:Int)}) rfl (List.getElem?_set_ne (Ne.symm J)) (fun k ab=>?_) aE aB⟩,List.getElem?_set_self H,?_⟩
  .rw[List.getElem?_set] at aF
   split at aF
   .injection aF with aF
    rw[<-aF];exact RD.imp id .inl
   .rename_i ba;rcases aE.slot d r aF with e |e |⟨k,e,g1,ys,g2,cX⟩
    .exact .inl e
    .exact .inr (.inl e)
    .have ab:=other d k (Ne.symm ba) (e▸aF);exact .inr (.inr ⟨k,e,by show(s.l.set h 0)[k]? =some 1;rw[List.getElem?_set_ne (Ne.symm ab)];exact g1,ys,by show(if(k:Int)=(h:Int) then none else s.f k)=some ys;rw[if_neg au5];exact g2,cX⟩)
  .rw[List.getElem?_set] at J V
   split at J
   .injection J with J;exact absurd J (uv k)
   .split at V
    .injection V with V;exact absurd V (uv k)
    .exact aE.inj d e k J V
  .rw[List.getElem?_set] at ab
   split at ab
   .injection ab with ab;exact .inl ab.symm
   .exact aE.FE k n ab
  .show(if(k:Int)=(h:Int) then none else s.f k)=none
   by_cases e:k=h
   .rw[if_pos au5]
   .rw[if_neg au5];rw[List.getElem?_set_ne (fun ap=>e ap.symm)] at ab;exact aE.zE k ab
  .by_cases e:k=h
   .subst e;rw[List.getElem?_set_self bw] at ab
    cases ab
   .rw[List.getElem?_set_ne (fun ap=>e ap.symm)] at ab;obtain⟨d,J⟩:=aE.FF k ab
    have ba:c≠d:=fun ap=>by
     subst ap;rw[E] at J;injection J with J
     have:(h:Int)=(k:Int):=by injection J with _ J;injection J
     omega
    exact⟨d,(List.getElem?_set_ne ba).trans J⟩
  .rcases aE.slot d _ ab with e |e |⟨j,e,_⟩
   .cases e
   .cases e
   .have aa:k=(j:Int):=by injection e with _ e;injection e
    subst aa;have:=other d j J ab;show(if(j:Int)=(h:Int) then none else s.f j)=s.f j;rw[if_neg au5]
  .have:=RA (m:=0) G;simp at this;show d3 s.l<=d3 (s.l.set h 0);omega
theorem Cq {s s':bL} {c:Nat} (h:s'.t[c]? =s.t[c]?):hs s' c=hs s c:=by
 unfold hs;rw[ap9,ap9,h]
structure jd (s s':bL):Prop where
 ok:gB s'
 z:s'.z=s.z
 eW:s'.t.length=s.t.length
 lc:s'.l.length=s.l.length
theorem jd.refl {s:bL} (h:gB s):jd s s:=⟨h,rfl,rfl,rfl⟩
theorem jd.trans {s s' Cr:bL} (h:jd s s') (k:jd s' Cr):jd s Cr:=⟨k.ok,k.z.trans h.z,k.eW.trans h.eW,k.lc.trans h.lc⟩
theorem jd.aN {s s':bL} (h:jd s s'):aN s'=aN s:=congrArg (fun b=>16*2 ^b) h.z
theorem Cp.fG {s s':bL} {p:mJ} {bs y:List UInt8} (h:Cp s s' p bs y):jd s s':=⟨h.ok,h.z,h.eW,h.lc⟩
theorem KE.fG {s s':bL} {c:Nat} {q:e7} (h:KE s s' c q):jd s s':=⟨h.ok,h.z,h.eW,h.lc⟩
def ql (s s':bL) (c:Nat):Prop:=s'.t[c]? =s.t[c]? /\ ∀aB,fL s' c aB=fL s c aB
theorem ql.refl (s:bL) (c:Nat):ql s s c:=⟨rfl,fun _=>rfl⟩
theorem ql.trans {s s' Cr:bL} {c:Nat} (h:ql s s' c) (k:ql s' Cr c):ql s Cr c:=⟨k.1.trans h.1,fun aB=>(k.2 aB).trans (h.2 aB)⟩
def KF (s:bL) (R:bo->bh) (b1 b2:Nat) (y:Nat->List UInt8):Prop:= ∀s',jd s s'-> ∀(c:Nat) (h:c < s'.t.length),(s'.t[c]).1=0->FD s' R b1 b2 c (y c)
theorem aek (s:bL) (a l:Nat) {j k:Nat} (h:j<=k):h5 s a l j<=h5 s a l k:=by
 induction k with
 |zero=>
    have:j=0:=by omega
    rw[this];exact ap0 _
 |succ k br=>
  by_cases e:j=k+1
  .rw[e];exact ap0 _
  .have:=br au5;show h5 s a l j<=h5 s a l k+_;omega
theorem RE {bs:List UInt8} {p:mJ} (E:p.a<=p.b) (G:p.at_+(p.b - p.a)<=bs.length):(tu bs p).length=p.b - p.a:=by
 unfold tu;rw[at1,ap8];omega
structure FO (s:bL) (a l:Nat) (bs:List UInt8) (y:Nat->List UInt8) (k:Nat):Prop where
 fG:jd s (i0 s a l bs y k)
 kp:d3 (i0 s a l bs y k).l+h5 s a l k=d3 s.l
 kb: ∀c,(c < 16*a/aN s\/16*a/aN s+k<=c)->ql s (i0 s a l bs y k) c
 done: ∀j,j < k->hs (i0 s a l bs y k) (16*a/aN s+j)=false/\ ∀aB,fL (i0 s a l bs y k) (16*a/aN s+j) aB=laid (fL s (16*a/aN s+j) (some (y (16*a/aN s+j)))) (bq (aN s) a l j).a ((bq (aN s) a l j).b - (bq (aN s) a l j).a) (tu bs (bq (aN s) a l j))
theorem RF {s:bL} (aE:gB s) {a l:Nat} {bs:List UInt8} (hb:bs.length=16*l) (eB:a+l<=hT s) {y:Nat->List UInt8} (d0:h5 s a l (cO (aN s) a l)<=d3 s.l) {k:Nat} (h:FO s a l bs y k) (ab:k < cO (aN s) a l):Cp (i0 s a l bs y k) (i0 s a l bs y (k+1)) (bq (aN s) a l k) (tu bs (bq (aN s) a l k)) (y (bq (aN s) a l k).c)/\(hs (i0 s a l bs y k) (bq (aN s) a l k).c=true->0 < d3 (i0 s a l bs y k).l):=by
 have d2:=sk aE.z;obtain⟨dY,cR,dG,dL⟩:=ts d2 ab;obtain⟨H,_⟩:=sm aE eB ab;have nS:=h.kb (16*a/aN s+k) (.inr (ap0 _))
 have aR:hs (i0 s a l bs y k) (bq (aN s) a l k).c=true->0 < d3 (i0 s a l bs y k).l:=fun hn=>by
  have bm:hs (i0 s a l bs y k) (bq (aN s) a l k).c=hs s (bq (aN s) a l k).c:=Cq nS.1;rw[bm] at hn;have E:=aek s a l (show k+1<=cO (aN s) a l from ab)
  have G:h5 s a l (k+1)=h5 s a l k+1:=by
   show h5 s a l k+_=_;rw[if_pos hn]
  have:=h.kp;omega
 exact⟨RB h.fG.ok (by rw[h.fG.eW];exact H) dY (by rw[h.fG.aN];exact cR) (RE dY au5) aR,aR⟩
theorem FP {s:bL} (aE:gB s) {a l:Nat} {bs:List UInt8} (hb:bs.length=16*l) (eB:a+l<=hT s) (y:Nat->List UInt8) (d0:h5 s a l (cO (aN s) a l)<=d3 s.l): ∀k,k<=cO (aN s) a l->FO s a l bs y k/\(k < cO (aN s) a l->Cp (i0 s a l bs y k) (i0 s a l bs y (k+1)) (bq (aN s) a l k) (tu bs (bq (aN s) a l k)) (y (bq (aN s) a l k).c)/\(hs (i0 s a l bs y k) (bq (aN s) a l k).c=true->0 < d3 (i0 s a l bs y k).l))
 |0,ab=>by
  have aw:FO s a l bs y 0:=⟨jd.refl aE,rfl,fun c _=>ql.refl s c,fun j aa=>absurd aa au5⟩;exact⟨aw,fun ab=>RF aE hb eB d0 aw ab⟩
 |k+1,ab=>by
  obtain⟨h,ax⟩:=FP aE hb eB y d0 k au5;have fd:k < cO (aN s) a l:=by omega
  obtain⟨ag,_⟩:=ax fd;have uI:(bq (aN s) a l k).c=16*a/aN s+k:=rfl;have nS:=h.kb (16*a/aN s+k) (.inr (ap0 _))
  have E:FO s a l bs y (k+1):=by
   refine⟨h.fG.trans ag.fG,?_,fun c H=>?_,fun j aa=>?_⟩
   .have aj:=ag.kp;have ap:=h.kp;have bm:hs (i0 s a l bs y k) (bq (aN s) a l k).c=hs s (bq (aN s) a l k).c:=Cq nS.1;rw[bm] at aj;show d3 _+(h5 s a l k+_)=_;omega
   .exact(h.kb c (H.imp id fun h=>by omega)).trans (ag.kb c (by rw[uI];omega))
   .by_cases e:j=k
    .subst e;refine⟨ag.jX,fun aB=>?_⟩;have:=ag.KC aB;rw[uI] at this;rw[this,nS.2]
    .obtain⟨g1,g2⟩:=h.done j au5;have hf:=ag.kb (16*a/aN s+j) (by rw[uI];omega);exact⟨(Cq hf.1).trans g1,fun aB=>(hf.2 aB).trans (g2 aB)⟩
  exact⟨E,fun ab=>RF aE hb eB d0 E ab⟩
def RG (s:bL) (a l:Nat):Int:=if h5 s a l (cO (aN s) a l)<=d3 s.l then 0 else 120
def FQ (s:bL) (a l:Nat) (bs:List UInt8) (y:Nat->List UInt8):bL:=if h5 s a l (cO (aN s) a l)<=d3 s.l then i0 s a l bs y (cO (aN s) a l) else s
theorem ael (s:bL) (R:bo->bh) (b1 b2:Nat) (aE:gB s) (a l:Nat) (bs:List UInt8) (hb:bs.length=16*l) (aw:eh s a l=0) (y:Nat->List UInt8) (c':KF s R b1 b2 y):
  Fn Tryz.prog 88 [ao 1001,ae (a:Int),bS .u8 bs,nb b1 b2] (fX s R) [] (ae (RG s a l)) (fX (FQ s a l bs y) R):=by
 have eB:=sn aw;refine ad6 s R b1 b2 aE a l bs hb aw y _ _ (fun h=>⟨if_neg au5,if_neg au5⟩) (fun h=>⟨if_pos h,if_pos h⟩) (fun d0 k ab=>?_) (fun d0 k ab=>(FP aE hb eB y d0 k ab).1.fG.z);obtain⟨h,ax⟩:=FP aE hb eB y d0 k (Nat.le_of_lt ab);obtain⟨_,aR⟩:=ax ab;obtain⟨dY,cR,dG,dL⟩:=ts (sk aE.z) ab;obtain⟨H,_⟩:=sm aE eB ab;have d7:(bq (aN s) a l k).c < (i0 s a l bs y k).t.length:=by rw[h.fG.eW];exact H
 exact Rt (i0 s a l bs y k) R b1 b2 h.fG.ok (bq (aN s) a l k) d7 (tu bs (bq (aN s) a l k)) dY (by rw[h.fG.aN];exact cR) (RE dY au5) (y (bq (aN s) a l k).c) (fun e=>c' _ h.fG _ d7 e) aR
theorem aem {s:bL} (aE:gB s) {a l:Nat} {bs:List UInt8} (hb:bs.length=16*l) (aw:eh s a l=0) (y:Nat->List UInt8):jd s (FQ s a l bs y):=by
 unfold FQ
 split
 .rename_i h;exact(FP aE hb (sn aw) y h _ (ap0 _)).1.fG
 .exact jd.refl aE
structure KG (s:bL) (a l:Nat) (k:Nat):Prop where
 fG:jd s (jw s a l k)
 kb: ∀c,(c < 16*a/aN s\/16*a/aN s+k<=c)->ql s (jw s a l k) c
 done: ∀j,j < k->if(bq (aN s) a l j).b - (bq (aN s) a l j).a=aN s then(jw s a l k).t[16*a/aN s+j]? =some cD else ql s (jw s a l k) (16*a/aN s+j)
theorem Cs {s:bL} (aE:gB s) {a l:Nat} (eB:a+l<=hT s): ∀k,k<=cO (aN s) a l->KG s a l k
 |0,_=>⟨jd.refl aE,fun c _=>ql.refl s c,fun j aa=>absurd aa au5⟩
 |k+1,ab=>by
  have h:=Cs aE eB k au5;have fd:k < cO (aN s) a l:=by omega
  obtain⟨H,_⟩:=sm aE eB fd;have uI:(bq (aN s) a l k).c=16*a/aN s+k:=rfl;have nS:=h.kb (16*a/aN s+k) (.inr (ap0 _))
  by_cases e:(bq (aN s) a l k).b - (bq (aN s) a l k).a=aN s
  .have aj:jw s a l (k+1)=rn (jw s a l k) (bq (aN s) a l k).c cD:=if_pos e;have ag:=RC h.fG.ok (c:=(bq (aN s) a l k).c) (by rw[h.fG.eW];exact H) (q:=cD) (.inl rfl);rw[<-aj] at ag;refine⟨h.fG.trans ag.fG,fun c H=>(h.kb c (H.imp id fun h=>by omega)).trans (ag.kb c (by rw[uI];omega)),fun j aa=>?_⟩
   by_cases Cj:j=k
   .subst Cj;rw[if_pos e];exact ag.KC
   .have g:=h.done j au5;have hf:=ag.kb (16*a/aN s+j) (by rw[uI];omega)
    split
    .rename_i ap;rw[if_pos ap] at g;exact hf.1.trans g
    .rename_i ap;rw[if_neg ap] at g;exact g.trans hf
  .have aj:jw s a l (k+1)=jw s a l k:=if_neg e;rw[show KG s a l (k+1)↔KG s a l (k+1) from Iff.rfl];refine⟨by rw[aj];exact h.fG,fun c H=>by rw[aj];exact h.kb c (H.imp id fun h=>by omega),fun j aa=>?_⟩;rw[aj]
   by_cases Cj:j=k
   .subst Cj;rw[if_neg e];exact nS
   .exact h.done j au5
def RH (s:bL) (a l:Nat):bL:=jw s a l (cO (aN s) a l)
theorem RI {s:bL} (aE:gB s) {c:Nat} (H:c < s.t.length):(s.t.getD c cD).1=1-> ∃h:Nat,(s.t.getD c cD).2.1=(h:Int)/\s.l[h]? =some 1:=fun E=>by
 rcases FH aE H with⟨_,h⟩ |⟨_,h,g1,g2,_⟩
 .rcases h with h |h <;>rw[h] at E <;>cases E
 .exact⟨h,by rw[zF g1],g2⟩
theorem aen (s:bL) (aE:gB s) (a l:Nat) (aw:eh s a l=0):Fn Tryz.prog 92 [ao 1001,ae (a:Int),ae (l:Int)] (dx s) [] (ae 0) (dx (RH s a l)):=by
 have eB:=sn aw;refine ad9 s aE a l aw (fun k ab=>?_) (fun k ab=>(Cs aE eB k ab).fG.z);have h:=Cs aE eB k (Nat.le_of_lt ab);obtain⟨H,_⟩:=sm aE eB ab;have d7:(bq (aN s) a l k).c < (jw s a l k).t.length:=by rw[h.fG.eW];exact H
 exact Kp (jw s a l k) h.fG.ok.eW _ d7 cD ⟨au6,au6⟩ rfl (RI h.fG.ok d7)
structure RJ (s:bL) (a l:Nat) (y:Nat->List UInt8) (k:Nat):Prop where
 fG:jd s (e1 s a l y k)
 kp:d3 s.l<=d3 (e1 s a l y k).l+ht s a l k
 kb: ∀c,(c < 16*a/aN s\/16*a/aN s+k<=c)->ql s (e1 s a l y k) c
theorem aeo (s:bL) (a l:Nat) {j k:Nat} (h:j<=k):ht s a l j<=ht s a l k:=by
 induction k with
 |zero=>
    have:j=0:=by omega
    rw[this];exact ap0 _
 |succ k br=>
  by_cases e:j=k+1
  .rw[e];exact ap0 _
  .have:=br au5;show ht s a l j<=ht s a l k+_;omega
theorem KH {s s':bL} (h:jd s s') (p:mJ):ld s' p=ld s p:=by unfold ld;rw[h.aN]
theorem RK {s:bL} {a l:Nat} {y:Nat->List UInt8} (d0:ht s a l (cO (aN s) a l)<=d3 s.l) {k:Nat} (h:RJ s a l y k) (ab:k < cO (aN s) a l) (hw:ld s (bq (aN s) a l k)=false) (G:((e1 s a l y k).t.getD (bq (aN s) a l k).c cD).1≠2):
  hs (e1 s a l y k) (bq (aN s) a l k).c=true->0 < d3 (e1 s a l y k).l:=fun hn=>by
 have nS:=h.kb (16*a/aN s+k) (.inr (ap0 _));have bm:hs (e1 s a l y k) (bq (aN s) a l k).c=hs s (bq (aN s) a l k).c:=Cq nS.1
 have c0:(e1 s a l y k).t.getD (bq (aN s) a l k).c cD=s.t.getD (bq (aN s) a l k).c cD:=by
  rw[ap9,ap9];exact congrArg (fun o=>o.getD cD) nS.1
 rw[bm] at hn;rw[c0] at G
 have aR:nX s (bq (aN s) a l k)=true:=by
  unfold nX;rw[hw,aq2 G,hn];rfl
 have E:=aeo s a l (show k+1<=cO (aN s) a l from ab)
 have al:ht s a l (k+1)=ht s a l k+1:=by
  show ht s a l k+_=_;rw[if_pos aR]
 have:=h.kp;omega
theorem Ct {s:bL} (aE:gB s) {a l:Nat} (eB:a+l<=hT s) (y:Nat->List UInt8) (d0:ht s a l (cO (aN s) a l)<=d3 s.l): ∀k,k<=cO (aN s) a l->RJ s a l y k
 |0,_=>⟨jd.refl aE,Nat.le_add_right _ _,fun c _=>ql.refl s c⟩
 |k+1,ab=>by
  have h:=Ct aE eB y d0 k au5;have fd:k < cO (aN s) a l:=by omega
  obtain⟨H,_⟩:=sm aE eB fd;obtain⟨dY,cR,dG,dL⟩:=ts (sk aE.z) fd;have uI:(bq (aN s) a l k).c=16*a/aN s+k:=rfl;have d7:(bq (aN s) a l k).c < (e1 s a l y k).t.length:=by rw[h.fG.eW];exact H
  have nS:=h.kb (16*a/aN s+k) (.inr (ap0 _));have yL:ht s a l (k+1)=ht s a l k+(if nX s (bq (aN s) a l k)=true then 1 else 0):=rfl;have aj:e1 s a l y (k+1)=xO (e1 s a l y k) (bq (aN s) a l k) (y (bq (aN s) a l k).c):=rfl;unfold xO at aj;rw[KH h.fG] at aj
  by_cases hw:ld s (bq (aN s) a l k)=true
  .rw[if_pos hw] at aj;have ag:=RC h.fG.ok (c:=(bq (aN s) a l k).c) d7 (q:=zL) (.inr rfl);rw[<-aj] at ag;refine⟨h.fG.trans ag.fG,?_,fun c H=>(h.kb c (H.imp id fun h=>by omega)).trans (ag.kb c (by rw[uI];omega))⟩;have:=ag.kp;have:=h.kp;omega
  .have hw:ld s (bq (aN s) a l k)=false:=by simpa using hw
   rw[hw,if_neg au6] at aj
   by_cases G:((e1 s a l y k).t.getD (bq (aN s) a l k).c cD).1=2
   .rw[if_pos G] at aj;refine⟨by rw[aj];exact h.fG,?_,fun c H=>by rw[aj];exact h.kb c (H.imp id fun h=>by omega)⟩;rw[aj];have:=h.kp;omega
   .rw[if_neg G] at aj;have ag:=RB (y:=y (bq (aN s) a l k).c) (bs:=Co ((bq (aN s) a l k).b - (bq (aN s) a l k).a)) h.fG.ok d7 dY (by rw[h.fG.aN];exact cR) as7 (RK d0 h fd hw G);rw[<-aj] at ag;refine⟨h.fG.trans ag.fG,?_,fun c H=>(h.kb c (H.imp id fun h=>by omega)).trans (ag.kb c (by rw[uI];omega))⟩;have fQ:=ag.kp;have bm:hs (e1 s a l y k) (bq (aN s) a l k).c=hs s (bq (aN s) a l k).c:=Cq nS.1
    have c0:(e1 s a l y k).t.getD (bq (aN s) a l k).c cD=s.t.getD (bq (aN s) a l k).c cD:=by
     rw[ap9,ap9];exact congrArg (fun o=>o.getD cD) nS.1
    rw[c0] at G
    have aR:nX s (bq (aN s) a l k)=hs s (bq (aN s) a l k).c:=by
     unfold nX;rw[hw,aq2 G];rfl
    rw[bm,<-aR] at fQ;have:=h.kp;omega
def RL (s:bL) (a l:Nat):Int:=if ht s a l (cO (aN s) a l)<=d3 s.l then 0 else 120
def FR (s:bL) (a l:Nat) (y:Nat->List UInt8):bL:=if ht s a l (cO (aN s) a l)<=d3 s.l then e1 s a l y (cO (aN s) a l) else s
theorem aep (s:bL) (R:bo->bh) (b1 b2:Nat) (aE:gB s) (a l:Nat) (aw:eh s a l=0) (y:Nat->List UInt8) (c':KF s R b1 b2 y):
  Fn Tryz.prog 90 [ao 1001,ae (a:Int),ae (l:Int),nb b1 b2] (fX s R) [] (ae (RL s a l)) (fX (FR s a l y) R):=by
 have eB:=sn aw;refine aec s R b1 b2 aE a l aw y _ _ (fun h=>⟨if_neg au5,if_neg au5⟩) (fun h=>⟨if_pos h,if_pos h⟩) (fun d0 k ab=>?_) (fun d0 k ab hw=>?_) (fun d0 k ab hw G=>?_)
 .have h:=(Ct aE eB y d0 k ab).fG;exact⟨h.ok,h.z,h.eW⟩
 .have h:=Ct aE eB y d0 k (Nat.le_of_lt ab);obtain⟨H,_⟩:=sm aE eB ab;have d7:(bq (aN s) a l k).c < (e1 s a l y k).t.length:=by rw[h.fG.eW];exact H
  have aj:e1 s a l y (k+1)=rn (e1 s a l y k) (bq (aN s) a l k).c zL:=if_pos ((KH h.fG _).trans hw);rw[aj];exact Kp (e1 s a l y k) h.fG.ok.eW _ d7 zL ⟨au6,au6⟩ rfl (RI h.fG.ok d7)
 .have h:=Ct aE eB y d0 k (Nat.le_of_lt ab);obtain⟨H,_⟩:=sm aE eB ab;obtain⟨dY,cR,dG,dL⟩:=ts (sk aE.z) ab;have d7:(bq (aN s) a l k).c < (e1 s a l y k).t.length:=by rw[h.fG.eW];exact H
  have aj:e1 s a l y (k+1)=xH (e1 s a l y k) (bq (aN s) a l k) (Co ((bq (aN s) a l k).b - (bq (aN s) a l k).a)) (y (bq (aN s) a l k).c):=by
   show xO _ _ _=_;unfold xO;rw[KH h.fG,hw,if_neg au6,if_neg G]
  rw[aj];exact Rt (e1 s a l y k) R b1 b2 h.fG.ok (bq (aN s) a l k) d7 _ dY (by rw[h.fG.aN];exact cR) as7 _ (fun e=>c' _ h.fG _ d7 e) (RK d0 h ab hw G)
theorem aeq {s:bL} (aE:gB s) {a l:Nat} (aw:eh s a l=0) (y:Nat->List UInt8):jd s (FR s a l y):=by
 unfold FR
 split
 .rename_i h;exact(Ct aE (sn aw) y h _ (ap0 _)).fG
 .exact jd.refl aE
theorem aer (s:bL) (R:bo->bh) (b1 b2:Nat) (aE:gB s) (a l:Int) (aw:eh s a l≠0):Fn Tryz.prog 90 [ao 1001,ae a,ae l,nb b1 b2] (fX s R) [] (ae (eh s a l)) (fX s R):=by
 refine aW [] Tryz.func90 rfl rfl rfl rfl ?_;refine⟨rfl,rfl,au (wb s aE a l) ?_⟩;refine⟨fun _=>?_,fun h=>absurd (show eh s a l=0 by have h:(!decide (eh s a l=0))=false:=h;simpa using h) aw⟩;exact aT aH rfl rfl ac rfl
def hF (z size U:Nat):bL:=⟨z,List.replicate size cD,List.replicate U (0:Int),JS⟩
theorem aes {z size U:Nat} (E:z<=3) (G:size<=256) (al:U<=512):gB (hF z size U):=by
 have cr: ∀(c:Nat) (q:e7),(hF z size U).t[c]? =some q->q=cD:=fun c q h=>by
  have h:(List.replicate size cD)[c]? =some q:=h;rw[List.getElem?_replicate] at h
  split at h
  .injection h with h;exact h.symm
  .cases h
 have aq: ∀(h:Nat) n,(hF z size U).l[h]? =some n->n=0:=fun h n e=>by
  have e:(List.replicate U (0:Int))[h]? =some n:=e;rw[List.getElem?_replicate] at e
  split at e
  .injection e with e;exact e.symm
  .cases e
 refine⟨E,by show(List.replicate size cD).length<=256;rw[as7];exact G,by show(List.replicate U (0:Int)).length<=512;rw[as7];exact al,fun c q aV=>.inl (cr c q aV),fun c d h H J=>?_,fun h n hn=>.inl (aq h n hn),fun h _=>rfl,fun h bl=>?_,fun k xs ab=>(by cases ab)⟩
 .have:=cr c _ H;cases this
 .have:=aq h _ bl;cases this
def kq (z size U:Int):Bool:=decide (0<=size)&&decide (size<=256)&&(decide (0<=U)&&decide (U<=512))&&(decide (0<=z)&&decide (z<=3))
theorem aet (z size U:Nat) (E:z<=3) (G:size<=256) (al:U<=512):Fn Tryz.prog 39 [ae (z:Int),ae (size:Int),ae (U:Int)] [] [1001,1002,1003,1004] (.ce [.one (.ptr 1001 0),dw 0]) (dx (hF z size U)):=by
 refine aW [3] Tryz.func39 rfl rfl rfl rfl ?_;refine au (Fn.aX [(1001,1002),(1002,2002)] (Km size G)) ?_;refine au (Fn.aX [(1001,1003),(1002,2003)] (Fz (U:Int) au5 au5)) ?_;refine bz [] (cG [(0,ae (z:Int)),(8,ao 1002),(9,ae 0),(10,ao 1003),(11,ae 0)] [(1002,.aG (rj (List.replicate size cD))),(1003,.aG (rk (List.replicate U (0:Int))))]) ?_;refine da ?_;refine da ?_;refine⟨fun h=>?_,fun h=>?_⟩
 .exfalso;have h:(z:Int) < 0:=gd h;omega
 refine⟨fun h=>?_,fun h=>?_⟩
 .exfalso;have h:(3:Int) < (z:Int):=gd h;omega
 refine⟨rfl,rfl,?_⟩;exact⟨_,_,_,(af.aX 41 1001 rfl).trans ((af.aX 39 1004 rfl).trans (af.Qw 1004 rfl)),rfl,ac,ac,rfl⟩
theorem aeu {z size U:Int} (h:kq z size U=false): ¬(0<=size/\size<=256)\/ ¬(0<=U/\U<=512)\/ ¬(0<=z/\z<=3):=by
 unfold kq at h
 by_cases E:0<=size/\size<=256
 .by_cases G:0<=U/\U<=512
  .by_cases al:0<=z/\z<=3
   .rw[aq2 E.1,aq2 E.2,aq2 G.1,aq2 G.2,aq2 al.1,aq2 al.2] at h
    cases h
   .exact .inr (.inr al)
  .exact .inr (.inl G)
 .exact .inl E
theorem RM (z size U:Int) (h:kq z size U=false):Fn Tryz.prog 39 [ae z,ae size,ae U] [] [] (.ce [mF,dw 1]) []:=by
 have O:=aeu h;refine aW [] Tryz.func39 rfl rfl rfl rfl ?_
 by_cases E:0<=size/\size<=256
 .obtain⟨ec,rfl⟩: ∃n:Nat,size=(n:Int):=⟨size.toNat,au5⟩;refine au (Fn.aX [(1001,1002),(1002,2002)] (Km ec au5)) ?_
  by_cases G:0<=U/\U<=512
  .refine au (Fn.aX [(1001,1003),(1002,2003)] (Fz U au5 au5)) ?_;refine da ?_;refine da ?_;refine⟨fun _=>?_,fun al=>?_⟩
   .exact aT aH rfl ac trivial rfl
   .refine⟨fun _=>?_,fun aZ=>?_⟩
    .exact aT aH rfl ac trivial rfl
    .exfalso;have al: ¬z < 0:=mu al;have aZ: ¬(3:Int) < z:=mu aZ;omega
  .refine au (Rh U G) ?_;refine da ?_;refine eO ?_;exact aT aH rfl ac trivial rfl
 .refine au (adB size E) ?_
  by_cases G:0<=U/\U<=512
  .refine au (Fn.aX [(1001,1003),(1002,2003)] (Fz U au5 au5)) ?_;refine eO ?_;exact aT aH rfl ac trivial rfl
  .refine au (Rh U G) ?_;refine eO ?_;exact aT aH rfl ac trivial rfl
end
end Go.Proofs.YthnboghbhgapcaaGreat
