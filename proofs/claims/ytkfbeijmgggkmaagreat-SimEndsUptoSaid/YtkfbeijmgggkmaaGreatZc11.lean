/-
A part of the proof of this claim: lemmas, with no condition beyond what each says.
-/
import Derived.Test.YtkfbeijmgggkmaaGreatZc10
set_option linter.unusedVariables false
set_option linter.unusedSimpArgs false
set_option maxRecDepth 10000
set_option maxHeartbeats 4000000
namespace Go.Proofs.YtkfbeijmgggkmaaGreat
open Go.RowKit Go.Proofs
section
structure bL where
 z:Nat
 t:List fh
 l:List Int
 f:lm
abbrev aeK (n:Int):List bC:=[.d (.int .i64 n),.ptr 1002 0,.ptr 1003 0,.mp 1004,.dH]
abbrev dB (s:bL):ay:=[(1001,.cells (aeK s.z)),(1002,.aF (rN s.t)),(1003,.aF (rO s.l)),(1004,.aF (m5 s.f))]
def ja (s:bL):bg:=.i9 1001 (dB s)
theorem aeL (t:List fh):Fn Tryz.prog 165 [ah 1001] [(1001,.aF (rN t))] [] (ac (t.length:Nat)) [(1001,.aF (rN t))]:=
 Fn.F3 (sH:=fun es:{es//ol t es}=>.i9 1001 (pg (t.length:Nat) es.1)) aw3 (fun _ _ _ _ ⟨es,h,aY⟩=>⟨⟨es,h⟩,aY⟩) fun es=>
  Fn.close [1002] (aep _ es.1) (fun _ _ _ _ h=>h) (fun _ _ _ _ h=>⟨es.1,es.2,h⟩) rfl rfl
theorem C5 (t:List fh) (ap:t.length<=256) (c:Nat) (J:c < t.length):Fn Tryz.prog 167 [ah 1001,ac (c:Int)] [(1001,.aF (rN t))] [] (.c (pZ t[c])) [(1001,.aF (rN t))]:=
 Fn.F3 (sH:=fun es:{es//ol t es}=>.i9 1001 (pg (t.length:Nat) es.1)) aw3 (fun _ _ _ _ ⟨es,h,aY⟩=>⟨⟨es,h⟩,aY⟩) fun es=>
  Fn.close [1002] (Sd es.2 ap c J) (fun _ _ _ _ h=>h) (fun _ _ _ _ h=>⟨es.1,es.2,h⟩) rfl rfl
theorem aeM (t:List fh) (ap:t.length<=256) (c:Nat) (J:c < t.length) (s:fh) (ax:tX s) (aC:rL s=true):
  Fn Tryz.prog 205 [ah 1001,ac (c:Int),.c (pZ s)] [(1001,.aF (rN t))] [] (.cb [pZ t[c],dp 0]) [(1001,.aF (rN (t.set c s)))]:=
 Fn.F3 (sH:=fun es:{es//ol t es}=>.i9 1001 (pg (t.length:Nat) es.1)) aw3 (fun _ _ _ _ ⟨es,h,aY⟩=>⟨⟨es,h⟩,aY⟩) fun es=>
  Fn.close [1002] (aex es.2 ap c J s ax aC) (fun _ _ _ _ h=>h) (fun _ _ _ _ h=>⟨_,es.2.set c s ax,by rw[List.length_set];exact h⟩) rfl rfl
theorem aeN (l:List Int) (h:Nat) (n:Int) (hn:l[h]? =some n) (E:1<=n) (G:n<=65535):Fn Tryz.prog 230 [ah 1001,ac (h:Int)] [(1001,.aF (rO l))] [] (.cb [.one (.d (.int .i64 (n - 1))),dp 0]) [(1001,.aF (rO (l.set h (n - 1))))]:=
 Fn.close [1002] (aeD l h n hn E G) (fun _ _ _ _ h=>h) (fun _ _ _ _ h=>h) rfl rfl
theorem aeO (l:List Int) (ap:l.length<=1000000):Fn Tryz.prog 203 [ah 1001] [(1001,.aF (rO l))] [] (ac (d9 l:Nat)) [(1001,.aF (rO l))]:=
 Fn.close [1002] (aeG l ap) (fun _ _ _ _ h=>h) (fun _ _ _ _ h=>h) rfl rfl
theorem aeP (l:List Int) (ap:l.length<=1000000) (h:Nat) (bj:l[h]? =some 0) (hf: ∀j,j < h->l[j]? ≠some 0):Fn Tryz.prog 204 [ah 1001] [(1001,.aF (rO l))] [] (.cb [.one (.d (.int .i64 (h:Int))),dp 0]) [(1001,.aF (rO (l.set h 1)))]:=
 Fn.close [1002] (aeI l ap h bj hf) (fun _ _ _ _ h=>h) (fun _ _ _ _ h=>h) rfl rfl
def aK (s:bL):Nat:=16*2 ^s.z
theorem js {b:Nat} (h:b<=3):1<=2 ^b/\2 ^b<=8:=by
 match b,h with
 |0,_=>decide
 |1,_=>decide
 |2,_=>decide
 |3,_=>decide
theorem u9 {s:bL} (h:s.z<=3):16<=aK s/\aK s<=128:=by
 have:=js h;unfold aK;omega
theorem qG (s:bL) (O:s.z<=3):Fn Tryz.prog 163 [ah 1001] (dB s) [] (ac (aK s:Nat)) (dB s):=by
 have h:=js O;have e:(16:Int)*((2 ^s.z:Nat):Int)=((aK s:Nat):Int):=by unfold aK;omega
 refine aT [] Tryz.func163 ?_;have m:(0:Int)<=16/\(0:Int)<=(s.z:Int)/\(s.z:Int)<=64:=aw8
 have m2:(-9223372036854775808:Int)<=16*((2 ^s.z:Nat):Int)/\(16:Int)*((2 ^s.z:Nat):Int)<=9223372036854775807:=aw8
 exact⟨m,m2,ej bq rfl e⟩
theorem nz (s:bL):Fn Tryz.prog 112 [ah 1001] (dB s) [] (ac (s.t.length:Nat)) (dB s):=by
 refine aT [] Tryz.func112 ?_;exact ak (Fn.aV [(1001,1002)] (aeL s.t)) bc
theorem aeQ (s:bL) (ap:s.t.length<=256) (c:Nat) (J:c < s.t.length):Fn Tryz.prog 116 [ah 1001,ac (c:Int)] (dB s) [] (ac (s.t[c]).1) (dB s):=by
 refine aT [] Tryz.func116 ?_;refine ak (Fn.aV [(1001,1002)] (C5 s.t ap c J)) ⟨_,_,fun N=>Lj rfl Tryz.underlying243 rfl Tryz.underlying3 rfl rfl rfl N,rfl,?_⟩;exact bc
theorem Sm (s:bL) (ap:s.l.length<=1000000):Fn Tryz.prog 160 [ah 1001] (dB s) [] (ac (d9 s.l:Nat)) (dB s):=by
 refine aT [] Tryz.func160 ?_;exact ak (Fn.aV [(1001,1003),(1002,2003)] (aeO s.l ap)) bc
theorem Sn (x:aA0) (hx:x.length<=4294967296):Fn Tryz.prog 169 [eX 1001] [(1001,.row 5 .u8 x)] [1002] (eX 1002) [(1001,.row 5 .u8 x),(1002,.row 5 .u8 x)]:=by
 refine aT [1] Tryz.func169 ?_;refine bk.gz ee aw3 ?_;refine⟨_,acW (c:=1001) rfl rfl rfl Tryz.underlying31,fun v e h=>?_⟩;obtain⟨b,O,rfl,rfl⟩:=h
 cases b
 .refine⟨rfl,?_⟩;have m1:([]:aA0).length+x.length<=4294967296:=ax4
  exact⟨m1,rfl,_,_,_,ab.aV 7 1002 rfl,rfl,rfl,az,rfl⟩
 .have O:=O rfl;subst O;exact⟨_,_,_,ab.nil 2 1002 5 .u8 rfl rfl,rfl,rfl,az,rfl⟩
theorem aeR (x:aA0) (hx:x.length<=4294967296):Fn Tryz.prog 169 [bv .u8 x] [] [2001] (eX 2001) [(2001,.row 5 .u8 x)]:=by
 refine aT [1] Tryz.func169 ?_;refine bk.gz ee aw3 ?_;refine⟨_,Rw rfl rfl Tryz.underlying31,fun v e h=>?_⟩;obtain⟨b,O,rfl,rfl⟩:=h
 cases b
 .refine⟨rfl,?_⟩;have ap:0+x.length<=4294967296:=aw8
  exact⟨ap,rfl,_,_,_,ab.aV 7 2001 rfl,rfl,rfl,az,rfl⟩
 .have O:=O rfl;subst O;exact⟨_,_,_,ab.nil 2 2001 5 .u8 rfl rfl,rfl,rfl,az,rfl⟩
theorem So {f:lm} {k:Int} {xs:aA0} (h:f k=some xs):jq f k xs=f:=funext fun j=>by
 unfold jq
 split
 .rename_i e;rw[e,h]
 .rfl
theorem Lp:(Tryz.prog.info? 31).map (fun i=>(i.zero,i.size,i.bytes))=some (some (.slice none 0 0),1,24):=by kernel_rfl
def kD (s:bL):aA0:=List.replicate (aK s) 0
def eR (s:bL) (c:Nat) (y:Option aA0):aA0:=match s.t[c]? with
 |some q=>if q.1=1 then(s.f q.2.1).getD [] else if q.1=0 then(match y with
  |some y=>if y.length=aK s then y else kD s
  |none=>kD s) else kD s
 |none=>[]
theorem aeS (s:bL) (O:s.z<=3) (ap:s.t.length<=256) (c:Nat) (J:c < s.t.length) (hf:(s.t[c]).1=1-> ∃xs,s.f (s.t[c]).2.1=some xs/\xs.length<=128):
  Fn Tryz.prog 146 [ah 1001,ac (c:Int),.c (.one (.bM .nilFunc))] (dB s) [2001] (eX 2001) (dB s++[(2001,.row 5 .u8 (eR s c none))]):=by
 obtain⟨de,o2,o3,u6,Ar⟩:=info_parts Lp;have hw:=u9 O
 have dF:eR s c none=if(s.t[c]).1=1 then(s.f (s.t[c]).2.1).getD [] else kD s:=by
  unfold eR;rw[oj J];simp
 refine aT [] Tryz.func146 ?_;refine ak (Fn.aV [(1001,1002)] (C5 s.t ap c J)) ⟨rfl,fun h=>?_,fun h=>?_⟩
 .have h:=gd h;obtain⟨xs,hx,v6⟩:=hf h;rw[if_pos h,hx] at dF;refine⟨_,_,fun N=>Ge (d:=5001) (k:=(s.t[c]).2.1) rfl Tryz.underlying169 Tryz.underlying3 rfl o2 o3 rfl rfl rfl hx N,rfl,?_⟩;refine ak (Fn.aV [(1001,5001),(1002,2001)] (Sn xs aw0)) ⟨rfl,?_⟩;exact⟨_,_,_,ab.Gf 1004 5001 (So hx) rfl rfl aw1 (by rw[hx];rfl),rfl,rfl,⟨rfl,rfl,rfl,rfl,by rw[dF];rfl,trivial⟩,rfl⟩
 .have h:=mu h;rw[if_neg h] at dF;have m:(0:Int)<=(aK s:Nat)/\((aK s:Nat):Int)<=4294967296:=aw8
  refine⟨fun av=>?_,fun av=>?_⟩
  .refine⟨_,_,fun N=>aei (.inr ⟨rfl,rfl⟩) rfl Tryz.underlying176 rfl N,rfl,?_⟩;refine ak (qG s O) ⟨⟨rfl,m⟩,rfl,?_⟩;exact⟨_,_,_,ab.aV 45 2001 rfl,rfl,rfl,⟨rfl,rfl,rfl,rfl,by rw[dF];rfl,trivial⟩,rfl⟩
  .refine ak (qG s O) ⟨⟨rfl,m⟩,rfl,?_⟩;exact⟨_,_,_,ab.aV 45 2001 rfl,rfl,rfl,⟨rfl,rfl,rfl,rfl,by rw[dF];rfl,trivial⟩,rfl⟩
abbrev nA (b1 b2:Nat):aO:=.c (.one (.d (.fn (158,[b1,b2]))))
abbrev gc (s:bL) (bn:bo->bg):ay:=dB s++[(9000,.cg 1001 bn)]
def Gz (s:bL) (bn:bo->bg) (b1 b2:Nat) (c:Nat) (y:aA0):Prop:=
 y.length<=1000000/\Fn Tryz.prog 158 [ac (c:Int),c8 b1,c8 b2] (gc s bn) [] (bv .u8 y) (gc s bn)
theorem aeT (s:bL) (bn:bo->bg) (b1 b2:Nat) (O:s.z<=3) (ap:s.t.length<=256) (c:Nat) (J:c < s.t.length) (hf:(s.t[c]).1=1-> ∃xs,s.f (s.t[c]).2.1=some xs/\xs.length<=128) (y:aA0) (dy:(s.t[c]).1=0->Gz s bn b1 b2 c y):
  Fn Tryz.prog 146 [ah 1001,ac (c:Int),nA b1 b2] (gc s bn) [2001] (eX 2001) (gc s bn++[(2001,.row 5 .u8 (eR s c (some y)))]):=by
 obtain⟨de,o2,o3,u6,Ar⟩:=info_parts Lp;have hw:=u9 O
 have dF:eR s c (some y)=if(s.t[c]).1=1 then(s.f (s.t[c]).2.1).getD [] else if(s.t[c]).1=0 then(if y.length=aK s then y else kD s) else kD s:=by
  unfold eR;rw[oj J]
 refine aT [7,8] Tryz.func146 ?_;refine ak (Fn.aV [(1001,1002)] (C5 s.t ap c J)) ⟨rfl,fun h=>?_,fun h=>?_⟩
 .have h:=gd h;obtain⟨xs,hx,v6⟩:=hf h;rw[if_pos h,hx] at dF;refine⟨_,_,fun N=>Ge (d:=5001) (k:=(s.t[c]).2.1) rfl Tryz.underlying169 Tryz.underlying3 rfl o2 o3 rfl rfl rfl hx N,rfl,?_⟩;refine ak (Fn.aV [(1001,5001),(1002,2001)] (Sn xs aw0)) ⟨rfl,?_⟩;exact⟨_,_,_,ab.Gf 1004 5001 (So hx) rfl rfl aw1 (by rw[hx];rfl),rfl,rfl,⟨rfl,rfl,rfl,rfl,rfl,by rw[dF];rfl,trivial⟩,rfl⟩
 .have h:=mu h;rw[if_neg h] at dF;have m:(0:Int)<=(aK s:Nat)/\((aK s:Nat):Int)<=4294967296:=aw8
  refine⟨fun av=>?_,fun av=>?_⟩
  .have av:=gd av;obtain⟨Sp,dy⟩:=dy av;rw[if_pos av] at dF;refine⟨_,_,fun N=>aeh (.inr ⟨rfl,rfl⟩) rfl Tryz.underlying176 rfl N,rfl,?_⟩;refine ak dy <| ak (qG s O) ⟨fun G=>?_,fun G=>?_⟩
   .have G:(y.length:Int)=(aK s:Nat):=gd G;have G:y.length=aK s:=aw8
    rw[if_pos G] at dF;refine br [] (cw [(8,bv .u8 y)] (gc s bn)) <| ak (aeR y aw0) ?_;exact sJ bq rfl rfl ⟨rfl,rfl,rfl,rfl,rfl,by rw[dF];rfl,trivial⟩ rfl
   .have G: ¬(y.length:Int)=(aK s:Nat):=mu G;have G: ¬y.length=aK s:=aw8
    rw[if_neg G] at dF;refine br [] (cw [(0,ah 1001)] (gc s bn)) <| ak (qG s O) ⟨⟨rfl,m⟩,rfl,?_⟩;exact⟨_,_,_,ab.aV 45 2001 rfl,rfl,rfl,⟨rfl,rfl,rfl,rfl,rfl,by rw[dF];rfl,trivial⟩,rfl⟩
  .have av:=mu av;rw[if_neg av] at dF;refine br [] (cw [(0,ah 1001)] (gc s bn)) <| ak (qG s O) ⟨⟨rfl,m⟩,rfl,?_⟩;exact⟨_,_,_,ab.aV 45 2001 rfl,rfl,rfl,⟨rfl,rfl,rfl,rfl,rfl,by rw[dF];rfl,trivial⟩,rfl⟩
def At (s:bL) (q:fh):bL:=if q.1=1 then {s with l:=s.l.set q.2.1.toNat 0,f:=CJ s.f q.2.1} else s
theorem aeU (s:bL) (q:fh) (aP:q.1=1-> ∃h:Nat,q.2.1=(h:Int)/\s.l[h]? =some 1):Fn Tryz.prog 206 [ah 1001,.c (pZ q)] (dB s) [] gV (dB (At s q)):=by
 refine aT [] Tryz.func206 ?_;refine⟨rfl,fun E=>?_,fun E=>?_⟩
 .have E: ¬q.1=1:=by
   have E:(!decide (q.1=1))=true:=E;simpa using E
  rw[show At s q=s from if_neg E];exact bc
 .have E:q.1=1:=by
   have E:(!decide (q.1=1))=false:=E;simpa using E
  obtain⟨h,e,ap⟩:=aP E;rw[show At s q={s with l:=s.l.set q.2.1.toNat 0,f:=CJ s.f q.2.1} from if_pos E];obtain⟨k,x,o⟩:=q;simp only at e;subst e;refine ak (Fn.aV [(1001,1003),(1002,2003)] (aeN s.l h 1 ap aw1 aw1)) ⟨rfl,d7 ⟨_,_,fun N=>ac' (k:=(h:Int)) rfl Tryz.underlying169 Tryz.underlying3 rfl rfl rfl rfl N,rfl,?_⟩⟩;exact⟨rfl,bc⟩
def rQ (s:bL) (c:Nat) (q:fh):bL:=At {s with t:=s.t.set c q} (s.t.getD c cy)
theorem Lq (s:bL) (ap:s.t.length<=256) (c:Nat) (J:c < s.t.length) (q:fh) (ax:tX q) (aC:rL q=true) (aP:(s.t.getD c cy).1=1-> ∃h:Nat,(s.t.getD c cy).2.1=(h:Int)/\s.l[h]? =some 1):
  Fn Tryz.prog 164 [ah 1001,ac (c:Int),.c (pZ q)] (dB s) [] gV (dB (rQ s c q)):=by
 have e:s.t[c]=s.t.getD c cy:=by rw[ar2,oj J];rfl
 have gZ:=aeM s.t ap c J q ax aC;unfold rQ;rw[e] at gZ;generalize s.t.getD c cy=rl at aP gZ;refine aT [] Tryz.func164 ?_;refine⟨rfl,ak (Fn.aV [(1001,1002)] gZ) ⟨rfl,rfl,?_⟩⟩;exact ak (aeU {s with t:=s.t.set c q} rl aP) bc
structure m6 where
 c:Nat
 a:Nat
 b:Nat
 at_:Nat
abbrev u' (p:m6):List bC:=[.d (.int .i64 (p.c:Int)),.d (.int .i64 (p.a:Int)),.d (.int .i64 (p.b:Int)),.d (.int .i64 (p.at_:Int))]
abbrev qH (p:m6):aO:=.c (.agg (u' p))
def hr (s:bL) (c:Nat):Bool:= !u4 (s.t.getD c cy)
theorem Lr (s:bL) (ap:s.t.length<=256) (p:m6) (J:p.c < s.t.length):Fn Tryz.prog 159 [ah 1001,qH p] (dB s) [] (fk (hr s p.c)) (dB s):=by
 have e:s.t[p.c]=s.t.getD p.c cy:=by rw[ar2,oj J];rfl
 have lL:=C5 s.t ap p.c J;unfold hr;rw[e] at lL;refine aT [] Tryz.func159 ?_;exact⟨rfl,ak (Fn.aV [(1001,1002)] lL) <| ak (aeo (s.t.getD p.c cy)) ⟨rfl,bc⟩⟩
structure gG (s:bL):Prop where
 z:s.z<=3
 eN:s.t.length<=256
 ls:s.l.length<=512
 slot: ∀(c:Nat) (q:fh),s.t[c]? =some q->q=cy\/q=((2:Int),(0:Int),false)\/ ∃h:Nat,q=((1:Int),(h:Int),true)/\s.l[h]? =some 1/\ ∃xs,s.f (h:Int)=some xs/\xs.length=aK s
 inj: ∀(c d:Nat) (h:Int),s.t[c]? =some ((1:Int),h,true)->s.t[d]? =some ((1:Int),h,true)->c=d
 GA: ∀(h:Nat) n,s.l[h]? =some n->n=0\/n=1
 Au: ∀h:Nat,s.l[h]? =some 0->s.f (h:Int)=none
 GB: ∀h:Nat,s.l[h]? =some 1-> ∃c:Nat,s.t[c]? =some ((1:Int),(h:Int),true)
 dom: ∀(k:Int) xs,s.f k=some xs->xs.length<=128
def h5 (l:List Int):Nat:=l.findIdx fun n=>decide (n=0)
theorem Ls {l:List Int} (h:0 < d9 l):l[h5 l]? =some 0/\ ∀j,j < h5 l->l[j]? ≠some 0:=by
 have bx:h5 l < l.length:=by
  unfold h5;rw[List.findIdx_lt_length];unfold d9 at h;obtain⟨x,hx⟩:=List.exists_mem_of_length_pos h;rw[av0] at hx;exact⟨x,hx.1,hx.2⟩
 refine⟨?_,fun j V e=>?_⟩
 .have:=List.findIdx_getElem (xs:=l) (p:=fun n=>decide (n=0)) (w:=bx);rw[oj bx];exact congrArg some (gd this)
 .have fB:j < l.length:=aw8
  have:=List.not_of_lt_findIdx (p:=fun n=>decide (n=0)) (xs:=l) V;rw[oj fB] at e;injection e with e
  simp[e] at this
def m7 (s:bL) (c:Nat) (y:aA0):bL:=
 if hr s c=true then {s with t:=s.t.set c ((1:Int),(h5 s.l:Int),true),l:=s.l.set (h5 s.l) 1,f:=jq s.f (h5 s.l:Int) (eR s c (some y))} else s
def GC (s:bL) (p:m6) (bs:aA0):bL:={s with f:=jq s.f (s.t.getD p.c cy).2.1 (laid ((s.f (s.t.getD p.c cy).2.1).getD []) p.a (p.b - p.a) bs)}
def yc (s:bL) (p:m6) (bs:aA0) (y:aA0):bL:=GC (m7 s p.c y) p bs
abbrev Sq (bs:aA0):aX:=[(0,ah 1001),(2,bv .u8 bs),(5,ah 5)]
abbrev Sr (s:bL) (bn:bo->bg) (p:m6):ay:=(5,.cells (u' p))::gc s bn
theorem Av {t:List fh} {c:Nat} {q:fh} (h:t[c]? =some q):t.getD c cy=q:=by
 rw[ar2,h];rfl
theorem wD {s:bL} (aq:gG s) {c:Nat} (J:c < s.t.length) (y:Option aA0):(eR s c y).length=aK s:=by
 have aR:(kD s).length=aK s:=at1;have aY:s.t[c]? =some s.t[c]:=oj J;unfold eR;rw[aY];simp only;rcases aq.slot c _ aY with e |e |⟨h,e,_,xs,hx,ap⟩
 .rw[e,if_neg aw1,if_pos aw1]
  split
  .split
   .rename_i h;exact h
   .exact aR
  .exact aR
 .rw[e,if_neg aw1,if_neg aw1];exact aR
 .rw[e,if_pos rfl];simp only[hx,Option.getD_some];exact ap
theorem GD {s:bL} (aq:gG s) {c:Nat} (J:c < s.t.length):(hr s c=true/\(s.t.getD c cy=cy\/s.t.getD c cy=((2:Int),(0:Int),false)))\/(hr s c=false/\ ∃h:Nat,s.t[c]? =some ((1:Int),(h:Int),true)/\s.l[h]? =some 1/\ ∃xs,s.f (h:Int)=some xs/\xs.length=aK s):=by
 have aY:s.t[c]? =some s.t[c]:=oj J;have H:=Av aY;unfold hr u4;rw[H];rcases aq.slot c _ aY with e |e |⟨h,e,G⟩
 .rw[e];exact .inl ⟨rfl,.inl rfl⟩
 .rw[e];exact .inl ⟨rfl,.inr rfl⟩
 .rw[e] at aY⊢;exact .inr ⟨rfl,h,aY,G⟩
theorem Ss {s:bL} (h:s.z<=3):aK s<=128:=by
 have:=js h;show 16*2 ^s.z<=128;omega
theorem St {f:lm} (h: ∀(k:Int) xs,f k=some xs->xs.length<=128) {GE:Int} {ys:aA0} (aD:ys.length<=128): ∀(k:Int) xs,jq f GE ys k=some xs->xs.length<=128:=fun k xs Z=>by
 unfold jq at Z
 split at Z
 .injection Z with Z
  rw[<-Z];exact aD
 .exact h k xs Z
theorem Su {s:bL} (aq:gG s) {c:Nat} (J:c < s.t.length) (y:aA0) (aR:hr s c=true->0 < d9 s.l):
  gG (m7 s c y)/\aK (m7 s c y)=aK s/\(m7 s c y).t.length=s.t.length/\ ∃h:Nat,(m7 s c y).t[c]? =some ((1:Int),(h:Int),true)/\(m7 s c y).f (h:Int)=some (eR s c (some y)):=by
 rcases GD aq J with⟨hn,aP⟩ |⟨hn,h,E,G,xs,al,aW⟩
 .obtain⟨ky,rv⟩:=Ls (aR hn);have bx:h5 s.l < s.l.length:=(ar1.1 ky).1;have jk:=aq.Au _ ky;have dF:=wD aq J (some y);have mW:s.t[c]? =some (s.t.getD c cy):=by rw[ar2,oj J];rfl
  rw[show m7 s c y={s with t:=s.t.set c ((1:Int),(h5 s.l:Int),true),l:=s.l.set (h5 s.l) 1,f:=jq s.f (h5 s.l:Int) (eR s c (some y))} from if_pos hn];generalize eR s c (some y)=xs at dF;generalize h5 s.l=av at*
  have Sv: ∀(d:Nat),s.t[d]? ≠some ((1:Int),(av:Int),true):=fun d e=>by
   rcases aq.slot d _ e with ao |ao |⟨h,ao,al,_⟩
   .cases ao
   .cases ao
   .have:(av:Int)=(h:Int):=by injection ao with _ ao;injection ao
    have:av=h:=aw8
    subst this;rw[ky] at al
    cases al
  refine⟨⟨aq.z,by show(s.t.set _ _).length<=256;rw[List.length_set];exact aq.eN,by show(s.l.set _ _).length<=512;rw[List.length_set];exact aq.ls,fun d q aP=>?_,fun d e h H U=>?_,fun h n hn=>?_,fun h bj=>?_,fun h bj=>?_,St aq.dom (by rw[dF];exact Ss aq.z)⟩,rfl,List.length_set,av,?_,if_pos rfl⟩
  .rw[List.getElem?_set] at aP
   split at aP
   .rename_i e;subst e;injection aP with aP
    exact .inr (.inr ⟨av,aP.symm,by rw[List.getElem?_set_self bx],xs,if_pos rfl,dF⟩)
   .rcases aq.slot d q aP with e |e |⟨h,e,g1,ys,g2,c2⟩
    .exact .inl e
    .exact .inr (.inl e)
    .have a6:av≠h:=fun e=>by subst e;rw[ky] at g1;cases g1
     exact .inr (.inr ⟨h,e,by rw[List.getElem?_set_ne a6];exact g1,ys,by show(if(h:Int)=(av:Int) then some xs else s.f h)=some ys;rw[if_neg aw0];exact g2,c2⟩)
  .rw[List.getElem?_set] at H U
   split at H
   .rename_i af
    split at U
    .rename_i ao;rw[<-af,<-ao]
    .have:(av:Int)=h:=by injection H with H;injection H with _ H;injection H
     subst this;exact absurd U (Sv e)
   .split at U
    .rename_i ao;have:(av:Int)=h:=by injection U with H;injection H with _ H;injection H
     subst this;exact absurd H (Sv d)
    .exact aq.inj d e h H U
  .rw[List.getElem?_set] at hn
   split at hn
   .rename_i e;injection hn with hn
    exact .inr hn.symm
   .exact aq.GA h n hn
  .rw[List.getElem?_set] at bj
   split at bj
   .rename_i e;injection bj with bj
    exact absurd bj aw1
   .rename_i e;show(if(h:Int)=(av:Int) then some xs else s.f h)=none;rw[if_neg aw0];exact aq.Au h bj
  .by_cases e:av=h
   .subst e;exact⟨c,List.getElem?_set_self J⟩
   .rw[List.getElem?_set_ne e] at bj;obtain⟨d,H⟩:=aq.GB h bj
    have a6:c≠d:=fun ao=>by
     subst ao;rw[mW] at H;injection H with H
     rw[H] at aP;rcases aP with aP |aP <;>cases aP
    exact⟨d,by rw[List.getElem?_set_ne a6];exact H⟩
  .exact List.getElem?_set_self J
 .have e:m7 s c y=s:=if_neg (by rw[hn];decide);rw[e];refine⟨aq,rfl,rfl,h,E,?_⟩;unfold eR;rw[E];simp only[if_pos,al,Option.getD_some]
theorem Sw (s:bL) (bn:bo->bg) (b1 b2:Nat) (aq:gG s) (p:m6) (J:p.c < s.t.length) (bs:aA0) (E:p.a<=p.b) (G:p.b<=aK s) (al:bs.length=p.b - p.a) (y:aA0) (dy:(s.t[p.c]).1=0->Gz s bn b1 b2 p.c y) (aR:hr s p.c=true->0 < d9 s.l):
  Fn Tryz.prog 161 [ah 1001,qH p,bv .u8 bs,nA b1 b2] (gc s bn) [] gV (gc (yc s p bs y) bn):=by
 obtain⟨de,o2,o3,u6,Ar⟩:=info_parts Lp;have hw:=u9 aq.z;have e:s.t[p.c]=s.t.getD p.c cy:=by rw[ar2,oj J];rfl
 obtain⟨fA,hc,p2,d',va,wE⟩:=Su aq J y aR;have dF:=wD aq J (some y);unfold yc
 have f0:=aeT s bn b1 b2 aq.z aq.eN p.c J (fun h=>by
  rcases aq.slot p.c _ (oj J) with ao |ao |⟨h,ao,_,xs,hx,ap⟩
  .rw[ao] at h;cases h
  .rw[ao] at h;cases h
  .rw[ao];exact⟨xs,hx,aw0⟩) y dy
 generalize eb:m7 s p.c y=s' at fA hc p2 va wE;have uo:=Av va
 have vQ:s'.t[p.c]'aw0=((1:Int),(d':Int),true):=by
  have:=oj (l:=s'.t) (i:=p.c) aw0;rw[va] at this;injection this with this
  exact this.symm
 have C6:=C5 s'.t fA.eN p.c aw0;rw[vQ] at C6;unfold GC;rw[uo];simp only[wE,Option.getD_some];have m:(0:Int)<=(p.a:Int)/\(p.a:Int)<=(p.b:Int)/\(p.b:Int)<=(((eR s p.c (some y)).length:Nat):Int):=aw8
 have m2:p.a+(p.b - p.a)<=(eR s p.c (some y)).length:=aw8
 have v7:jq s'.f (d':Int) (laid (eR s p.c (some y)) p.a (p.b - p.a) bs)=jq s'.f (d':Int) (laid (eR s p.c (some y)) p.a (p.b - p.a) bs):=rfl;refine aT [3,5,6] Tryz.func161 ?_;refine⟨rfl,ak (Lr s aq.eN p J) ⟨fun hn=>?_,fun hn=>?_⟩⟩
 .obtain⟨ky,rv⟩:=Ls (aR hn);refine ak f0 <| br [5,6] (cw [(0,ah 1001),(2,bv .u8 bs),(5,ah 5),(8,eX 2001)] ((5,.cells (u' p))::(2001,.row 5 .u8 (eR s p.c (some y)))::gc s bn)) ?_;refine ak (Fn.aV [(1001,1003),(1002,2003)] (aeP s.l (by have:=aq.ls;omega) (h5 s.l) ky rv)) ⟨_,_,fun N=>ac8 (d:=2001) (k:=(h5 s.l:Int)) rfl Tryz.underlying169 Tryz.underlying3 rfl rfl rfl rfl rfl rfl aw1 (aq.Au _ ky) N,rfl,?_⟩;refine br [6] (cw [(0,ah 1001),(2,bv .u8 bs),(5,ah 5),(9,ac (h5 s.l:Nat))] ((5,.cells (u' p))::gc {s with l:=s.l.set (h5 s.l) 1,f:=jq s.f (h5 s.l:Int) (eR s p.c (some y))} bn)) ?_
  have gZ:Fn Tryz.prog 164 [ah 1001,ac (p.c:Int),.c (pZ ((1:Int),(h5 s.l:Int),true))] (dB {s with l:=s.l.set (h5 s.l) 1,f:=jq s.f (h5 s.l:Int) (eR s p.c (some y))}) [] gV (dB s'):=by
   have bx:h5 s.l < s.l.length:=(ar1.1 ky).1;have lq:=aq.ls
   have tO: ¬(s.t.getD p.c cy).1=1:=by
    rcases GD aq J with⟨_,h⟩ |⟨h,_⟩
    .rcases h with h |h <;>rw[h] <;>decide
    .rw[hn] at h;cases h
   have h:=Lq {s with l:=s.l.set (h5 s.l) 1,f:=jq s.f (h5 s.l:Int) (eR s p.c (some y))} aq.eN p.c J ((1:Int),(h5 s.l:Int),true) ⟨⟨by show(-1000000:Int)<=1;decide,by show(1:Int)<=1000000;decide⟩,by show(-1000000:Int)<=(h5 s.l:Int);omega,by show((h5 s.l:Nat):Int)<=1000000;omega⟩ (by
    show(if(1:Int)=1 then decide (0<=(h5 s.l:Int))&&decide ((h5 s.l:Int) < 512) else _)=true;rw[if_pos rfl,ar6 aw0,ar6 aw0];rfl) (fun h=>absurd h tO)
   rwa[show rQ {s with l:=s.l.set (h5 s.l) 1,f:=jq s.f (h5 s.l:Int) (eR s p.c (some y))} p.c ((1:Int),(h5 s.l:Int),true)=s' by
    rw[<-eb];unfold rQ At m7;rw[if_neg tO,if_pos hn]] at h
  refine ak (Fn.arg gZ ⟨rfl,rfl,az,trivial⟩) <| br [] (cw (Sq bs) (Sr s' bn p)) <| ak (Fn.aV [(1001,1002)] C6) ⟨_,_,fun N=>Lj rfl Tryz.underlying243 rfl Tryz.underlying3 rfl rfl rfl N,rfl,?_⟩;refine⟨_,_,fun N=>Ge (d:=5001) (k:=(d':Int)) rfl Tryz.underlying169 Tryz.underlying3 rfl o2 o3 rfl rfl rfl wE N,rfl,?_⟩;refine⟨m,m2,rfl,?_⟩;exact⟨_,_,_,ab.Gf 1004 5001 v7 rfl rfl aw1 (by rw[wE];rfl),rfl,trivial,az,rfl⟩
 .have fR:s=s':=by rw[<-eb];unfold m7;rw[if_neg (by rw[hn];decide)]
  subst fR;refine br [] (cw (Sq bs) (Sr s bn p)) <| ak (Fn.aV [(1001,1002)] C6) ⟨_,_,fun N=>Lj rfl Tryz.underlying243 rfl Tryz.underlying3 rfl rfl rfl N,rfl,?_⟩;refine⟨_,_,fun N=>Ge (d:=5001) (k:=(d':Int)) rfl Tryz.underlying169 Tryz.underlying3 rfl o2 o3 rfl rfl rfl wE N,rfl,?_⟩;refine⟨m,m2,rfl,?_⟩;exact⟨_,_,_,ab.Gf 1004 5001 v7 rfl rfl aw1 (by rw[wE];rfl),rfl,trivial,az,rfl⟩
def g3 (s:bL):Nat:=s.t.length*2 ^s.z
def ec (s:bL) (at_ a1:Int):Int:=if a1 < 0 then 1 else if at_ < 0\/a1 >g3 s\/at_ >g3 s - a1 then 121 else 0
theorem wF (s:bL) (aq:gG s) (at_ a1:Int):Fn Tryz.prog 144 [ah 1001,ac at_,ac a1] (dB s) [] (ac (ec s at_ a1)) (dB s):=by
 have ae:=js aq.z;have nB:=aq.eN;have E:s.t.length*2 ^s.z<=256*8:=Nat.mul_le_mul nB ae.2;have e:((s.t.length:Nat):Int)*((2 ^s.z:Nat):Int)=((g3 s:Nat):Int):=by unfold g3;rw[Int.natCast_mul]
 have ez:g3 s<=2048:=E;refine aT [1,2] Tryz.func144 ?_;refine bk.m4 112 aw1 ?_;refine br [2] (bq) <| wt rfl rfl rfl (nz s) ?_;have m1:(0:Int)<=(s.t.length:Nat)/\(0:Int)<=(s.z:Int)/\(s.z:Int)<=64:=by have:=aq.z;omega
 have m2:c3 (((s.t.length:Nat):Int)*((2 ^s.z:Nat):Int)):=by rw[e];omega
 refine⟨m1,m2,rfl,br [] (ab.sub (K':=[(1,ac at_),(2,ac a1),(7,ac (g3 s:Nat))]) (B':=dB s) ⟨rfl,rfl,e,trivial⟩ az) ⟨fun h=>?_,fun h=>?_⟩⟩
 .have h:a1 < 0:=gd h;exact ej bq rfl (show(1:Int)=ec s at_ a1 by unfold ec;rw[if_pos h])
 .have h: ¬a1 < 0:=mu h;have Lt: ∀(_:at_ < 0\/a1 >g3 s\/at_ >g3 s - a1),(121:Int)=ec s at_ a1:=fun G=>by unfold ec;rw[if_neg h,if_pos G]
  refine⟨fun E=>?_,fun E=>?_⟩
  .have E:at_ < 0:=gd E;exact ej bq rfl (Lt (.inl E))
  .have E: ¬at_ < 0:=mu E;refine⟨fun G=>?_,fun G=>?_⟩
   .have G:((g3 s:Nat):Int) < a1:=gd G;exact ej bq rfl (Lt (.inr (.inl G)))
   .have G: ¬((g3 s:Nat):Int) < a1:=mu G;have m3:c3 (((g3 s:Nat):Int) - a1):=aw8
    refine⟨m3,fun al=>?_,fun al=>?_⟩
    .have al:((g3 s:Nat):Int) - a1 < at_:=gd al;exact ej bq rfl (Lt (.inr (.inr al)))
    .have al: ¬((g3 s:Nat):Int) - a1 < at_:=mu al;exact ej bq rfl (show(0:Int)=ec s at_ a1 by unfold ec;rw[if_neg h,if_neg aw0])
def bt (W a l k:Nat):m6:=⟨16*a/W+k,16*a - (16*a/W+k)*W,min (16*(a+l) - (16*a/W+k)*W) W,(16*a/W+k)*W+(16*a - (16*a/W+k)*W) - 16*a⟩
def cK (W a l:Nat):Nat:=if l=0 then 0 else(16*(a+l)+W - 1)/W - 16*a/W
def yd (W:Nat):Prop:=W=16\/W=32\/W=64\/W=128
theorem qI {s:bL} (h:s.z<=3):yd (aK s):=by
 unfold yd aK;generalize s.z=b at h
 match b,h with
 |0,_=>exact .inl rfl
 |1,_=>exact .inr (.inl rfl)
 |2,_=>exact .inr (.inr (.inl rfl))
 |3,_=>exact .inr (.inr (.inr rfl))
theorem vb {W a l k:Nat} (cW:yd W):(0 < l/\(16*a/W+k)*W < 16*(a+l))↔k < cK W a l:=by
 unfold cK;rcases cW with rfl |rfl |rfl |rfl <;>(split <;>omega)
theorem tY {W a l k:Nat} (cW:yd W) (Z:k < cK W a l):(bt W a l k).a<=(bt W a l k).b/\(bt W a l k).b<=W/\(bt W a l k).at_+((bt W a l k).b - (bt W a l k).a)<=16*l/\(bt W a l k).c*W < 16*(a+l):=by
 have h:=(vb (a:=a) (l:=l) (k:=k) cW).2 Z;unfold bt;simp only;rcases cW with rfl |rfl |rfl |rfl <;>omega
abbrev C7 (l:Nat):aO:=.c (.one (.bM (.func (.yield l) #[] #[])))
abbrev qJ (a l:Int):ay:=[(2001,.cells [.ptr 1001 0]),(2002,.cells [.d (.int .i64 a)]),(2003,.cells [.d (.int .i64 l)])]
abbrev Sx (y W a l k:Nat):aX:=[(0,C7 y),(1,ah 2001),(2,ah 2002),(3,ah 2003),(5,ac (W:Nat)),(6,ac ((16*a:Nat):Int)),(7,ac ((16*(a+l):Nat):Int)),(8,ac ((16*a/W+k:Nat):Int))]
abbrev GF (a l:Nat) (o:bg):ay:=[(2001,.cells [.ptr 1001 0]),(2002,.cells [.d (.int .i64 (a:Int))]),(2003,.cells [.d (.int .i64 (l:Int))]),(1001,.aF o)]
abbrev aeV (y W:Nat):aX:=[(0,C7 y),(1,ah 2001),(2,ah 2002),(3,ah 2003),(5,ac (W:Nat))]
theorem aeW {W a l k:Nat} (cW:yd W):(((16*a/W+k:Nat):Int))*(W:Int)=(((16*a/W+k)*W:Nat):Int)/\max (((16*a:Nat):Int) - (((16*a/W+k)*W:Nat):Int)) 0=((bt W a l k).a:Int)/\(k < cK W a l->min (((16*(a+l):Nat):Int) - (((16*a/W+k)*W:Nat):Int)) (W:Int)=((bt W a l k).b:Int))/\(((16*a/W+k)*W:Nat):Int)+((bt W a l k).a:Int) - ((16*a:Nat):Int)=((bt W a l k).at_:Int):=by
 refine⟨by rw[Int.natCast_mul],?_,fun Z=>?_,?_⟩
 .unfold bt;simp only;omega
 .have h:=(vb (a:=a) (l:=l) (k:=k) cW).2 Z;unfold bt;simp only;omega
 .unfold bt;simp only;rcases cW with rfl |rfl |rfl |rfl <;>omega
theorem Aw (y W a l:Nat) (cW:yd W) (ha:a<=10000) (ap:l<=10000) (f':Nat->bg) (O: ∀k,Fn Tryz.prog 163 [ah 1001] [(1001,.aF (f' k))] [] (ac (W:Nat)) [(1001,.aF (f' k))])
  (aD: ∀k,k < cK W a l->xU Tryz.prog y [qH (bt W a l k)] [(1001,.aF (f' k))] (fun _:Unit=>ro true) (fun _=>[(1001,.aF (f' (k+1)))])):
  Fn Tryz.prog 186 [C7 y,ah 2001,ah 2002,ah 2003] (GF a l (f' 0)) [] (.cb []) [(1001,.aF (f' (cK W a l)))]:=by
 have ye:16<=W/\W<=128:=by rcases cW with rfl |rfl |rfl |rfl <;>omega
 refine aT [1,7] Tryz.func186 ?_;refine ak (O 0) <| br [7] (cw (aeV y W) (GF a l (f' 0))) ?_;have m1:c3 ((a:Int)*16):=aw8
 have m2:c3 ((a:Int)+(l:Int)):=aw8
 have m3:c3 (((a:Int)+(l:Int))*16):=aw8
 refine⟨m1,m2,m3,rfl,?_⟩;have bJ:((a:Int)*16)/(W:Int)=((16*a/W+0:Nat):Int):=by rcases cW with rfl |rfl |rfl |rfl <;>omega
 have jt:(0:Int)<=(a:Int)*16/\(0:Int) < (W:Int):=aw8
 have v8:16*a/W<=10000:=by rcases cW with rfl |rfl |rfl |rfl <;>omega
 have tZ:c3 (((a:Int)*16)/(W:Int)):=by rw[bJ];generalize 16*a/W=q at v8;omega
 refine⟨jt,tZ,dG [7] (X:=Nat) (Sx y W a l) (fun k=>GF a l (f' k)) (fun k=>k<=cK W a l) (fun k=>cK W a l - k) 0 (aq9 _) ?_ ?_⟩
 .exact ab.sub ⟨rfl,rfl,rfl,rfl,rfl,(by show(a:Int)*16=((16*a:Nat):Int);omega),(by show((a:Int)+(l:Int))*16=((16*(a+l):Nat):Int);omega),bJ,trivial⟩ az
 intro k Z;obtain⟨g1,g2,c2,jC⟩:=aeW (a:=a) (l:=l) (k:=k) cW;have rn:=vb (a:=a) (l:=l) (k:=k) cW
 have e5:cK W a l<=30000:=by
  unfold cK;rcases cW with rfl |rfl |rfl |rfl <;>(split <;>omega)
 have dF:(16*a/W+k)*W<=40000*128:=Nat.mul_le_mul aw0 ye.2;have out: ∀(h: ¬k < cK W a l),k=cK W a l:=fun h=>by omega
 refine⟨fun E=>?_,fun E=>?_⟩
 .have E:(0:Int) < (l:Int):=gd E;have cM:c3 (((16*a/W+k:Nat):Int)*(W:Int)):=by rw[g1];omega
  refine⟨cM,fun G=>?_,fun G=>?_⟩
  .have G:((16*a/W+k:Nat):Int)*(W:Int) < ((16*(a+l):Nat):Int):=gd G;have rR:k < cK W a l:=rn.1 ⟨aw0,by rw[g1] at G;omega⟩;have dK:c3 (((16*a:Nat):Int) - ((16*a/W+k:Nat):Int)*(W:Int)):=by rw[g1];omega
   have lr:c3 (((16*(a+l):Nat):Int) - ((16*a/W+k:Nat):Int)*(W:Int)):=by rw[g1];omega
   refine⟨cM,dK,cM,lr,rfl,?_⟩;have sQ:c3 (((16*a/W+k:Nat):Int)*(W:Int)+max (((16*a:Nat):Int) - ((16*a/W+k:Nat):Int)*(W:Int)) 0):=by rw[g1];omega
   have n5:c3 (((16*a/W+k:Nat):Int)*(W:Int)+max (((16*a:Nat):Int) - ((16*a/W+k:Nat):Int)*(W:Int)) 0 - ((16*a:Nat):Int)):=by rw[g1];omega
   refine⟨cM,sQ,n5,?_⟩
   have f0: [bC.d (.int .i64 ((16*a/W+k:Nat):Int)),.d (.int .i64 (max (((16*a:Nat):Int) - ((16*a/W+k:Nat):Int)*(W:Int)) 0)),.d (.int .i64 (min (((16*(a+l):Nat):Int) - ((16*a/W+k:Nat):Int)*(W:Int)) (W:Int))),.d (.int .i64 (((16*a/W+k:Nat):Int)*(W:Int)+max (((16*a:Nat):Int) - ((16*a/W+k:Nat):Int)*(W:Int)) 0 - ((16*a:Nat):Int)))]=u' (bt W a l k):=by
    rw[g1,g2,c2 rR,jC];rfl
   refine bk.le (ab.sub (K':=(9,ah 9)::Sx y W a l k) (B':=(9,.cells (u' (bt W a l k)))::GF a l (f' k)) az ⟨?_,rfl,rfl,rfl,rfl,trivial⟩) ?_
   .exact congrArg (fun l=>some (ba.cells l)) f0
   refine bk.gz ee aw3 ?_;refine⟨Unit,_,_,_,aD k rR,az,fun _=>rfl,fun _=>?_⟩;have n6:c3 (((16*a/W+k:Nat):Int)+1):=by generalize 16*a/W=q at v8;omega
   refine⟨n6,k+1,rR,aw0,ab.sub az az⟩
  .have G: ¬((16*a/W+k:Nat):Int)*(W:Int) < ((16*(a+l):Nat):Int):=mu G;have rR:k=cK W a l:=out fun h=>G (by have:=(rn.2 h).2;rw[g1];omega)
   subst rR;exact bc
 .have E: ¬(0:Int) < (l:Int):=mu E;have rR:k=cK W a l:=out fun h=>E (by have:=(rn.2 h).1;omega)
  subst rR;exact bc
theorem Ax (s:bL) (a l:Int):Fn Tryz.prog 145 [ah 1001,ac a,ac l] (dB s) [2001,2002,2003] (.c (.one (.cY 186 [.p 2001 0,.p 2002 0,.p 2003 0]))) (dB s++qJ a l):=by
 refine aT [] Tryz.func145 ?_;exact⟨rfl,rfl,rfl,_,_,_,(ab.aV 3 2001 rfl).trans ((ab.aV 4 2002 rfl).trans (ab.aV 5 2003 rfl)),rfl,rfl,az,rfl⟩
theorem aeX (s:bL) (aq:gG s) (c:Nat) (J:c < s.t.length):Fn Tryz.prog 146 [ah 1001,ac (c:Int),.c (.one (.bM .nilFunc))] (dB s) [] (bv .u8 (eR s c none)) (dB s):=
 Fn.d3 (aeS s aq.z aq.eN c J fun h=>by
  rcases aq.slot c _ (oj J) with ao |ao |⟨h,ao,_,xs,hx,ap⟩
  .rw[ao] at h;cases h
  .rw[ao] at h;cases h
  .rw[ao];exact⟨xs,hx,by have:=(u9 aq.z).2;omega⟩) rfl rfl
def Ay (s:bL) (a l k:Nat):aA0:=((eR s (bt (aK s) a l k).c none).take (bt (aK s) a l k).b).drop (bt (aK s) a l k).a
def yf (s:bL) (a l:Nat):Nat->aA0
 |0=>[]
 |k+1=>yf s a l k++Ay s a l k
def Lu (s:bL) (a l:Nat):aA0:=yf s a l (cK (aK s) a l)
abbrev aeY:aX:=[(3,ah 3),(9,ah 9)]
abbrev Lv (s:bL) (acc:aA0):ay:=dB s++[(3,.cells [.ptr 1001 0]),(9,.cells [.own 5002]),(5002,.row 5 .u8 acc)]
abbrev aeZ (s:bL) (acc:aA0):ay:=dB s++[(3,.cells [.ptr 1001 0]),(9,.cells [.own 33]),(33,.row 5 .u8 acc)]
theorem Sy {s:bL} (aq:gG s) {a l:Nat}: ∀k,(yf s a l k).length<=k*128
 |0=>aq4 _
 |k+1=>by
  have h:=Sy aq (a:=a) (l:=l) k
  have G:(Ay s a l k).length<=128:=by
   unfold Ay;rw[au3,ar3]
   have al:(bt (aK s) a l k).b<=128:=by
    unfold bt;simp only;have:=(u9 aq.z).2;omega
   omega
  show(yf s a l k++Ay s a l k).length<=_;rw[aq5];omega
theorem Sz (s:bL) (aq:gG s) (a l:Nat) (av:ec s a l=0):Fn Tryz.prog 87 [ah 1001,ac (a:Int),ac (l:Int)] (dB s) [] (.cb [.one (.d (.cf .u8 (Lu s a l))),dp 0]) (dB s):=by
 have cW:=qI aq.z
 have ez:(a:Int)+(l:Int)<=(g3 s:Nat):=by
  unfold ec at av
  split at av
  .cases av
  .split at av
   .cases av
   .omega
 have yg:g3 s<=2048:=Nat.mul_le_mul aq.eN (js aq.z).2;refine aT [4,5] Tryz.func87 ?_;refine⟨rfl,ak (wF s aq a l) ?_⟩;rw[av];refine cX <| br [5] (bq) ⟨rfl,br [] ((ab.wc 9 0 5002 5 .u8 rfl rfl rfl).trans (cw [(1,ac (a:Int)),(2,ac (l:Int)),(3,ah 3),(9,ah 9)] (Lv s []))) <| ak (Ax s a l) <| bk.le (cw [(21,.c (.one (.cY 186 [.p 2001 0,.p 2002 0,.p 2003 0]))),(3,ah 3),(9,ah 9)] (qJ a l++Lv s [])) <| bk.range ee [] (pl:=[22]) rfl aw3 aw3 aw3 aw3 [1001,1002,1003,1004,3,9] _ aeY (qJ a l) (fun k:Nat=>Lv s (yf s a l k)) 1001 0 (cK (aK s) a l) (fun k aE d2=>k < cK (aK s) a l/\aE=[qH (bt (aK s) a l k)]/\d2=k+1) rfl ax3 rfl rfl ?_ ?_ ?_⟩
 .rintro k aE d2 ⟨Z,rfl,rfl⟩;obtain⟨d6,cV,dN,dS⟩:=tY cW Z
  have J:(bt (aK s) a l k).c < s.t.length:=by
   have e:g3 s*16=s.t.length*aK s:=by unfold g3 aK;rw[Nat.mul_assoc,Nat.mul_comm (2 ^s.z) 16]
   have E:(bt (aK s) a l k).c*aK s < s.t.length*aK s:=aw8
   exact Nat.lt_of_mul_lt_mul_right E
  have dF:=wD aq J none;have bZ:=Sy aq (a:=a) (l:=l) k
  have rR:k<=3000:=by
   have E:=(vb (a:=a) (l:=l) (k:=k) cW).2 Z;rcases cW with e |e |e |e <;>rw[e] at E <;>omega
  have m1:(0:Int)<=((bt (aK s) a l k).a:Int)/\((bt (aK s) a l k).a:Int)<=((bt (aK s) a l k).b:Int)/\((bt (aK s) a l k).b:Int)<=(((eR s (bt (aK s) a l k).c none).length:Nat):Int):=aw8
  have m2:(yf s a l k).length+(((eR s (bt (aK s) a l k).c none).take (bt (aK s) a l k).b).drop (bt (aK s) a l k).a).length<=4294967296:=by
   rw[au3,ar3];omega
  have ae0:=aeX s aq _ J;exact⟨rfl,rfl,rfl,rfl,ak ae0 ⟨m1,m2,rfl,rfl,rfl,(cw [] (aeZ s (yf s a l (k+1)))).trans (ab.aV 33 5002 rfl)⟩⟩
 .intro y f' rS aD;exact Aw y (aK s) a l cW aw0 aw0 f' (fun k=>rS _ _ _ k k (Fn.qF _ (qG s aq.z) rfl rfl) rfl rfl) (fun k Z=>aD k _ (k+1) ⟨Z,rfl,rfl⟩)
 .refine⟨_,_,_,ab.d3 5002 rfl,rfl,az,az,rfl⟩
theorem ae1 (s:bL) (aq:gG s) (a l:Int) (av:ec s a l≠0):Fn Tryz.prog 87 [ah 1001,ac a,ac l] (dB s) [] (.cb [.one .dH,dp (ec s a l)]) (dB s):=by
 refine aT [] Tryz.func87 ?_;refine⟨rfl,ak (wF s aq a l) ?_⟩;exact⟨fun _=>bc,fun h=>absurd (show ec s a l=0 by have h:(!decide (ec s a l=0))=false:=h;simpa using h) av⟩
theorem sR {s:bL} (aq:gG s) {a l:Nat} (ez:a+l<=g3 s) {k:Nat} (Z:k < cK (aK s) a l):(bt (aK s) a l k).c < s.t.length/\k<=3000:=by
 have cW:=qI aq.z;have yg:g3 s<=2048:=Nat.mul_le_mul aq.eN (js aq.z).2;obtain⟨d6,cV,dN,dS⟩:=tY cW Z;refine⟨?_,?_⟩
 .have e:g3 s*16=s.t.length*aK s:=by unfold g3 aK;rw[Nat.mul_assoc,Nat.mul_comm (2 ^s.z) 16]
  have E:(bt (aK s) a l k).c*aK s < s.t.length*aK s:=aw8
  exact Nat.lt_of_mul_lt_mul_right E
 .have E:=(vb (a:=a) (l:=l) (k:=k) cW).2 Z;rcases cW with e |e |e |e <;>rw[e] at E <;>omega
theorem qK {s:bL} {a l:Nat} (av:ec s a l=0):a+l<=g3 s:=by
 unfold ec at av
 split at av
 .cases av
 .split at av
  .cases av
  .omega
def h6 (s:bL) (a l:Nat):Nat->Nat
 |0=>0
 |k+1=>h6 s a l k+(if hr s (bt (aK s) a l k).c=true then 1 else 0)
def rT (bs:aA0) (p:m6):aA0:=(bs.take (p.at_+p.b - p.a)).drop p.at_
def i1 (s:bL) (a l:Nat) (bs:aA0) (y:Nat->aA0):Nat->bL
 |0=>s
 |k+1=>yc (i1 s a l bs y k) (bt (aK s) a l k) (rT bs (bt (aK s) a l k)) (y (bt (aK s) a l k).c)
theorem ae2 (s:bL) (a l k:Nat):h6 s a l k<=k:=by
 induction k with
 |zero=>exact aq4 _
 |succ k bu=>
  show h6 s a l k+_<=k+1
  split <;>omega
abbrev Lw (s:bL) (bn:bo->bg) (bs:aA0) (b1 b2:Nat) (n:Nat):ay:=gc s bn++[(4,.cells [.ptr 1001 0]),(6,.cells [.d (.cf .u8 bs)]),(7,.cells [.d (.fn (158,[b1,b2]))]),(11,.cells [.d (.int .i64 (n:Int))])]
abbrev C8 (s:bL) (bn:bo->bg) (bs:aA0) (b1 b2:Nat):ay:=gc s bn++[(4,.cells [.ptr 1001 0]),(6,.cells [.d (.cf .u8 bs)]),(7,.cells [.d (.fn (158,[b1,b2]))])]
abbrev Lx (a l:Nat):aX:=[(1,ac (a:Int)),(4,ah 4),(6,ah 6),(7,ah 7),(9,ac (l:Int))]
abbrev Ly (a l:Nat):aX:=[(1,ac (a:Int)),(4,ah 4),(6,ah 6),(7,ah 7),(9,ac (l:Int)),(11,ah 11)]
theorem ae3 (s:bL) (bn:bo->bg) (b1 b2:Nat) (aq:gG s) (a l:Nat) (bs:aA0) (gE:bs.length=16*l) (av:ec s a l=0) (y:Nat->aA0) (r:Int) (s':bL) (fH:d9 s.l < h6 s a l (cK (aK s) a l)->r=120/\s'=s) (Lz:h6 s a l (cK (aK s) a l)<=d9 s.l->r=0/\s'=i1 s a l bs y (cK (aK s) a l))
  (d':h6 s a l (cK (aK s) a l)<=d9 s.l-> ∀k,k < cK (aK s) a l->Fn Tryz.prog 161 [ah 1001,qH (bt (aK s) a l k),bv .u8 (rT bs (bt (aK s) a l k)),nA b1 b2] (gc (i1 s a l bs y k) bn) [] gV (gc (i1 s a l bs y (k+1)) bn)) (Az:h6 s a l (cK (aK s) a l)<=d9 s.l-> ∀k,k<=cK (aK s) a l->(i1 s a l bs y k).z=s.z):
  Fn Tryz.prog 106 [ah 1001,ac (a:Int),bv .u8 bs,nA b1 b2] (gc s bn) [] (ac r) (gc s' bn):=by
 have cW:=qI aq.z;have ez:=qK av;have yg:g3 s<=2048:=Nat.mul_le_mul aq.eN (js aq.z).2;have aP:((bs.length:Nat):Int)/16=(l:Int):=aw8
 have aC:((bs.length:Nat):Int) % 16=0:=aw8
 refine aT [4,7,8,12,14,17] Tryz.func106 ?_;refine⟨rfl,rfl,rfl,?_⟩;have m1:(0:Int)<=((bs.length:Nat):Int)/\(0:Int) < 16:=aw8
 have m2:c3 (((bs.length:Nat):Int)/16):=aw8
 have m3:c3 (((bs.length:Nat):Int) % 16):=aw8
 refine⟨m1,m2,m1,m3,?_⟩
 refine⟨fun h=>(by
  have h:(!decide ((((bs.length:Nat):Int)) % 16=0))=true:=h;rw[ar6 aC] at h
  cases h),fun _=>?_⟩
 refine br [7] (ab.sub (K':=[(1,ac (a:Int)),(4,ah 4),(6,ah 6),(7,ah 7),(9,ac (l:Int))]) (B':=C8 s bn bs b1 b2) ⟨rfl,rfl,rfl,rfl,aP,trivial⟩ az) <| ak (wF s aq a l) ?_;rw[av];refine cX <| br [8] (bq) ⟨rfl,br [] (cw (Ly a l) (Lw s bn bs b1 b2 0)) <| ak (Ax s a l) <| bk.le (cw ((31,.c (.one (.cY 186 [.p 2001 0,.p 2002 0,.p 2003 0])))::Ly a l) (qJ a l++Lw s bn bs b1 b2 0)) <| bk.range ee [] (pl:=[32]) rfl aw3 aw3 aw3 aw3 [1001,1002,1003,1004,9000,4,6,7,11] _ (Ly a l) (qJ a l) (fun k:Nat=>Lw s bn bs b1 b2 (h6 s a l k)) 1001 0 (cK (aK s) a l) (fun k aE d2=>k < cK (aK s) a l/\aE=[qH (bt (aK s) a l k)]/\d2=k+1) rfl ax3 rfl rfl ?_ ?_ ?_⟩
 .rintro k aE d2 ⟨Z,rfl,rfl⟩;obtain⟨J,rR⟩:=sR aq ez Z;have LA:=ae2 s a l k;refine⟨rfl,rfl,rfl,rfl,ak (Lr s aq.eN _ J) ⟨fun hn=>?_,fun hn=>?_⟩⟩
  .have e:((h6 s a l k:Nat):Int)+1=((h6 s a l (k+1):Nat):Int):=by
    show _=((h6 s a l k+_:Nat):Int);rw[if_pos hn];omega
   have jt:c3 (((h6 s a l k:Nat):Int)+1):=aw8
   refine⟨jt,?_⟩;exact⟨rfl,ab.sub trivial ⟨rfl,rfl,rfl,rfl,rfl,rfl,rfl,rfl,by rw[<-e];rfl,trivial⟩⟩
  .have e:h6 s a l (k+1)=h6 s a l k:=by
    show h6 s a l k+_=_;rw[if_neg (by rw[hn];decide)];exact Nat.add_zero _
   exact⟨rfl,ab.sub trivial ⟨rfl,rfl,rfl,rfl,rfl,rfl,rfl,rfl,by rw[e];rfl,trivial⟩⟩
 .intro y f' rS aD;exact Aw y (aK s) a l cW aw0 aw0 f' (fun k=>rS _ _ _ k k (Fn.qF [(9000,.cg 1001 bn),(4,.cells [.ptr 1001 0]),(6,.cells [.d (.cf .u8 bs)]),(7,.cells [.d (.fn (158,[b1,b2]))]),(11,.cells [.d (.int .i64 (h6 s a l k:Int))])] (qG s aq.z) rfl rfl) rfl rfl) (fun k Z=>aD k _ (k+1) ⟨Z,rfl,rfl⟩)
 .have aR:d9 s.l<=512:=au4 (Lo _) aq.ls;refine br [14,17] (bq) ?_;refine ak (Sm s (by have:=aq.ls;omega)) ⟨rfl,fun h=>?_,fun h=>?_⟩
  .have h:((d9 s.l:Nat):Int) < ((h6 s a l (cK (aK s) a l):Nat):Int):=gd h;obtain⟨rfl,rfl⟩:=fH aw0;exact bc
  have h: ¬((d9 s.l:Nat):Int) < ((h6 s a l (cK (aK s) a l):Nat):Int):=mu h;have dR:h6 s a l (cK (aK s) a l)<=d9 s.l:=aw8
  obtain⟨rfl,rfl⟩:=Lz dR;have d':=d' dR;have Az:=Az dR;refine br [17] (cw (Lx a l) (C8 s bn bs b1 b2)) <| ak (Ax s a l) <| bk.le (cw ((45,.c (.one (.cY 186 [.p 2001 0,.p 2002 0,.p 2003 0])))::Lx a l) (qJ a l++C8 s bn bs b1 b2)) <| bk.range ee [] (pl:=[46]) rfl aw3 aw3 aw3 aw3 [1001,1002,1003,1004,9000,4,6,7] _ (Lx a l) (qJ a l) (fun k:Nat=>C8 (i1 s a l bs y k) bn bs b1 b2) 1001 0 (cK (aK s) a l) (fun k aE d2=>k < cK (aK s) a l/\aE=[qH (bt (aK s) a l k)]/\d2=k+1) rfl ax3 rfl rfl ?_ ?_ ?_
  .rintro k aE d2 ⟨Z,rfl,rfl⟩;obtain⟨J,rR⟩:=sR aq ez Z;obtain⟨d6,cV,dN,dS⟩:=tY cW Z;have d':=d' k Z;have hw:=u9 aq.z;refine⟨rfl,rfl,rfl,rfl,?_⟩
   have hx:rT bs (bt (aK s) a l k)=(bs.take (((bt (aK s) a l k).at_:Int)+((bt (aK s) a l k).b:Int) - ((bt (aK s) a l k).a:Int)).toNat).drop (((bt (aK s) a l k).at_:Int)).toNat:=by
    unfold rT;rw[show(((bt (aK s) a l k).at_:Int)+((bt (aK s) a l k).b:Int) - ((bt (aK s) a l k).a:Int)).toNat=(bt (aK s) a l k).at_+(bt (aK s) a l k).b - (bt (aK s) a l k).a by omega];rfl
   have jt:c3 (((bt (aK s) a l k).at_:Int)+((bt (aK s) a l k).b:Int)):=aw8
   have tZ:c3 (((bt (aK s) a l k).at_:Int)+((bt (aK s) a l k).b:Int) - ((bt (aK s) a l k).a:Int)):=aw8
   have rU:(0:Int)<=((bt (aK s) a l k).at_:Int)/\((bt (aK s) a l k).at_:Int)<=((bt (aK s) a l k).at_:Int)+((bt (aK s) a l k).b:Int) - ((bt (aK s) a l k).a:Int)/\((bt (aK s) a l k).at_:Int)+((bt (aK s) a l k).b:Int) - ((bt (aK s) a l k).a:Int)<=((bs.length:Nat):Int):=aw8
   rw[hx] at d';exact⟨jt,tZ,rU,ak d' ⟨rfl,rfl,ab.sub trivial az⟩⟩
  .intro yh f' rS aD
   have h:=Aw yh (aK s) a l cW aw0 aw0 (fun k=>f' (min k (cK (aK s) a l))) (fun k=>rS _ _ _ (min k (cK (aK s) a l)) (min k (cK (aK s) a l)) (by
    have O:=Az (min k (cK (aK s) a l)) (Nat.min_le_right _ _);have G:=qG (i1 s a l bs y (min k (cK (aK s) a l))) (by rw[O];exact aq.z);rw[show aK (i1 s a l bs y (min k (cK (aK s) a l)))=aK s from congrArg (fun b=>16*2 ^b) O] at G
    exact Fn.qF [(9000,.cg 1001 bn),(4,.cells [.ptr 1001 0]),(6,.cells [.d (.cf .u8 bs)]),(7,.cells [.d (.fn (158,[b1,b2]))])] G rfl rfl) rfl rfl) (fun k Z=>by
    have h:=aD k _ (k+1) ⟨Z,rfl,rfl⟩;rw[Nat.min_eq_left aw0,Nat.min_eq_left aw0];exact h)
   simp only[Nat.zero_min,Nat.min_self] at h;exact h
  .show bk _ _ _ _ _ _ _;exact br [] (bq) bc
theorem ae4 (s:bL) (bn:bo->bg) (b1 b2:Nat) (a:Int) (bs:aA0) (h:bs.length % 16≠0) (ap:bs.length<=1000000000):Fn Tryz.prog 106 [ah 1001,ac a,bv .u8 bs,nA b1 b2] (gc s bn) [] (ac 1) (gc s bn):=by
 have aC: ¬((bs.length:Nat):Int) % 16=0:=aw8
 refine aT [] Tryz.func106 ?_;refine⟨rfl,rfl,rfl,?_⟩;have m1:(0:Int)<=((bs.length:Nat):Int)/\(0:Int) < 16:=aw8
 have m2:c3 (((bs.length:Nat):Int)/16):=aw8
 have m3:c3 (((bs.length:Nat):Int) % 16):=aw8
 refine⟨m1,m2,m1,m3,?_⟩
 refine⟨fun _=>?_,fun h=>(by
  have h:(!decide ((((bs.length:Nat):Int)) % 16=0))=false:=h;rw[at3 aC] at h
  cases h)⟩
 exact bc
theorem ae5 (s:bL) (bn:bo->bg) (b1 b2:Nat) (aq:gG s) (a:Int) (l:Nat) (bs:aA0) (gE:bs.length=16*l) (ap:l<=100000000) (av:ec s a l≠0):Fn Tryz.prog 106 [ah 1001,ac a,bv .u8 bs,nA b1 b2] (gc s bn) [] (ac (ec s a l)) (gc s bn):=by
 have aP:((bs.length:Nat):Int)/16=(l:Int):=aw8
 have aC:((bs.length:Nat):Int) % 16=0:=aw8
 refine aT [4] Tryz.func106 ?_;refine⟨rfl,rfl,rfl,?_⟩;have m1:(0:Int)<=((bs.length:Nat):Int)/\(0:Int) < 16:=aw8
 have m2:c3 (((bs.length:Nat):Int)/16):=aw8
 have m3:c3 (((bs.length:Nat):Int) % 16):=aw8
 refine⟨m1,m2,m1,m3,?_⟩
 refine⟨fun h=>(by
  have h:(!decide ((((bs.length:Nat):Int)) % 16=0))=true:=h;rw[ar6 aC] at h
  cases h),fun _=>?_⟩
 refine br [] (ab.sub (K':=[(1,ac a),(4,ah 4),(9,ac (l:Int))]) (B':=C8 s bn bs b1 b2) ⟨rfl,rfl,aP,trivial⟩ az) <| ak (wF s aq a l) ?_;exact⟨fun _=>bc,fun h=>absurd (show ec s a l=0 by have h:(!decide (ec s a l=0))=false:=h;simpa using h) av⟩
def jJ (s:bL) (a l:Nat):Nat->bL
 |0=>s
 |k+1=>if(bt (aK s) a l k).b - (bt (aK s) a l k).a=aK s then rQ (jJ s a l k) (bt (aK s) a l k).c cy else jJ s a l k
abbrev LB (s:bL):ay:=dB s++[(3,.cells [.ptr 1001 0])]
abbrev SA:aX:=[(3,ah 3)]
theorem ae6 (s:bL) (aq:gG s) (a l:Nat) (av:ec s a l=0) (d': ∀k,k < cK (aK s) a l->Fn Tryz.prog 164 [ah 1001,ac ((bt (aK s) a l k).c:Int),.c (pZ cy)] (dB (jJ s a l k)) [] gV (dB (rQ (jJ s a l k) (bt (aK s) a l k).c cy))) (Az: ∀k,k<=cK (aK s) a l->(jJ s a l k).z=s.z):
  Fn Tryz.prog 110 [ah 1001,ac (a:Int),ac (l:Int)] (dB s) [] (ac 0) (dB (jJ s a l (cK (aK s) a l))):=by
 have cW:=qI aq.z;have hw:=u9 aq.z;have ez:=qK av;have yg:g3 s<=2048:=Nat.mul_le_mul aq.eN (js aq.z).2;refine aT [4,8] Tryz.func110 ?_;refine⟨rfl,ak (wF s aq a l) ?_⟩;rw[av];refine cX <| br [8] (cw [(1,ac (a:Int)),(2,ac (l:Int)),(3,ah 3)] (LB s)) <| ak (Ax s a l) <| bk.le (cw ((19,.c (.one (.cY 186 [.p 2001 0,.p 2002 0,.p 2003 0])))::SA) (qJ a l++LB s)) <| bk.range ee [] (pl:=[20]) rfl aw3 aw3 aw3 aw3 [1001,1002,1003,1004,3] _ SA (qJ a l) (fun k:Nat=>LB (jJ s a l k)) 1001 0 (cK (aK s) a l) (fun k aE d2=>k < cK (aK s) a l/\aE=[qH (bt (aK s) a l k)]/\d2=k+1) rfl ax3 rfl rfl ?_ ?_ ?_
 .rintro k aE d2 ⟨Z,rfl,rfl⟩;obtain⟨d6,cV,dN,dS⟩:=tY cW Z;have d':=d' k Z;have O:=Az k (Nat.le_of_lt Z);have G:=qG (jJ s a l k) (by rw[O];exact aq.z);rw[show aK (jJ s a l k)=aK s from congrArg (fun b=>16*2 ^b) O] at G;have jt:c3 (((bt (aK s) a l k).b:Int) - ((bt (aK s) a l k).a:Int)):=aw8
  refine⟨rfl,rfl,rfl,rfl,jt,ak G ⟨rfl,fun h=>?_,fun h=>?_⟩⟩
  .have h:((bt (aK s) a l k).b:Int) - ((bt (aK s) a l k).a:Int)=((aK s:Nat):Int):=gd h;have e:jJ s a l (k+1)=rQ (jJ s a l k) (bt (aK s) a l k).c cy:=if_pos aw0;refine ak (Fn.arg d' ⟨rfl,rfl,az,trivial⟩) ?_;rw[e];exact⟨rfl,ab.sub trivial az⟩
  .have h: ¬((bt (aK s) a l k).b:Int) - ((bt (aK s) a l k).a:Int)=((aK s:Nat):Int):=mu h;have e:jJ s a l (k+1)=jJ s a l k:=if_neg aw0;rw[e];exact⟨rfl,ab.sub trivial az⟩
 .intro yh f' rS aD
  have h:=Aw yh (aK s) a l cW aw0 aw0 (fun k=>f' (min k (cK (aK s) a l))) (fun k=>rS _ _ _ (min k (cK (aK s) a l)) (min k (cK (aK s) a l)) (by
   have O:=Az (min k (cK (aK s) a l)) (Nat.min_le_right _ _);have G:=qG (jJ s a l (min k (cK (aK s) a l))) (by rw[O];exact aq.z);rw[show aK (jJ s a l (min k (cK (aK s) a l)))=aK s from congrArg (fun b=>16*2 ^b) O] at G
   exact Fn.qF [(3,.cells [.ptr 1001 0])] G rfl rfl) rfl rfl) (fun k Z=>by
   have h:=aD k _ (k+1) ⟨Z,rfl,rfl⟩;rw[Nat.min_eq_left aw0,Nat.min_eq_left aw0];exact h)
  simp only[Nat.zero_min,Nat.min_self] at h;exact h
 .show bk _ _ _ _ _ _ _;exact br [] (bq) bc
theorem ae7 (s:bL) (aq:gG s) (a l:Int) (av:ec s a l≠0):Fn Tryz.prog 110 [ah 1001,ac a,ac l] (dB s) [] (ac (ec s a l)) (dB s):=by
 refine aT [] Tryz.func110 ?_;refine⟨rfl,ak (wF s aq a l) ?_⟩;exact⟨fun _=>bc,fun h=>absurd (show ec s a l=0 by have h:(!decide (ec s a l=0))=false:=h;simpa using h) av⟩
end
section
def lu (s:bL) (p:m6):Bool:=decide (p.b - p.a=aK s)
theorem SB (s:bL) (O:s.z<=3) (p:m6) (E:p.a<=p.b) (G:p.b<=1000):Fn Tryz.prog 162 [qH p,ah 4] (dB s++[(4,.cells [.ptr 1001 0])]) [] (fk (lu s p)) (dB s++[(4,.cells [.ptr 1001 0])]):=by
 have jt:c3 ((p.b:Int) - (p.a:Int)):=aw8
 refine aT [] Tryz.func162 ?_;refine⟨rfl,jt,ak (qG s O) ⟨rfl,_,_,_,bq,rfl,?_,az,rfl⟩⟩;show decide ((p.b:Int) - (p.a:Int)=((aK s:Nat):Int))=lu s p;unfold lu;exact decide_eq_decide.2 aw0
def oo (s:bL) (p:m6):Bool:= !lu s p&&(decide ((s.t.getD p.c cy).1≠2)&&hr s p.c)
def hH (s:bL) (a l:Nat):Nat->Nat
 |0=>0
 |k+1=>hH s a l k+(if oo s (bt (aK s) a l k)=true then 1 else 0)
theorem ae8 (s:bL) (a l k:Nat):hH s a l k<=k:=by
 induction k with
 |zero=>exact aq4 _
 |succ k bu=>
  show hH s a l k+_<=k+1
  split <;>omega
abbrev AA:fh:=((2:Int),(0:Int),false)
abbrev C9 (n:Nat):aA0:=List.replicate n (0:UInt8)
def yi (s:bL) (p:m6) (y:aA0):bL:=if lu s p=true then rQ s p.c AA else if(s.t.getD p.c cy).1=2 then s else yc s p (C9 (p.b - p.a)) y
def fd (s:bL) (a l:Nat) (y:Nat->aA0):Nat->bL
 |0=>s
 |k+1=>yi (fd s a l y k) (bt (aK s) a l k) (y (bt (aK s) a l k).c)
abbrev yj (s:bL) (bn:bo->bg) (b1 b2:Nat):ay:=gc s bn++[(4,.cells [.ptr 1001 0]),(7,.cells [.d (.fn (158,[b1,b2]))]),(10,.cells [.cY 162 [.p 4 0]])]
abbrev GG (s:bL) (bn:bo->bg) (b1 b2:Nat) (n:Nat):ay:=gc s bn++[(4,.cells [.ptr 1001 0]),(7,.cells [.d (.fn (158,[b1,b2]))]),(10,.cells [.cY 162 [.p 4 0]]),(11,.cells [.d (.int .i64 (n:Int))])]
abbrev GH (a l:Nat):aX:=[(1,ac (a:Int)),(2,ac (l:Int)),(4,ah 4),(7,ah 7),(10,ah 10)]
abbrev ae9:aX:=[(1000000+116,.undef),(1000000+159,.undef)]
abbrev LC (a l:Nat):aX:=ae9++[(1,ac (a:Int)),(2,ac (l:Int)),(4,ah 4),(7,ah 7),(10,ah 10),(11,ah 11)]
theorem AB (s:bL) (ap:s.t.length<=256) (c:Nat) (J:c < s.t.length):Fn Tryz.prog 116 [ah 1001,ac (c:Int)] (dB s) [] (ac (s.t.getD c cy).1) (dB s):=by
 have h:=aeQ s ap c J;have e:s.t[c]=s.t.getD c cy:=by rw[ar2,oj J];rfl
 rwa[e] at h
theorem ae' (s:bL) (bn:bo->bg) (b1 b2:Nat) (aq:gG s) (a l:Nat) (av:ec s a l=0) (y:Nat->aA0) (r:Int) (s':bL) (fH:d9 s.l < hH s a l (cK (aK s) a l)->r=120/\s'=s) (Lz:hH s a l (cK (aK s) a l)<=d9 s.l->r=0/\s'=fd s a l y (cK (aK s) a l))
  (GI:hH s a l (cK (aK s) a l)<=d9 s.l-> ∀k,k<=cK (aK s) a l->gG (fd s a l y k)/\(fd s a l y k).z=s.z/\(fd s a l y k).t.length=s.t.length)
  (gZ:hH s a l (cK (aK s) a l)<=d9 s.l-> ∀k,k < cK (aK s) a l->lu s (bt (aK s) a l k)=true->Fn Tryz.prog 164 [ah 1001,ac ((bt (aK s) a l k).c:Int),.c (pZ AA)] (dB (fd s a l y k)) [] gV (dB (fd s a l y (k+1))))
  (rV:hH s a l (cK (aK s) a l)<=d9 s.l-> ∀k,k < cK (aK s) a l->lu s (bt (aK s) a l k)=false->((fd s a l y k).t.getD (bt (aK s) a l k).c cy).1≠2->Fn Tryz.prog 161 [ah 1001,qH (bt (aK s) a l k),bv .u8 (C9 ((bt (aK s) a l k).b - (bt (aK s) a l k).a)),nA b1 b2] (gc (fd s a l y k) bn) [] gV (gc (fd s a l y (k+1)) bn)):
  Fn Tryz.prog 108 [ah 1001,ac (a:Int),ac (l:Int),nA b1 b2] (gc s bn) [] (ac r) (gc s' bn):=by
 have cW:=qI aq.z;have hw:=u9 aq.z;have ez:=qK av;have yg:g3 s<=2048:=Nat.mul_le_mul aq.eN (js aq.z).2;refine aT [4,5,6,10,12,18] Tryz.func108 ?_;refine⟨rfl,rfl,ak (wF s aq a l) ?_⟩;rw[av];refine cX <| br [5,6] (bq) ⟨rfl,br [6] (cw (GH a l) (yj s bn b1 b2)) ⟨rfl,bk.m4 159 aw1 (bk.m4 116 aw1 <| br [] (ab.sub (K':=LC a l) (B':=GG s bn b1 b2 0) ⟨trivial,trivial,rfl,rfl,rfl,rfl,rfl,rfl,trivial⟩ az) <| ak (Ax s a l) <| bk.le (ab.sub (K':=(25,.c (.one (.cY 186 [.p 2001 0,.p 2002 0,.p 2003 0])))::LC a l) (B':=qJ a l++GG s bn b1 b2 0) ⟨rfl,trivial,trivial,rfl,rfl,rfl,rfl,rfl,rfl,trivial⟩ az) <| bk.range ee [9] (pl:=[26]) rfl aw3 aw3 aw3 aw3 [1001,1002,1003,1004,9000,4,7,10,11] _ (LC a l) (qJ a l) (fun k:Nat=>GG s bn b1 b2 (hH s a l k)) 1001 0 (cK (aK s) a l) (fun k aE d2=>k < cK (aK s) a l/\aE=[qH (bt (aK s) a l k)]/\d2=k+1) rfl (by exact⟨trivial,trivial,rfl,rfl,rfl,rfl,rfl,rfl,trivial⟩) rfl rfl ?_ ?_ ?_)⟩⟩
 .rintro k aE d2 ⟨Z,rfl,rfl⟩;obtain⟨J,rR⟩:=sR aq ez Z;obtain⟨d6,cV,dN,dS⟩:=tY cW Z;have LA:=ae8 s a l k
  have bJ:oo s (bt (aK s) a l k)=false->hH s a l (k+1)=hH s a l k:=fun hn=>by
   show hH s a l k+_=_;rw[if_neg (by rw[hn];decide)];exact Nat.add_zero _
  have af:oo s (bt (aK s) a l k)=true->((hH s a l k:Nat):Int)+1=((hH s a l (k+1):Nat):Int):=fun hn=>by
   show _=((hH s a l k+_:Nat):Int);rw[if_pos hn];omega
  have jt:c3 (((hH s a l k:Nat):Int)+1):=aw8
  have GJ:=SB s aq.z (bt (aK s) a l k) d6 aw0;refine⟨rfl,rfl,rfl,rfl,ak GJ ⟨fun hn=>?_,fun hn=>?_⟩⟩
  .have hn:lu s (bt (aK s) a l k)=false:=by simpa using hn
   refine wt rfl rfl rfl (AB s aq.eN _ J) ⟨fun hC=>?_,fun hC=>?_⟩
   .have hC: ¬(s.t.getD (bt (aK s) a l k).c cy).1=2:=by
     have hC:(!decide ((s.t.getD (bt (aK s) a l k).c cy).1=2))=true:=hC;simpa using hC
    refine wt rfl rfl rfl (Lr s aq.eN _ J) ⟨fun F5=>?_,fun F5=>?_⟩
    .have aR:oo s (bt (aK s) a l k)=true:=by
      unfold oo;rw[hn,ar6 hC,F5];rfl
     refine br [] (cw [(11,ah 11)] (GG s bn b1 b2 (hH s a l k))) ⟨jt,?_⟩;exact⟨rfl,ab.sub trivial ⟨rfl,rfl,rfl,rfl,rfl,rfl,rfl,rfl,by rw[<-af aR];rfl,trivial⟩⟩
    .have aR:oo s (bt (aK s) a l k)=false:=by
      unfold oo;rw[F5,Bool.and_false,Bool.and_false]
     exact⟨rfl,ab.sub trivial ⟨rfl,rfl,rfl,rfl,rfl,rfl,rfl,rfl,by rw[bJ aR];rfl,trivial⟩⟩
   .have hC:(s.t.getD (bt (aK s) a l k).c cy).1=2:=by
     have hC:(!decide ((s.t.getD (bt (aK s) a l k).c cy).1=2))=false:=hC;simpa using hC
    have aR:oo s (bt (aK s) a l k)=false:=by
     unfold oo;rw[at3 (fun h=>h hC),Bool.false_and,Bool.and_false]
    exact⟨rfl,ab.sub trivial ⟨rfl,rfl,rfl,rfl,rfl,rfl,rfl,rfl,by rw[bJ aR];rfl,trivial⟩⟩
  .have hn:lu s (bt (aK s) a l k)=true:=by simpa using hn
   have aR:oo s (bt (aK s) a l k)=false:=by
    unfold oo;rw[hn];rfl
   exact⟨rfl,ab.sub trivial ⟨rfl,rfl,rfl,rfl,rfl,rfl,rfl,rfl,by rw[bJ aR];rfl,trivial⟩⟩
 .intro yh f' rS aD;exact Aw yh (aK s) a l cW aw0 aw0 f' (fun k=>rS _ _ _ k k (Fn.qF [(9000,.cg 1001 bn),(4,.cells [.ptr 1001 0]),(7,.cells [.d (.fn (158,[b1,b2]))]),(10,.cells [.cY 162 [.p 4 0]]),(11,.cells [.d (.int .i64 (hH s a l k:Int))])] (qG s aq.z) rfl rfl) rfl rfl) (fun k Z=>aD k _ (k+1) ⟨Z,rfl,rfl⟩)
 .have aR:d9 s.l<=512:=au4 (Lo _) aq.ls;refine br [12,18] (bq) ?_;refine ak (Sm s (by have:=aq.ls;omega)) ⟨rfl,fun h=>?_,fun h=>?_⟩
  .have h:((d9 s.l:Nat):Int) < ((hH s a l (cK (aK s) a l):Nat):Int):=gd h;obtain⟨rfl,rfl⟩:=fH aw0;exact bc
  have h: ¬((d9 s.l:Nat):Int) < ((hH s a l (cK (aK s) a l):Nat):Int):=mu h;have dR:hH s a l (cK (aK s) a l)<=d9 s.l:=aw8
  obtain⟨rfl,rfl⟩:=Lz dR;have GI:=GI dR;have gZ:=gZ dR;have rV:=rV dR;refine br [18] (cw (GH a l) (yj s bn b1 b2)) <| ak (Ax s a l) <| bk.le (cw ((52,.c (.one (.cY 186 [.p 2001 0,.p 2002 0,.p 2003 0])))::GH a l) (qJ a l++yj s bn b1 b2)) <| bk.range ee [15,16,17] (pl:=[53]) rfl aw3 aw3 aw3 aw3 [1001,1002,1003,1004,9000,4,7,10] _ (GH a l) (qJ a l) (fun k:Nat=>yj (fd s a l y k) bn b1 b2) 1001 0 (cK (aK s) a l) (fun k aE d2=>k < cK (aK s) a l/\aE=[qH (bt (aK s) a l k)]/\d2=k+1) rfl ax3 rfl rfl ?_ ?_ ?_
  .rintro k aE d2 ⟨Z,rfl,rfl⟩;obtain⟨J,rR⟩:=sR aq ez Z;obtain⟨d6,cV,dN,dS⟩:=tY cW Z;obtain⟨fA,hc,p2⟩:=GI k (Nat.le_of_lt Z);have gZ:=gZ k Z;have rV:=rV k Z;have SC:aK (fd s a l y k)=aK s:=congrArg (fun b=>16*2 ^b) hc;have GJ:=SB (fd s a l y k) fA.z (bt (aK s) a l k) d6 aw0;rw[show lu (fd s a l y k) (bt (aK s) a l k)=lu s (bt (aK s) a l k) by unfold lu;rw[SC]] at GJ
   have afa:lu s (bt (aK s) a l k)=false->lu (fd s a l y k) (bt (aK s) a l k)=false:=fun h=>by
    unfold lu;rw[SC];exact h
   have afb:fd s a l y (k+1)=yi (fd s a l y k) (bt (aK s) a l k) (y (bt (aK s) a l k).c):=rfl;refine⟨rfl,rfl,rfl,rfl,ak GJ ⟨fun hn=>?_,fun hn=>?_⟩⟩
   .have gZ:=gZ hn;exact br [] (cw [(4,ah 4),(13,ah 13)] ((13,.cells (u' (bt (aK s) a l k)))::yj (fd s a l y k) bn b1 b2)) <| ak (Fn.arg gZ ⟨rfl,rfl,az,trivial⟩) ⟨rfl,ab.sub trivial az⟩
   .show bk _ _ _ _ _ _ _;refine br [17] (cw [(4,ah 4),(7,ah 7),(13,ah 13)] ((13,.cells (u' (bt (aK s) a l k)))::yj (fd s a l y k) bn b1 b2)) ?_;refine ak (AB (fd s a l y k) fA.eN _ (by rw[p2];exact J)) ⟨fun hC=>?_,fun hC=>?_⟩
    .have hC: ¬((fd s a l y k).t.getD (bt (aK s) a l k).c cy).1=2:=by
      have hC:(!decide (((fd s a l y k).t.getD (bt (aK s) a l k).c cy).1=2))=true:=hC;simpa using hC
     have rV:=rV hn hC;have jt:c3 (((bt (aK s) a l k).b:Int) - ((bt (aK s) a l k).a:Int)):=aw8
     have tZ:((bt (aK s) a l k).b:Int) - ((bt (aK s) a l k).a:Int)=((bt (aK s) a l k).b:Int) - ((bt (aK s) a l k).a:Int)/\(0:Int)<=((bt (aK s) a l k).b:Int) - ((bt (aK s) a l k).a:Int)/\((bt (aK s) a l k).b:Int) - ((bt (aK s) a l k).a:Int)<=4294967296:=aw8
     refine br [] (cw [(4,ah 4),(7,ah 7),(13,ah 13)] ((13,.cells (u' (bt (aK s) a l k)))::yj (fd s a l y k) bn b1 b2)) ⟨jt,tZ,rfl,?_⟩
     have hx:C9 ((bt (aK s) a l k).b - (bt (aK s) a l k).a)=List.replicate (((bt (aK s) a l k).b:Int) - ((bt (aK s) a l k).a:Int)).toNat (0:UInt8):=by
      rw[show(((bt (aK s) a l k).b:Int) - ((bt (aK s) a l k).a:Int)).toNat=(bt (aK s) a l k).b - (bt (aK s) a l k).a by omega]
     rw[hx] at rV;exact ak (Fn.own (d:=76) (args:=[ah 1001,qH (bt (aK s) a l k),eX 76,nA b1 b2]) (e:=5) (u:=.u8) (xs:=List.replicate (((bt (aK s) a l k).b:Int) - ((bt (aK s) a l k).a:Int)).toNat (0:UInt8)) rV rfl) ⟨rfl,rfl,ab.sub trivial az⟩
    .have hC:((fd s a l y k).t.getD (bt (aK s) a l k).c cy).1=2:=by
      have hC:(!decide (((fd s a l y k).t.getD (bt (aK s) a l k).c cy).1=2))=false:=hC;simpa using hC
     have e:fd s a l y (k+1)=fd s a l y k:=by
      rw[afb];unfold yi;rw[afa hn,if_neg aw1,if_pos hC]
     rw[e];exact⟨rfl,ab.sub trivial az⟩
  .intro yh f' rS aD
   have h:=Aw yh (aK s) a l cW aw0 aw0 (fun k=>f' (min k (cK (aK s) a l))) (fun k=>rS _ _ _ (min k (cK (aK s) a l)) (min k (cK (aK s) a l)) (by
    obtain⟨fA,O,p2⟩:=GI (min k (cK (aK s) a l)) (Nat.min_le_right _ _);have G:=qG (fd s a l y (min k (cK (aK s) a l))) (by rw[O];exact aq.z);rw[show aK (fd s a l y (min k (cK (aK s) a l)))=aK s from congrArg (fun b=>16*2 ^b) O] at G
    exact Fn.qF [(9000,.cg 1001 bn),(4,.cells [.ptr 1001 0]),(7,.cells [.d (.fn (158,[b1,b2]))]),(10,.cells [.cY 162 [.p 4 0]])] G rfl rfl) rfl rfl) (fun k Z=>by
    have h:=aD k _ (k+1) ⟨Z,rfl,rfl⟩;rw[Nat.min_eq_left aw0,Nat.min_eq_left aw0];exact h)
   simp only[Nat.zero_min,Nat.min_self] at h;exact h
  .show bk _ _ _ _ _ _ _;exact br [] (bq) bc
theorem SD {l:List Int} {h:Nat} {n m:Int} (ap:l[h]? =some n):d9 (l.set h m)+(if n=0 then 1 else 0)=d9 l+(if m=0 then 1 else 0):=by
 induction l generalizing h with
 |nil=>simp at ap
 |cons x l bu=>
  match h with
  |0=>
   simp only[ar9,aq8] at ap;subst ap;simp only[List.set_cons_zero];unfold d9;rw[List.filter_cons,List.filter_cons]
   by_cases E:x=0 <;>by_cases G:m=0 <;>simp[E,G] <;>omega
  |h+1=>
   have ap:l[h]? =some n:=az8
   have:=bu ap;simp only[List.set_cons_succ];unfold d9 at*;rw[List.filter_cons,List.filter_cons]
   by_cases E:x=0 <;>simp[E] <;>omega
theorem afc {xs ys:aA0} {a n:Nat} (E:a+n<=xs.length) (G:ys.length=n):(laid xs a n ys).length=xs.length:=by
 unfold laid;rw[aq5,aq5,ar3,ar3,au3];omega
structure C' (s s':bL) (p:m6) (bs y:aA0):Prop where
 ok:gG s'
 z:s'.z=s.z
 eN:s'.t.length=s.t.length
 ls:s'.l.length=s.l.length
 kE: ∀c,c≠p.c->s'.t[c]? =s.t[c]? /\ ∀aB,eR s' c aB=eR s c aB
 LD: ∀aB,eR s' p.c aB=laid (eR s p.c (some y)) p.a (p.b - p.a) bs
 kc:hr s' p.c=false
 kD:d9 s'.l+(if hr s p.c=true then 1 else 0)=d9 s.l
theorem afd {s:bL} {c:Nat} {h:Int} {xs:aA0} (E:s.t[c]? =some ((1:Int),h,true)) (G:s.f h=some xs) (aB:Option aA0):eR s c aB=xs:=by
 unfold eR;rw[E];simp only[if_pos,G,Option.getD_some]
theorem LE {s s':bL} {c:Nat} (O:s'.z=s.z) (cn:s'.t[c]? =s.t[c]?) (hf: ∀h,s.t[c]? =some ((1:Int),h,true)->s'.f h=s.f h) (aq:gG s) (aB:Option aA0):eR s' c aB=eR s c aB:=by
 have aR:kD s'=kD s:=by unfold kD aK;rw[O]
 have hw:aK s'=aK s:=by unfold aK;rw[O]
 unfold eR;rw[cn]
 cases e:s.t[c]? with
 |none=>rfl
 |some q=>
  simp only;rcases aq.slot c q e with h |h |⟨h,ao,_⟩
  .rw[h,aR,hw];rfl
  .rw[h,aR];rfl
  .rw[ao] at e;rw[ao,hf _ e,aR,hw]
theorem afe {s:bL} {c:Nat} {h:Int} (E:s.t[c]? =some ((1:Int),h,true)):hr s c=false:=by
 unfold hr u4;rw[Av E];rfl
theorem aff {s:bL} (aq:gG s) {c:Nat} (J:c < s.t.length) (y:aA0) (aR:hr s c=true->0 < d9 s.l):
  (m7 s c y).z=s.z/\(m7 s c y).l.length=s.l.length/\(∀d,d≠c->(m7 s c y).t[d]? =s.t[d]? /\ ∀h,s.t[d]? =some ((1:Int),h,true)->(m7 s c y).f h=s.f h)/\d9 (m7 s c y).l+(if hr s c=true then 1 else 0)=d9 s.l:=by
 unfold m7
 by_cases hn:hr s c=true
 .rw[if_pos hn,if_pos hn];obtain⟨ky,rv⟩:=Ls (aR hn);refine⟨rfl,List.length_set,fun d H=>⟨List.getElem?_set_ne (Ne.symm H),fun h bj=>?_⟩,?_⟩
  .show(if h=(h5 s.l:Int) then _ else s.f h)=s.f h;rw[if_neg];intro e;rcases aq.slot d _ bj with ao |ao |⟨h',ao,al,_⟩
   .cases ao
   .cases ao
   .have:h=(h':Int):=by injection ao with _ ao;injection ao
    have:h'=h5 s.l:=aw8
    rw[this,ky] at al
    cases al
  .have:=SD (m:=1) ky;simpa using this
 .rw[if_neg hn,if_neg hn];exact⟨rfl,rfl,fun d _=>⟨rfl,fun _ _=>rfl⟩,rfl⟩
theorem SE {s:bL} (aq:gG s) {p:m6} (J:p.c < s.t.length) {bs y:aA0} (E:p.a<=p.b) (G:p.b<=aK s) (al:bs.length=p.b - p.a) (aR:hr s p.c=true->0 < d9 s.l):C' s (yc s p bs y) p bs y:=by
 obtain⟨fA,hc,p2,h,va,wE⟩:=Su aq J y aR;obtain⟨r1,r2,fV,j1⟩:=aff aq J y aR;have dF:=wD aq J (some y);unfold yc;generalize m7 s p.c y=s' at*;generalize sD:eR s p.c (some y)=xs at*;have uo:=Av va
 have e:GC s' p bs={s' with f:=jq s'.f (h:Int) (laid xs p.a (p.b - p.a) bs)}:=by
  unfold GC;rw[uo];simp only[wE,Option.getD_some]
 rw[e];have lq:=afc (xs:=xs) (ys:=bs) (a:=p.a) (n:=p.b - p.a) aw0 al
 have afg: ∀(d:Nat) (k:Int),d≠p.c->s'.t[d]? =some ((1:Int),k,true)->jq s'.f (h:Int) (laid xs p.a (p.b - p.a) bs) k=s'.f k:=fun d k H Z=>by
  unfold jq;rw[if_neg];intro e;subst e;exact H (fA.inj d p.c _ Z va)
 refine⟨⟨fA.z,fA.eN,fA.ls,fun c q aP=>?_,fA.inj,fA.GA,fun k Z=>?_,fA.GB,St fA.dom (by rw[lq,dF];exact Ss aq.z)⟩,r1,p2,r2,fun c j0=>⟨(fV c j0).1,fun aB=>?_⟩,fun aB=>by rw[sD];exact afd (s:={s' with f:=jq s'.f (h:Int) (laid xs p.a (p.b - p.a) bs)}) va (if_pos rfl) aB,afe (s:={s' with f:=jq s'.f (h:Int) (laid xs p.a (p.b - p.a) bs)}) va,j1⟩
 .rcases fA.slot c q aP with e |e |⟨k,e,g1,ys,g2,c2⟩
  .exact .inl e
  .exact .inr (.inl e)
  .refine .inr (.inr ⟨k,e,g1,?_⟩)
   by_cases Z:(k:Int)=(h:Int)
   .exact⟨_,if_pos Z,by rw[lq,dF,<-hc];rfl⟩
   .exact⟨ys,(if_neg Z).trans g2,c2⟩
 .show(if(k:Int)=(h:Int) then _ else s'.f k)=none;rw[if_neg]
  .exact fA.Au k Z
  .intro e;have:k=h:=aw8
   subst this;rcases fA.slot p.c _ va with e |e |⟨j,e,g1,_⟩
   .cases e
   .cases e
   .have:(k:Int)=(j:Int):=by injection e with _ e;injection e
    have:k=j:=aw8
    rw[this,g1] at Z
    cases Z
 .refine LE (s:=s) (s':={s' with f:=jq s'.f (h:Int) (laid xs p.a (p.b - p.a) bs)}) r1 (fV c j0).1 (fun k Z=>?_) aq aB;rw[<-(fV c j0).2 k Z];exact afg c k j0 ((fV c j0).1.trans Z)
structure LF (s s':bL) (c:Nat) (q:fh):Prop where
 ok:gG s'
 z:s'.z=s.z
 eN:s'.t.length=s.t.length
 ls:s'.l.length=s.l.length
 kE: ∀d,d≠c->s'.t[d]? =s.t[d]? /\ ∀aB,eR s' d aB=eR s d aB
 LD:s'.t[c]? =some q
 kD:d9 s.l<=d9 s'.l
theorem SF {s:bL} (aq:gG s) {c:Nat} (J:c < s.t.length) {q:fh} (aP:q=cy\/q=AA):LF s (rQ s c q) c q:=by
 have mW:s.t[c]? =some (s.t.getD c cy):=by rw[ar2,oj J];rfl
 have uX: ∀h:Int,q≠((1:Int),h,true):=fun h e=>by rcases aP with aP |aP <;>rw[aP] at e <;>cases e
 have SG:q=cy\/q=((2:Int),(0:Int),false):=aP;unfold rQ At;rcases GD aq J with⟨_,h⟩ |⟨_,h,E,G,xs,al,aW⟩
 .have hn: ¬(s.t.getD c cy).1=1:=by rcases h with h |h <;>rw[h] <;>decide
  rw[if_neg hn];refine⟨⟨aq.z,by show(s.t.set _ _).length<=256;rw[List.length_set];exact aq.eN,aq.ls,fun d r aC=>?_,fun d e k H U=>?_,aq.GA,aq.Au,fun k Z=>?_,aq.dom⟩,rfl,List.length_set,rfl,fun d H=>⟨List.getElem?_set_ne (Ne.symm H),fun aB=>LE (s:=s) (s':={s with t:=s.t.set c q}) rfl (List.getElem?_set_ne (Ne.symm H)) (fun _ _=>rfl) aq aB⟩,List.getElem?_set_self J,aq4 _⟩
  .rw[List.getElem?_set] at aC
   split at aC
   .injection aC with aC
    rw[<-aC];exact SG.imp id .inl
   .exact aq.slot d r aC
  .rw[List.getElem?_set] at H U
   split at H
   .injection H with H;exact absurd H (uX k)
   .split at U
    .injection U with U;exact absurd U (uX k)
    .exact aq.inj d e k H U
  .obtain⟨d,H⟩:=aq.GB k Z
   have a6:c≠d:=fun e=>by
    subst e;rw[mW] at H;injection H with H
    rw[H] at hn;exact hn rfl
   exact⟨d,(List.getElem?_set_ne a6).trans H⟩
 .have aY:=Av E;rw[aY,if_pos rfl];have bx:h < s.l.length:=(ar1.1 G).1;have bJ:((h:Int)).toNat=h:=rfl;simp only[bJ]
  have other: ∀(d k:Nat),d≠c->s.t[d]? =some ((1:Int),(k:Int),true)->k≠h:=fun d k H Z e=>by
   subst e;exact H (aq.inj d c _ Z E)
  refine⟨⟨aq.z,by show(s.t.set _ _).length<=256;rw[List.length_set];exact aq.eN,by show(s.l.set _ _).length<=512;rw[List.length_set];exact aq.ls,fun d r aC=>?_,fun d e k H U=>?_,fun k n Z=>?_,fun k Z=>?_,fun k Z=>?_,fun k xs Z=>aq.dom k xs (by
   have Z:(if k=(h:Int) then none else s.f k)=some xs:=Z
   split at Z
   .cases Z
   .exact Z)⟩,rfl,List.length_set,List.length_set,fun d H=>⟨List.getElem?_set_ne (Ne.symm H),fun aB=>LE (s:=s) (s':={s with t:=s.t.set c q,l:=s.l.set h 0,f:=CJ s.f (h:Int)}) rfl (List.getElem?_set_ne (Ne.symm H)) (fun k Z=>?_) aq aB⟩,List.getElem?_set_self J,?_⟩
  .rw[List.getElem?_set] at aC
   split at aC
   .injection aC with aC
    rw[<-aC];exact SG.imp id .inl
   .rename_i a6;rcases aq.slot d r aC with e |e |⟨k,e,g1,ys,g2,c2⟩
    .exact .inl e
    .exact .inr (.inl e)
    .have Z:=other d k (Ne.symm a6) (e▸aC);exact .inr (.inr ⟨k,e,by show(s.l.set h 0)[k]? =some 1;rw[List.getElem?_set_ne (Ne.symm Z)];exact g1,ys,by show(if(k:Int)=(h:Int) then none else s.f k)=some ys;rw[if_neg aw0];exact g2,c2⟩)
  .rw[List.getElem?_set] at H U
   split at H
   .injection H with H;exact absurd H (uX k)
   .split at U
    .injection U with U;exact absurd U (uX k)
    .exact aq.inj d e k H U
  .rw[List.getElem?_set] at Z
   split at Z
   .injection Z with Z;exact .inl Z.symm
   .exact aq.GA k n Z
  .show(if(k:Int)=(h:Int) then none else s.f k)=none
   by_cases e:k=h
   .rw[if_pos aw0]
   .rw[if_neg aw0];rw[List.getElem?_set_ne (fun ao=>e ao.symm)] at Z;exact aq.Au k Z
  .by_cases e:k=h
   .subst e;rw[List.getElem?_set_self bx] at Z
    cases Z
   .rw[List.getElem?_set_ne (fun ao=>e ao.symm)] at Z;obtain⟨d,H⟩:=aq.GB k Z
    have a6:c≠d:=fun ao=>by
     subst ao;rw[E] at H;injection H with H
     have:(h:Int)=(k:Int):=by injection H with _ H;injection H
     omega
    exact⟨d,(List.getElem?_set_ne a6).trans H⟩
  .rcases aq.slot d _ Z with e |e |⟨j,e,_⟩
   .cases e
   .cases e
   .have V:k=(j:Int):=by injection e with _ e;injection e
    subst V;have:=other d j H Z;show(if(j:Int)=(h:Int) then none else s.f j)=s.f j;rw[if_neg aw0]
  .have:=SD (m:=0) G;simp at this;show d9 s.l<=d9 (s.l.set h 0);omega
theorem Da {s s':bL} {c:Nat} (h:s'.t[c]? =s.t[c]?):hr s' c=hr s c:=by
 unfold hr;rw[ar2,ar2,h]
structure iz (s s':bL):Prop where
 ok:gG s'
 z:s'.z=s.z
 eN:s'.t.length=s.t.length
 ls:s'.l.length=s.l.length
theorem iz.refl {s:bL} (h:gG s):iz s s:=⟨h,rfl,rfl,rfl⟩
theorem iz.trans {s s' Db:bL} (h:iz s s') (k:iz s' Db):iz s Db:=⟨k.ok,k.z.trans h.z,k.eN.trans h.eN,k.ls.trans h.ls⟩
theorem iz.aK {s s':bL} (h:iz s s'):aK s'=aK s:=congrArg (fun b=>16*2 ^b) h.z
theorem C'.fq {s s':bL} {p:m6} {bs y:aA0} (h:C' s s' p bs y):iz s s':=⟨h.ok,h.z,h.eN,h.ls⟩
theorem LF.fq {s s':bL} {c:Nat} {q:fh} (h:LF s s' c q):iz s s':=⟨h.ok,h.z,h.eN,h.ls⟩
def qL (s s':bL) (c:Nat):Prop:=s'.t[c]? =s.t[c]? /\ ∀aB,eR s' c aB=eR s c aB
theorem qL.refl (s:bL) (c:Nat):qL s s c:=⟨rfl,fun _=>rfl⟩
theorem qL.trans {s s' Db:bL} {c:Nat} (h:qL s s' c) (k:qL s' Db c):qL s Db c:=⟨k.1.trans h.1,fun aB=>(k.2 aB).trans (h.2 aB)⟩
def LG (s:bL) (bn:bo->bg) (b1 b2:Nat) (y:Nat->aA0):Prop:= ∀s',iz s s'-> ∀(c:Nat) (h:c < s'.t.length),(s'.t[c]).1=0->Gz s' bn b1 b2 c (y c)
theorem afh (s:bL) (a l:Nat) {j k:Nat} (h:j<=k):h6 s a l j<=h6 s a l k:=by
 induction k with
 |zero=>
    have:j=0:=aw8
    rw[this];exact aq4 _
 |succ k bu=>
  by_cases e:j=k+1
  .rw[e];exact aq4 _
  .have:=bu aw0;show h6 s a l j<=h6 s a l k+_;omega
theorem SH {bs:aA0} {p:m6} (E:p.a<=p.b) (G:p.at_+(p.b - p.a)<=bs.length):(rT bs p).length=p.b - p.a:=by
 unfold rT;rw[au3,ar3];omega
structure GK (s:bL) (a l:Nat) (bs:aA0) (y:Nat->aA0) (k:Nat):Prop where
 fq:iz s (i1 s a l bs y k)
 kD:d9 (i1 s a l bs y k).l+h6 s a l k=d9 s.l
 kE: ∀c,(c < 16*a/aK s\/16*a/aK s+k<=c)->qL s (i1 s a l bs y k) c
 done: ∀j,j < k->hr (i1 s a l bs y k) (16*a/aK s+j)=false/\ ∀aB,eR (i1 s a l bs y k) (16*a/aK s+j) aB=laid (eR s (16*a/aK s+j) (some (y (16*a/aK s+j)))) (bt (aK s) a l j).a ((bt (aK s) a l j).b - (bt (aK s) a l j).a) (rT bs (bt (aK s) a l j))
theorem SI {s:bL} (aq:gG s) {a l:Nat} {bs:aA0} (gE:bs.length=16*l) (ez:a+l<=g3 s) {y:Nat->aA0} (dR:h6 s a l (cK (aK s) a l)<=d9 s.l) {k:Nat} (h:GK s a l bs y k) (Z:k < cK (aK s) a l):C' (i1 s a l bs y k) (i1 s a l bs y (k+1)) (bt (aK s) a l k) (rT bs (bt (aK s) a l k)) (y (bt (aK s) a l k).c)/\(hr (i1 s a l bs y k) (bt (aK s) a l k).c=true->0 < d9 (i1 s a l bs y k).l):=by
 have cW:=qI aq.z;obtain⟨d6,cV,dN,dS⟩:=tY cW Z;obtain⟨J,_⟩:=sR aq ez Z;have og:=h.kE (16*a/aK s+k) (.inr (aq4 _))
 have aR:hr (i1 s a l bs y k) (bt (aK s) a l k).c=true->0 < d9 (i1 s a l bs y k).l:=fun hn=>by
  have bm:hr (i1 s a l bs y k) (bt (aK s) a l k).c=hr s (bt (aK s) a l k).c:=Da og.1;rw[bm] at hn;have E:=afh s a l (show k+1<=cK (aK s) a l from Z)
  have G:h6 s a l (k+1)=h6 s a l k+1:=by
   show h6 s a l k+_=_;rw[if_pos hn]
  have:=h.kD;omega
 exact⟨SE h.fq.ok az7 d6 (by rw[h.fq.aK];exact cV) (SH d6 aw0) aR,aR⟩
theorem AC {s:bL} (aq:gG s) {a l:Nat} {bs:aA0} (gE:bs.length=16*l) (ez:a+l<=g3 s) (y:Nat->aA0) (dR:h6 s a l (cK (aK s) a l)<=d9 s.l): ∀k,k<=cK (aK s) a l->GK s a l bs y k/\(k < cK (aK s) a l->C' (i1 s a l bs y k) (i1 s a l bs y (k+1)) (bt (aK s) a l k) (rT bs (bt (aK s) a l k)) (y (bt (aK s) a l k).c)/\(hr (i1 s a l bs y k) (bt (aK s) a l k).c=true->0 < d9 (i1 s a l bs y k).l))
 |0,Z=>by
  have av:GK s a l bs y 0:=⟨iz.refl aq,rfl,fun c _=>qL.refl s c,fun j V=>absurd V aw0⟩;exact⟨av,fun Z=>SI aq gE ez dR av Z⟩
 |k+1,Z=>by
  obtain⟨h,ax⟩:=AC aq gE ez y dR k aw0;have fc:k < cK (aK s) a l:=aw8
  obtain⟨ae,_⟩:=ax fc;have rW:(bt (aK s) a l k).c=16*a/aK s+k:=rfl;have og:=h.kE (16*a/aK s+k) (.inr (aq4 _))
  have E:GK s a l bs y (k+1):=by
   refine⟨h.fq.trans ae.fq,?_,fun c J=>?_,fun j V=>?_⟩
   .have af:=ae.kD;have ao:=h.kD;have bm:hr (i1 s a l bs y k) (bt (aK s) a l k).c=hr s (bt (aK s) a l k).c:=Da og.1;rw[bm] at af;show d9 _+(h6 s a l k+_)=_;omega
   .exact(h.kE c (J.imp id fun h=>by omega)).trans (ae.kE c (by rw[rW];omega))
   .by_cases e:j=k
    .subst e;refine⟨ae.kc,fun aB=>?_⟩;have:=ae.LD aB;rw[rW] at this;rw[this,og.2]
    .obtain⟨g1,g2⟩:=h.done j aw0;have hf:=ae.kE (16*a/aK s+j) (by rw[rW];omega);exact⟨(Da hf.1).trans g1,fun aB=>(hf.2 aB).trans (g2 aB)⟩
  exact⟨E,fun Z=>SI aq gE ez dR E Z⟩
def AD (s:bL) (a l:Nat):Int:=if h6 s a l (cK (aK s) a l)<=d9 s.l then 0 else 120
def wG (s:bL) (a l:Nat) (bs:aA0) (y:Nat->aA0):bL:=if h6 s a l (cK (aK s) a l)<=d9 s.l then i1 s a l bs y (cK (aK s) a l) else s
theorem afi (s:bL) (bn:bo->bg) (b1 b2:Nat) (aq:gG s) (a l:Nat) (bs:aA0) (gE:bs.length=16*l) (av:ec s a l=0) (y:Nat->aA0) (dy:LG s bn b1 b2 y):
  Fn Tryz.prog 106 [ah 1001,ac (a:Int),bv .u8 bs,nA b1 b2] (gc s bn) [] (ac (AD s a l)) (gc (wG s a l bs y) bn):=by
 have ez:=qK av;refine ae3 s bn b1 b2 aq a l bs gE av y _ _ (fun h=>⟨if_neg aw0,if_neg aw0⟩) (fun h=>⟨if_pos h,if_pos h⟩) (fun dR k Z=>?_) (fun dR k Z=>(AC aq gE ez y dR k Z).1.fq.z);obtain⟨h,ax⟩:=AC aq gE ez y dR k (Nat.le_of_lt Z);obtain⟨_,aR⟩:=ax Z;obtain⟨d6,cV,dN,dS⟩:=tY (qI aq.z) Z;obtain⟨J,_⟩:=sR aq ez Z;have ei:(bt (aK s) a l k).c < (i1 s a l bs y k).t.length:=az7
 exact Sw (i1 s a l bs y k) bn b1 b2 h.fq.ok (bt (aK s) a l k) ei (rT bs (bt (aK s) a l k)) d6 (by rw[h.fq.aK];exact cV) (SH d6 aw0) (y (bt (aK s) a l k).c) (fun e=>dy _ h.fq _ ei e) aR
theorem SJ {s:bL} (aq:gG s) {a l:Nat} {bs:aA0} (gE:bs.length=16*l) (av:ec s a l=0) (y:Nat->aA0):iz s (wG s a l bs y):=by
 unfold wG
 split
 .rename_i h;exact(AC aq gE (qK av) y h _ (aq4 _)).1.fq
 .exact iz.refl aq
structure LH (s:bL) (a l:Nat) (k:Nat):Prop where
 fq:iz s (jJ s a l k)
 kE: ∀c,(c < 16*a/aK s\/16*a/aK s+k<=c)->qL s (jJ s a l k) c
 done: ∀j,j < k->if(bt (aK s) a l j).b - (bt (aK s) a l j).a=aK s then(jJ s a l k).t[16*a/aK s+j]? =some cy else qL s (jJ s a l k) (16*a/aK s+j)
theorem Dc {s:bL} (aq:gG s) {a l:Nat} (ez:a+l<=g3 s): ∀k,k<=cK (aK s) a l->LH s a l k
 |0,_=>⟨iz.refl aq,fun c _=>qL.refl s c,fun j V=>absurd V aw0⟩
 |k+1,Z=>by
  have h:=Dc aq ez k aw0;have fc:k < cK (aK s) a l:=aw8
  obtain⟨J,_⟩:=sR aq ez fc;have rW:(bt (aK s) a l k).c=16*a/aK s+k:=rfl;have og:=h.kE (16*a/aK s+k) (.inr (aq4 _))
  by_cases e:(bt (aK s) a l k).b - (bt (aK s) a l k).a=aK s
  .have af:jJ s a l (k+1)=rQ (jJ s a l k) (bt (aK s) a l k).c cy:=if_pos e;have ae:=SF h.fq.ok (c:=(bt (aK s) a l k).c) az7 (q:=cy) (.inl rfl);rw[<-af] at ae;refine⟨h.fq.trans ae.fq,fun c J=>(h.kE c (J.imp id fun h=>by omega)).trans (ae.kE c (by rw[rW];omega)),fun j V=>?_⟩
   by_cases C3:j=k
   .subst C3;rw[if_pos e];exact ae.LD
   .have g:=h.done j aw0;have hf:=ae.kE (16*a/aK s+j) (by rw[rW];omega)
    split
    .rename_i ao;rw[if_pos ao] at g;exact hf.1.trans g
    .rename_i ao;rw[if_neg ao] at g;exact g.trans hf
  .have af:jJ s a l (k+1)=jJ s a l k:=if_neg e;rw[show LH s a l (k+1)↔LH s a l (k+1) from Iff.rfl];refine⟨by rw[af];exact h.fq,fun c J=>by rw[af];exact h.kE c (J.imp id fun h=>by omega),fun j V=>?_⟩;rw[af]
   by_cases C3:j=k
   .subst C3;rw[if_neg e];exact og
   .exact h.done j aw0
def SK (s:bL) (a l:Nat):bL:=jJ s a l (cK (aK s) a l)
theorem SL {s:bL} (aq:gG s) {c:Nat} (J:c < s.t.length):(s.t.getD c cy).1=1-> ∃h:Nat,(s.t.getD c cy).2.1=(h:Int)/\s.l[h]? =some 1:=fun E=>by
 rcases GD aq J with⟨_,h⟩ |⟨_,h,g1,g2,_⟩
 .rcases h with h |h <;>rw[h] at E <;>cases E
 .exact⟨h,by rw[Av g1],g2⟩
theorem afj (s:bL) (aq:gG s) (a l:Nat) (av:ec s a l=0):Fn Tryz.prog 110 [ah 1001,ac (a:Int),ac (l:Int)] (dB s) [] (ac 0) (dB (SK s a l)):=by
 have ez:=qK av;refine ae6 s aq a l av (fun k Z=>?_) (fun k Z=>(Dc aq ez k Z).fq.z);have h:=Dc aq ez k (Nat.le_of_lt Z);obtain⟨J,_⟩:=sR aq ez Z;have ei:(bt (aK s) a l k).c < (jJ s a l k).t.length:=az7
 exact Lq (jJ s a l k) h.fq.ok.eN _ ei cy ⟨aw1,aw1⟩ rfl (SL h.fq.ok ei)
structure SM (s:bL) (a l:Nat) (y:Nat->aA0) (k:Nat):Prop where
 fq:iz s (fd s a l y k)
 kD:d9 s.l<=d9 (fd s a l y k).l+hH s a l k
 kE: ∀c,(c < 16*a/aK s\/16*a/aK s+k<=c)->qL s (fd s a l y k) c
theorem afk (s:bL) (a l:Nat) {j k:Nat} (h:j<=k):hH s a l j<=hH s a l k:=by
 induction k with
 |zero=>
    have:j=0:=aw8
    rw[this];exact aq4 _
 |succ k bu=>
  by_cases e:j=k+1
  .rw[e];exact aq4 _
  .have:=bu aw0;show hH s a l j<=hH s a l k+_;omega
theorem LI {s s':bL} (h:iz s s') (p:m6):lu s' p=lu s p:=by unfold lu;rw[h.aK]
theorem SN {s:bL} {a l:Nat} {y:Nat->aA0} (dR:hH s a l (cK (aK s) a l)<=d9 s.l) {k:Nat} (h:SM s a l y k) (Z:k < cK (aK s) a l) (hw:lu s (bt (aK s) a l k)=false) (G:((fd s a l y k).t.getD (bt (aK s) a l k).c cy).1≠2):
  hr (fd s a l y k) (bt (aK s) a l k).c=true->0 < d9 (fd s a l y k).l:=fun hn=>by
 have og:=h.kE (16*a/aK s+k) (.inr (aq4 _));have bm:hr (fd s a l y k) (bt (aK s) a l k).c=hr s (bt (aK s) a l k).c:=Da og.1
 have c6:(fd s a l y k).t.getD (bt (aK s) a l k).c cy=s.t.getD (bt (aK s) a l k).c cy:=by
  rw[ar2,ar2];exact congrArg (fun o=>o.getD cy) og.1
 rw[bm] at hn;rw[c6] at G
 have aR:oo s (bt (aK s) a l k)=true:=by
  unfold oo;rw[hw,ar6 G,hn];rfl
 have E:=afk s a l (show k+1<=cK (aK s) a l from Z)
 have al:hH s a l (k+1)=hH s a l k+1:=by
  show hH s a l k+_=_;rw[if_pos aR]
 have:=h.kD;omega
theorem Dd {s:bL} (aq:gG s) {a l:Nat} (ez:a+l<=g3 s) (y:Nat->aA0) (dR:hH s a l (cK (aK s) a l)<=d9 s.l): ∀k,k<=cK (aK s) a l->SM s a l y k
 |0,_=>⟨iz.refl aq,Nat.le_add_right _ _,fun c _=>qL.refl s c⟩
 |k+1,Z=>by
  have h:=Dd aq ez y dR k aw0;have fc:k < cK (aK s) a l:=aw8
  obtain⟨J,_⟩:=sR aq ez fc;obtain⟨d6,cV,dN,dS⟩:=tY (qI aq.z) fc;have rW:(bt (aK s) a l k).c=16*a/aK s+k:=rfl;have ei:(bt (aK s) a l k).c < (fd s a l y k).t.length:=az7
  have og:=h.kE (16*a/aK s+k) (.inr (aq4 _));have zx:hH s a l (k+1)=hH s a l k+(if oo s (bt (aK s) a l k)=true then 1 else 0):=rfl;have af:fd s a l y (k+1)=yi (fd s a l y k) (bt (aK s) a l k) (y (bt (aK s) a l k).c):=rfl;unfold yi at af;rw[LI h.fq] at af
  by_cases hw:lu s (bt (aK s) a l k)=true
  .rw[if_pos hw] at af;have ae:=SF h.fq.ok (c:=(bt (aK s) a l k).c) ei (q:=AA) (.inr rfl);rw[<-af] at ae;refine⟨h.fq.trans ae.fq,?_,fun c J=>(h.kE c (J.imp id fun h=>by omega)).trans (ae.kE c (by rw[rW];omega))⟩;have:=ae.kD;have:=h.kD;omega
  .have hw:lu s (bt (aK s) a l k)=false:=by simpa using hw
   rw[hw,if_neg aw1] at af
   by_cases G:((fd s a l y k).t.getD (bt (aK s) a l k).c cy).1=2
   .rw[if_pos G] at af;refine⟨by rw[af];exact h.fq,?_,fun c J=>by rw[af];exact h.kE c (J.imp id fun h=>by omega)⟩;rw[af];have:=h.kD;omega
   .rw[if_neg G] at af;have ae:=SE (y:=y (bt (aK s) a l k).c) (bs:=C9 ((bt (aK s) a l k).b - (bt (aK s) a l k).a)) h.fq.ok ei d6 (by rw[h.fq.aK];exact cV) at1 (SN dR h fc hw G);rw[<-af] at ae;refine⟨h.fq.trans ae.fq,?_,fun c J=>(h.kE c (J.imp id fun h=>by omega)).trans (ae.kE c (by rw[rW];omega))⟩;have f2:=ae.kD;have bm:hr (fd s a l y k) (bt (aK s) a l k).c=hr s (bt (aK s) a l k).c:=Da og.1
    have c6:(fd s a l y k).t.getD (bt (aK s) a l k).c cy=s.t.getD (bt (aK s) a l k).c cy:=by
     rw[ar2,ar2];exact congrArg (fun o=>o.getD cy) og.1
    rw[c6] at G
    have aR:oo s (bt (aK s) a l k)=hr s (bt (aK s) a l k).c:=by
     unfold oo;rw[hw,ar6 G];rfl
    rw[bm,<-aR] at f2;have:=h.kD;omega
def SO (s:bL) (a l:Nat):Int:=if hH s a l (cK (aK s) a l)<=d9 s.l then 0 else 120
def GL (s:bL) (a l:Nat) (y:Nat->aA0):bL:=if hH s a l (cK (aK s) a l)<=d9 s.l then fd s a l y (cK (aK s) a l) else s
theorem afl (s:bL) (bn:bo->bg) (b1 b2:Nat) (aq:gG s) (a l:Nat) (av:ec s a l=0) (y:Nat->aA0) (dy:LG s bn b1 b2 y):
  Fn Tryz.prog 108 [ah 1001,ac (a:Int),ac (l:Int),nA b1 b2] (gc s bn) [] (ac (SO s a l)) (gc (GL s a l y) bn):=by
 have ez:=qK av;refine ae' s bn b1 b2 aq a l av y _ _ (fun h=>⟨if_neg aw0,if_neg aw0⟩) (fun h=>⟨if_pos h,if_pos h⟩) (fun dR k Z=>?_) (fun dR k Z hw=>?_) (fun dR k Z hw G=>?_)
 .have h:=(Dd aq ez y dR k Z).fq;exact⟨h.ok,h.z,h.eN⟩
 .have h:=Dd aq ez y dR k (Nat.le_of_lt Z);obtain⟨J,_⟩:=sR aq ez Z;have ei:(bt (aK s) a l k).c < (fd s a l y k).t.length:=az7
  have af:fd s a l y (k+1)=rQ (fd s a l y k) (bt (aK s) a l k).c AA:=if_pos ((LI h.fq _).trans hw);rw[af];exact Lq (fd s a l y k) h.fq.ok.eN _ ei AA ⟨aw1,aw1⟩ rfl (SL h.fq.ok ei)
 .have h:=Dd aq ez y dR k (Nat.le_of_lt Z);obtain⟨J,_⟩:=sR aq ez Z;obtain⟨d6,cV,dN,dS⟩:=tY (qI aq.z) Z;have ei:(bt (aK s) a l k).c < (fd s a l y k).t.length:=az7
  have af:fd s a l y (k+1)=yc (fd s a l y k) (bt (aK s) a l k) (C9 ((bt (aK s) a l k).b - (bt (aK s) a l k).a)) (y (bt (aK s) a l k).c):=by
   show yi _ _ _=_;unfold yi;rw[LI h.fq,hw,if_neg aw1,if_neg G]
  rw[af];exact Sw (fd s a l y k) bn b1 b2 h.fq.ok (bt (aK s) a l k) ei _ d6 (by rw[h.fq.aK];exact cV) at1 _ (fun e=>dy _ h.fq _ ei e) (SN dR h Z hw G)
theorem afm {s:bL} (aq:gG s) {a l:Nat} (av:ec s a l=0) (y:Nat->aA0):iz s (GL s a l y):=by
 unfold GL
 split
 .rename_i h;exact(Dd aq (qK av) y h _ (aq4 _)).fq
 .exact iz.refl aq
theorem afn (s:bL) (bn:bo->bg) (b1 b2:Nat) (aq:gG s) (a l:Int) (av:ec s a l≠0):Fn Tryz.prog 108 [ah 1001,ac a,ac l,nA b1 b2] (gc s bn) [] (ac (ec s a l)) (gc s bn):=by
 refine aT [] Tryz.func108 ?_;refine⟨rfl,rfl,ak (wF s aq a l) ?_⟩;exact⟨fun _=>bc,fun h=>absurd (show ec s a l=0 by have h:(!decide (ec s a l=0))=false:=h;simpa using h) av⟩
def hI (z size R:Nat):bL:=⟨z,List.replicate size cy,List.replicate R (0:Int),KS⟩
theorem afo {z size R:Nat} (E:z<=3) (G:size<=256) (al:R<=512):gG (hI z size R):=by
 have cn: ∀(c:Nat) (q:fh),(hI z size R).t[c]? =some q->q=cy:=fun c q h=>by
  have h:(List.replicate size cy)[c]? =some q:=h;rw[List.getElem?_replicate] at h
  split at h
  .injection h with h;exact h.symm
  .cases h
 have ap: ∀(h:Nat) n,(hI z size R).l[h]? =some n->n=0:=fun h n e=>by
  have e:(List.replicate R (0:Int))[h]? =some n:=e;rw[List.getElem?_replicate] at e
  split at e
  .injection e with e;exact e.symm
  .cases e
 refine⟨E,by show(List.replicate size cy).length<=256;rw[at1];exact G,by show(List.replicate R (0:Int)).length<=512;rw[at1];exact al,fun c q aP=>.inl (cn c q aP),fun c d h J H=>?_,fun h n hn=>.inl (ap h n hn),fun h _=>rfl,fun h bj=>?_,fun k xs Z=>(by cases Z)⟩
 .have:=cn c _ J;cases this
 .have:=ap h _ bj;cases this
def h7 (z size R:Int):Bool:=decide (0<=size)&&decide (size<=256)&&(decide (0<=R)&&decide (R<=512))&&(decide (0<=z)&&decide (z<=3))
theorem afp (z size R:Nat) (E:z<=3) (G:size<=256) (al:R<=512):Fn Tryz.prog 57 [ac (z:Int),ac (size:Int),ac (R:Int)] [] [1001,1002,1003,1004] (.cb [.one (.ptr 1001 0),dp 0]) (dB (hI z size R)):=by
 refine aT [3] Tryz.func57 ?_;refine ak (Fn.aV [(1001,1002),(1002,2002)] (Ln size G)) <| ak (Fn.aV [(1001,1003),(1002,2003)] (Gv (R:Int) aw0 aw0)) <| br [] (cw [(0,ac (z:Int)),(8,ah 1002),(9,ac 0),(10,ah 1003),(11,ac 0)] [(1002,.aF (rN (List.replicate size cy))),(1003,.aF (rO (List.replicate R (0:Int))))]) <| cX <| cX ⟨fun h=>?_,fun h=>?_⟩
 .exfalso;have h:(z:Int) < 0:=gd h;omega
 refine⟨fun h=>?_,fun h=>?_⟩
 .exfalso;have h:(3:Int) < (z:Int):=gd h;omega
 exact⟨rfl,rfl,_,_,_,(ab.aV 41 1001 rfl).trans ((ab.aV 39 1004 rfl).trans (ab.RB 1004 rfl)),rfl,az,az,rfl⟩
theorem afq {z size R:Int} (h:h7 z size R=false): ¬(0<=size/\size<=256)\/ ¬(0<=R/\R<=512)\/ ¬(0<=z/\z<=3):=by
 unfold h7 at h
 by_cases E:0<=size/\size<=256
 .by_cases G:0<=R/\R<=512
  .by_cases al:0<=z/\z<=3
   .rw[ar6 E.1,ar6 E.2,ar6 G.1,ar6 G.2,ar6 al.1,ar6 al.2] at h
    cases h
   .exact .inr (.inr al)
  .exact .inr (.inl G)
 .exact .inl E
theorem SP (z size R:Int) (h:h7 z size R=false):Fn Tryz.prog 57 [ac z,ac size,ac R] [] [] (.cb [mZ,dp 1]) []:=by
 have O:=afq h;refine aT [] Tryz.func57 ?_
 by_cases E:0<=size/\size<=256
 .obtain⟨ew,rfl⟩: ∃n:Nat,size=(n:Int):=⟨size.toNat,aw0⟩;refine ak (Fn.aV [(1001,1002),(1002,2002)] (Ln ew aw0)) ?_
  by_cases G:0<=R/\R<=512
  .refine ak (Fn.aV [(1001,1003),(1002,2003)] (Gv R aw0 aw0)) <| cX <| cX ⟨fun _=>?_,fun al=>?_⟩
   .exact bc
   .refine⟨fun _=>?_,fun aW=>?_⟩
    .exact bc
    .exfalso;have al: ¬z < 0:=mu al;have aW: ¬(3:Int) < z:=mu aW;omega
  .exact ak (Sk R G) <| cX <| d7 bc
 .refine ak (aey size E) ?_
  by_cases G:0<=R/\R<=512
  .exact ak (Fn.aV [(1001,1003),(1002,2003)] (Gv R aw0 aw0)) <| d7 bc
  .exact ak (Sk R G) <| d7 bc
end
end Go.Proofs.YtkfbeijmgggkmaaGreat
