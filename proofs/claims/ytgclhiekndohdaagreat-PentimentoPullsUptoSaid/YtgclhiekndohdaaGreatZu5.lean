/-
A part of the proof of this claim: lemmas, with no condition beyond what each says.
-/
import Derived.Deep.RegionLaw
import Derived.Test.YtgclhiekndohdaaGreatZu4
set_option linter.all false
set_option maxRecDepth 100000
set_option maxHeartbeats 0
namespace Go.Proofs.YtgclhiekndohdaaGreat
open Go.RowKit Go.Proofs _root_.Go.Proofs.Tryz Tryz
section
def fL:Int->List cK->Bool
 |_,[]=>true
 |n,x::l=>if x.1=n/\1<=x.2.1/\x.2.1<=65536 - n then fL (n+x.2.1) l else false
def zw (n:Int) (x:cK) (l:aI6):fL n (x::l)=if x.1=n/\1<=x.2.1/\x.2.1<=65536 - n then fL (n+x.2.1) l else false:=rfl
def BN: ∀{l:aI6} {n:Int} {x:cK},fL n l=true->0<=n->l.getLast? =some x->0<=x.1/\1<=x.2.1/\x.1+x.2.1<=65536
 | [],_,_,_,_,h=>by cases h
 |y::l,n,x,h,hn,hx=>by
  unfold fL at h
  split at h
  .rename_i J
   cases l with
   |nil=>
    simp at hx;subst hx;omega
   |cons aH l=>
    rw[List.getLast?_cons_cons] at hx;exact BN h aD7 hx
  .cases h
def NK: ∀{l:aI6} {n:Int},fL n l=true->0<=n-> ∀x,x∈l->n<=x.1/\1<=x.2.1/\x.1+x.2.1<=65536
 | [],_,_,_,x,hx=>by cases hx
 |y::l,n,h,hn,x,hx=>by
  unfold fL at h
  split at h
  .rename_i J;rcases at7.1 hx with rfl |hx
   .omega
   .have:=NK h aD7 x hx;omega
  .cases h
abbrev ako (l:aI6) (n:Int) (i:Nat):aW:=[(3,ab n),(6,bE gA l),(7,ab (l.length:Nat)),(8,ab (i:Nat))]
def NL (l:aI6) (al:l.length<=1000000000) (dP: ∀x,x∈l-> -4611686018427387904<=x.2.1/\x.2.1<=4611686018427387903):Fn prog 263 [bE gA l] [] [] (gb (fL 0 l)) []:=by
 refine aP [] func263 ?_;refine dZ [] (X:=Int×Nat) (fun x=>ako l x.1 x.2) (fun _=>[]) (fun x=>x.2<=l.length/\(0<=x.1/\x.1<=65536)/\fL x.1 (l.drop x.2)=fL 0 l) (fun x=>l.length - x.2) (0,0) ⟨at6 _,⟨Int.le_refl 0,aD7⟩,rfl⟩ ?_ ?_
 .exact ac.sub aA trivial
 rintro⟨n,i⟩ ⟨hi,hn,aj⟩;have hi:i<=l.length:=hi;have hn:0<=n/\n<=65536:=hn;have aj:fL n (l.drop i)=fL 0 l:=aj;refine⟨fun J=>?_,fun J=>?_⟩
 .have J:decide ((i:Int) < ((l.length:Nat):Int))=true:=J;have dc:i < l.length:=aF7
  have aV:=lE (n:=i) dc;have H:l.drop i=l[i]::l.drop (i+1):=aA4 dc;have hx:=dP _ (av5 dc);rw[H] at aj;generalize l[i]=x at*;rw[zw] at aj;have m1:(0:Int)<=(i:Int):=aE5
  refine⟨m1,x,aV,rfl,fun E=>?_,fun E=>?_⟩
  .have E:(!decide (x.1=n))=true:=E;have E: ¬x.1=n:=aG9
   rw[mu (fun h=>E h.1)] at aj;exact ea bn rfl aj
  have E:(!decide (x.1=n))=false:=E;have E:x.1=n:=aG9
  refine⟨fun G=>?_,fun G=>?_⟩
  .have G:x.2.1 < 1:=gd G;rw[mu (fun h=>by omega)] at aj;exact ea bn rfl aj
  have G: ¬x.2.1 < 1:=oj G;have m2:c5 (65536 - n):=aE5
  refine⟨m2,fun ah=>?_,fun ah=>?_⟩
  .have ah:65536 - n < x.2.1:=gd ah;rw[mu (fun h=>by omega)] at aj;exact ea bn rfl aj
  have ah: ¬65536 - n < x.2.1:=oj ah;rw[vj ⟨E,aD7,aD7⟩] at aj;have m3:c5 (n+x.2.1):=aE5
  have iu:c5 ((i:Int)+1):=aE5
  refine⟨m3,iu,?_⟩;exact⟨(n+x.2.1,i+1),⟨dc,(by show 0<=n+x.2.1/\n+x.2.1<=65536;omega),aj⟩,(by show l.length - (i+1) < l.length - i;omega),ac.sub aA trivial⟩
 .have J:decide ((i:Int) < ((l.length:Nat):Int))=false:=J;have oF:i=l.length:=aF6
  subst oF;rw[List.drop_length] at aj;exact ea bn rfl aj
def NM (l:aI6) (O: ∀x,l.getLast? =some x-> -4611686018427387904<=x.1/\x.1<=4611686018427387903/\ -4611686018427387904<=x.2.1/\x.2.1<=4611686018427387903) (al:l.length<=4294967296):
  Fn prog 264 [bE gA l] [] [] (ab (fa l)) []:=by
 refine aP [] func264 ?_;refine⟨fun h=>?_,fun h=>?_⟩
 .have h:((l.length:Nat):Int)=0:=gd h;have ar:l=[]:=List.length_eq_zero_iff.1 aD7;subst ar;exact bb
 .have h: ¬((l.length:Nat):Int)=0:=oj h
  cases hx:l.getLast? with
  |none=>rw[NI hx] at h;exact at1 rfl h
  |some x=>
   have O:=O x hx;obtain⟨ar,aV⟩:=BM hx;have e:(((l.length:Nat):Int) - 1).toNat=l.length - 1:=aE5
   have m:c5 (((l.length:Nat):Int) - 1):=aE5
   have m2:(0:Int)<=((l.length:Nat):Int) - 1:=aE5
   have m3:c5 (x.1+x.2.1):=aE5
   have rQ:eR l (((l.length:Nat):Int) - 1).toNat=some x:=by rw[e];exact aV
   refine⟨m,m2,x,rQ,m,m2,x,rQ,m3,eG aE0,?_⟩;exact ea bn rfl (show x.1+x.2.1=fa l by unfold fa;rw[hx])
def H7 (l:aI6):Int:=if fL 0 l=true then fa l else 0
def akp (l:aI6) (al:l.length<=1000000000) (dP: ∀x,x∈l-> -4611686018427387904<=x.2.1/\x.2.1<=4611686018427387903):Fn prog 268 [bE gA l] [] [] (ab (H7 l)) []:=by
 have aj:=NL l al dP;unfold H7
 cases J:fL 0 l with
 |false=>
  rw[J] at aj;refine aP [] func268 ?_;exact av aj <| fR bb
 |true=>
  rw[J] at aj;have U:=NM l (fun x hx=>by have:=BN J (Int.le_refl 0) hx;omega) aD7;refine aP [] func268 ?_;exact av aj <| dh <| av U bb
def tl (fr bJ:Int) (out:aI6) (x:cK):List cK:=jh out (min (x.1+x.2.1) (fr+bJ) - max x.1 fr) x.2.2
def xx (l:aI6) (fr bJ:Int):Bool:=fL 0 l&&(decide (1<=bJ)&&(decide (0<=fr)&&(decide (bJ<=fa l)&&decide (fr<=fa l - bJ))))
def me (l:aI6) (fr bJ:Int):List cK:=if xx l fr bJ=true then l.foldl (tl fr bJ) [] else[]
def akq {l:aI6} {n k B:Int} (h: ∀x,l.getLast? =some x->0<=x.1/\0<=x.2.1/\x.1+x.2.1<=B) (de:0<=B) {C:Int} (dr:B+n<=C) (asQ:B<=C): ∀x,(jh l n k).getLast? =some x->0<=x.1/\0<=x.2.1/\x.1+x.2.1<=C:=by
 intro x hx;unfold jh at hx
 split at hx
 .have:=h x hx;omega
 rename_i hn
 have mJ:0<=fa l/\fa l<=B:=by
  unfold fa
  split
  .omega
  .rename_i y aD;have:=h y aD;omega
 split at hx
 .rename_i y aD;have asR:=h y aD
  split at hx
  .obtain⟨ar,aV⟩:=BM aD;rw[List.getLast?_eq_getElem?,ay3,ay7 aD7] at hx;injection hx with hx
   subst hx;show 0<=y.1/\0<=y.2.1+n/\y.1+(y.2.1+n)<=C;omega
  .rw[List.getLast?_append] at hx;simp at hx;subst hx;show 0<=fa l/\0<=n/\fa l+n<=C;omega
 .rw[List.getLast?_append] at hx;simp at hx;subst hx;show 0<=fa l/\0<=n/\fa l+n<=C;omega
def akr (l:aI6) (n k:Int):(jh l n k).length<=l.length+1:=by
 unfold jh
 split
 .omega
 split
 .split
  .rw[ay3];omega
  .rw[as9];exact at0 _
 .rw[as9];exact at0 _
abbrev aks (l:aI6) (fr bJ:Int) (i:Nat):aW:=[(1,ab fr),(2,ab bJ),(7,dY 5002),(37,bE gA l),(38,ab (l.length:Nat)),(39,ab (i:Nat))]
abbrev akt (l:aI6) (fr bJ:Int) (i:Nat):aW:=[(1,ab fr),(2,ab bJ),(7,dY 1002),(37,bE gA l),(38,ab (l.length:Nat)),(39,ab (i:Nat))]
abbrev aku (out:aI6):ay:=[(5002,.row 66 gA out)]
abbrev Vb (out:aI6):ay:=[(1002,.row 66 gA out)]
def sc (l:aI6) (fr bJ:Int) (i:Nat):List cK:=(l.take i).foldl (tl fr bJ) []
def Vc {l:aI6} {fr bJ:Int} {i:Nat} (h:i < l.length):sc l fr bJ (i+1)=jh (sc l fr bJ i) (min (l[i].1+l[i].2.1) (fr+bJ) - max l[i].1 fr) l[i].2.2:=by unfold sc;rw[aB1,as7 h];show((l.take i)++[l[i]]).foldl _ _=_;rw[aB9];rfl
def Vd (l:aI6) (fr bJ:Int) (i:Nat):(sc l fr bJ i).length<=i:=by
 unfold sc
 have: ∀(m:aI6) (out:aI6),(m.foldl (tl fr bJ) out).length<=out.length+m.length:=by
  intro m
  induction m with
  |nil=>intro out;exact at0 _
  |cons x m bk=>
   intro out;have E:=bk (tl fr bJ out x);have G:=akr out (min (x.1+x.2.1) (fr+bJ) - max x.1 fr) x.2.2;show(m.foldl (tl fr bJ) (tl fr bJ out x)).length<=out.length+(m.length+1);have ah:(tl fr bJ out x).length<=out.length+1:=G;omega
 have h:=this (l.take i) [];have G:(l.take i).length<=i:=aF0
 have ah:([]:aI6).length=0:=rfl;omega
def Ve {l:aI6} {fr bJ:Int} (aj:fL 0 l=true) (vH:0<=fr) (akv:0<=bJ): ∀i,i<=l.length-> ∀x,(sc l fr bJ i).getLast? =some x->0<=x.1/\0<=x.2.1/\x.1+x.2.1<=65536*(i:Int)
 |0,_,x,hx=>by cases hx
 |i+1,hi,x,hx=>by
  have dc:i < l.length:=aE5
  rw[Vc dc] at hx;have U:=NK aj (Int.le_refl 0) _ (av5 dc);exact akq (Ve aj vH akv i aD7) aD7 aD7 aD7 x hx
def akw (l:aI6) (fr bJ:Int) (al:l.length<=1000000000) (dP: ∀x,x∈l-> -4611686018427387904<=x.2.1/\x.2.1<=4611686018427387903) (h:xx l fr bJ=false):Fn prog 231 [bE gA l,ab fr,ab bJ] [] [] (nw .dC) []:=by
 have aj:=NL l al dP;have U:fL 0 l=true->_:=fun J=>NM l (fun x hx=>by have:=BN J (Int.le_refl 0) hx;omega) aD7
 have NN:fL 0 l=true->0<=fa l/\fa l<=65536:=by
  intro J;unfold fa
  split
  .omega
  .rename_i y aD;have:=BN J (Int.le_refl 0) aD;omega
 unfold xx at h
 cases J:fL 0 l with
 |false=>
  rw[J] at aj;refine aP [] func231 ?_;exact av aj <| fR bb
 |true=>
  rw[J] at aj h;have U:=U J;have NN:=NN J;generalize fa l=e at*;refine aP [] func231 ?_;refine av aj <| dh ⟨fun E=>?_,fun E=>?_⟩
  .exact bb
  have E: ¬bJ < 1:=oj E;refine⟨fun G=>?_,fun G=>?_⟩
  .exact bb
  have G: ¬fr < 0:=oj G;refine av U ⟨fun ah=>?_,fun ah=>?_⟩
  .exact bb
  have ah: ¬e < bJ:=oj ah;refine av U ?_;have m1:c5 (e - bJ):=aE5
  refine⟨m1,fun aS=>?_,fun aS=>?_⟩
  .exact bb
  have aS: ¬e - bJ < fr:=oj aS;rw[au1 (show 1<=bJ by omega),au1 (show 0<=fr by omega),au1 (show bJ<=e by omega),au1 (show fr<=e - bJ by omega)] at h
  cases h
def akx (l:aI6) (fr bJ:Int) (al:l.length<=1000000) (dP: ∀x,x∈l-> -4611686018427387904<=x.2.1/\x.2.1<=4611686018427387903) (h:xx l fr bJ=true):Fn prog 231 [bE gA l,ab fr,ab bJ] [] [1002] (dY 1002) (Vb (me l fr bJ)):=by
 have aj:=NL l aD7 dP
 have aky:me l fr bJ=sc l fr bJ l.length:=by
  unfold me sc;rw[vj h,av0]
 rw[aky];unfold xx at h;simp only[as8,aw0] at h;obtain⟨J,E,G,ah,aS⟩:=h;rw[J] at aj;have U:=NM l (fun x hx=>by have:=BN J (Int.le_refl 0) hx;omega) aD7
 have NN:0<=fa l/\fa l<=65536:=by
  unfold fa
  split
  .omega
  .rename_i y aD;have:=BN J (Int.le_refl 0) aD;omega
 have Ex:=Ve J G (show 0<=bJ by omega);have akz:=NK J (Int.le_refl 0);have bW:=Vd l fr bJ;generalize fa l=e at*;have m1:c5 (e - bJ):=aE5
 have m2:c5 (fr+bJ):=aE5
 refine aP [] func231 ?_;refine av aj <| dh ⟨fun h=>at1 (gd h) aD7,fun _=>⟨fun h=>at1 (gd h) aD7,fun _=>av U ⟨fun h=>at1 (gd h) aD7,fun _=>av U ⟨m1,fun h=>at1 (gd h) aD7,fun _=>dZ [] (X:=Nat) (fun i=>aks l fr bJ i) (fun i=>aku (sc l fr bJ i)) (fun i=>i<=l.length) (fun i=>l.length - i) 0 (at6 _) ?_ ?_⟩⟩⟩⟩
 .exact(ac.nil 7 5002 66 gA rfl rfl).trans (ac.sub aA aA)
 intro i hi;have hi:i<=l.length:=hi;have Ex:=Ex i hi;have bW:=bW i;refine⟨fun J=>?_,fun J=>?_⟩
 .have J:decide ((i:Int) < ((l.length:Nat):Int))=true:=J;have dc:i < l.length:=aF7
  have aV:=lE (n:=i) dc;have hx:=akz _ (av5 dc);have v6:=Vc (fr:=fr) (bJ:=bJ) dc;generalize l[i]=x at*;have d3:(0:Int)<=(i:Int):=aE5
  have cX:c5 (x.1+x.2.1):=aE5
  have dJ:c5 (min (x.1+x.2.1) (fr+bJ) - max x.1 fr):=aE5
  have dN:c5 ((i:Int)+1):=aE5
  have k2:min (x.1+x.2.1) (fr+bJ) - max x.1 fr<=4611686018427387903:=aE5
  have ha:=U8 (sc l fr bJ i) (min (x.1+x.2.1) (fr+bJ) - max x.1 fr) x.2.2 (fun y aD=>by have:=Ex y aD;omega) k2 aD7;rw[<-v6] at ha;refine⟨d3,x,aV,rfl,cX,m2,eG aE0,dJ,av (Fn.aT [(1001,5002)] ha) ?_⟩;exact⟨dN,i+1,dc,by show l.length - (i+1) < l.length - i;omega,ac.trans (cz (akt l fr bJ (i+1)) (Vb (sc l fr bJ (i+1)))) ((ac.aT 1002 5002 rfl).trans (ac.sub aA aA))⟩
 .have J:decide ((i:Int) < ((l.length:Nat):Int))=false:=J;have oF:i=l.length:=aF6
  subst oF;exact⟨_,_,_,ac.aT 5002 1002 rfl,rfl,rfl,aA,rfl⟩
def Vf (l:aI6) (fr bJ:Int) (al:l.length<=1000000) (dP: ∀x,x∈l-> -4611686018427387904<=x.2.1/\x.2.1<=4611686018427387903):Fn prog 231 [bE gA l,ab fr,ab bJ] [] [] (bE gA (me l fr bJ)) []:=by
 cases h:xx l fr bJ with
 |false=>
  have e:me l fr bJ=[]:=by unfold me;rw[h];rfl
  rw[e];exact(akw l fr bJ aD7 dP h).res rfl
 |true=>exact Fn.dH (aO:=[]) (akx l fr bJ al dP h) rfl rfl
def il (l:aI6):List cK:=me l 0 (H7 l)
def akA (l:aI6) (al:l.length<=1000000) (dP: ∀x,x∈l-> -4611686018427387904<=x.2.1/\x.2.1<=4611686018427387903):Fn prog 246 [bE gA l] [] [] (bE gA (il l)) []:=by have E:=akp l aD7 dP;have G:=Vf l 0 (H7 l) al dP;refine aP [] func246 ?_;exact av E <| av G bb
end
section
def Vg {ρ:Go.Shelf.Ren} (L:SlLaysW.n5 prog ρ) (fP:jp prog (ρ.f 5)=true) {aF aJ:bz} (es:List (aa aF×aa aJ)):
  Fn prog (ρ.f 5) [.c (.one (.mp 1001))] [(1001,.map aF aJ es)] [2001] (.c (.one (.mp 2001))) [(1001,.map aF aJ es),(2001,.map aF aJ es)]:=by
 refine⟨fP,fun ρ F I w b0 a7 c' bg eE bW dG=>?_⟩
 match b0,bW with
 | [v],_=>
  obtain rfl:v= .map (some (ρ 1001).bf):=dG 0 _ v rfl rfl;obtain⟨GO,bT,bY,O,aC,de⟩:=c' 1001 _ rfl;refine(AnyW.maps_Clone L _ _ _ w O).mono ?_;rintro e w' ⟨rfl,rfl⟩;have gI:Below w.heap.size w (w.alloc (.map (List.toArray bT) bY)):=(Below.refl _ _).alloc (at0 _) _;have aY:cm I w I (w.alloc (.map (List.toArray bT) bY)):=fun b ix=>⟨ix,gI.block b (a7 b ix)⟩
  have bv:=ml O;refine⟨_,dv ρ 2001 ⟨w.heap.size,none,0,0⟩,dv F 2001 (fun b=>b=w.heap.size),rfl,cU.rj gI,fun c J=>dD _ _ (fun e=>J (by simp[e])),I,aY,fun b ix=>⟨au8 (a7 b ix) gI.size,.inl ix⟩,?_,?_,?_,?_⟩
  .intro c ch J;rw[co] at J
   split at J
   .rename_i eW;subst eW;injection J with J;subst J
    rw[dD _ _ aD8,dD _ _ aD8];exact⟨GO,bT,bY,(gI.block _ bv).trans O,aC.mono aY,de⟩
   .rw[co] at J
    split at J
    .rename_i eW;subst eW;injection J with J;subst J
     rw[dB,dB];exact⟨fun b=>Iff.rfl,bT,bY,heap_alloc_new w _,aC.mono aY,de⟩
    .simp[ae] at J
  .intro c ch J b Ey;rw[co] at J
   split at J
   .rename_i eW;subst eW;rw[dD _ _ aD8] at Ey;have:=bg 1001 _ rfl b Ey;exact⟨au8 this.1 gI.size,this.2,.inl ⟨1001,_,rfl,Ey⟩⟩
   .rw[co] at J
    split at J
    .rename_i eW;subst eW;rw[dB] at Ey;subst Ey;exact⟨aD9,fun ix=>by have:=a7 _ ix;omega,.inr (at0 _)⟩
    .simp[ae] at J
  .intro c cn ch ch' b J c3 a6 jx iq
   have key: ∀c ch,ae [(1001,a8.map aF aJ es),(2001,a8.map aF aJ es)] c=some ch->c=1001\/c=2001:=fun c ch J=>by
    rw[co] at J
    split at J
    .rename_i h;exact .inl h.symm
    .rw[co] at J
     split at J
     .rename_i h;exact .inr h.symm
     .simp[ae] at J
   rcases key c ch J with rfl |rfl <;>rcases key cn ch' c3 with rfl |rfl
   .exact a6 rfl
   .rw[dD _ _ aD8] at jx;rw[dB] at iq;have:=(bg 1001 _ rfl b jx).1;omega
   .rw[dD _ _ aD8] at iq;rw[dB] at jx;have:=(bg 1001 _ rfl b iq).1;omega
   .exact a6 rfl
  .show Value.map (some w.heap.size)=Value.map (some (dv ρ 2001 _ 2001).bf);rw[dB]
end
section
def pr (s g:Int):Int:=(s+g - 1)/g
def Ez {s g:Int} (aw:0<=s/\s<=4096) (aV:1<=g/\g<=64):0<=pr s g/\pr s g<=4160:=by unfold pr;have dJ:(0:Int)<=(s+g - 1)/g:=aD2 aD7 aD7;have dN:(s+g - 1)/g<=s+g - 1:=Int.ediv_le_self _ aD7;omega
def akB (s g:Int) (es:aH5) (aw:0<=s/\s<=4096) (aV:1<=g/\g<=64):Fn prog 209 [ap 1001] (jg s g es) [] (ab (pr s g)) (jg s g es):=by
 have l1:=Ez aw aV;unfold pr at l1⊢;have dg:c5 (s+g):=aE5
 have jd:c5 (s+g - 1):=aE5
 have pj:c5 ((s+g - 1)/g):=aE5
 have n6:(0:Int)<=s+g - 1/\0 < g:=aE5
 refine aP [] func209 ?_;exact⟨dg,jd,n6,pj,eG aE0,bb⟩
def v7 (es:aH5) (f:Int):Nat->List (aa aq×aa aq)
 |0=>es
 |n+1=>gN (aF:=aq) (aJ:=aq) (v7 es f n) (f+(n:Int))
def akC (s g:Int) (es:aH5) (k:Int):Fn prog 244 [ab k,ap 3001] (sb s g es) [] g' (sb s g (gN (aF:=aq) (aJ:=aq) es k)):=by refine aP [] func244 ?_;exact bb
abbrev akD (d9 k:Int):aW:=[(4,ab d9),(5,.c (.one (.c2 244 [.p 3001 0]))),(13,ab k)]
def akE (s g:Int) (es:aH5) (fr bJ f1 d9:Int) (E:0<=bJ) (G:0<=fr) (ah:bJ<=s) (aS:fr<=s - bJ) (aw:s<=4096) (bB:0<=f1) (ej:d9<=1000000):Fn prog 184 [ap 1001,ab fr,ab bJ,ab f1,ab d9,.c (.one (.c2 244 [.p 3001 0]))] (sb s g es) [] (ab 0) (sb s g (v7 es f1 (d9 - f1).toNat)):=by
 have m1:c5 (s - bJ):=aE5
 refine aP [] func184 ?_;refine⟨fun h=>at1 (gd h) aD7,fun _=>⟨fun h=>at1 (gd h) aD7,fun _=>⟨fun h=>at1 (gd h) aD7,fun _=>⟨m1,fun h=>at1 (gd h) aD7,fun _=>dZ [6] (X:=Nat) (fun j=>akD d9 (f1+(j:Int))) (fun j=>sb s g (v7 es f1 j)) (fun j=>j<=(d9 - f1).toNat) (fun j=>(d9 - f1).toNat - j) 0 (at6 _) ?_ ?_⟩⟩⟩⟩
 .exact ac.sub ⟨rfl,rfl,(show f1=f1+((0:Nat):Int) by omega),trivial⟩ aA
 intro j V;have V:j<=(d9 - f1).toNat:=V;refine⟨fun J=>?_,fun J=>?_⟩
 .have J:decide (f1+(j:Int) < d9)=true:=J;have J:=gd J;exact bw [] (bn) <| av (akC s g (v7 es f1 j) (f1+(j:Int))) ⟨aD7,j+1,aD7,aD7,ac.sub ⟨rfl,rfl,(show f1+(j:Int)+1=f1+((j+1:Nat):Int) by omega),trivial⟩ aA⟩
 .have J:decide (f1+(j:Int) < d9)=false:=J;have J:=oj J;have fE:j=(d9 - f1).toNat:=aE5
  subst fE;exact bb
def EA (s g:Int) (es:aH5):List (aa aq×aa aq):=v7 es 0 (pr s g).toNat
abbrev akF (s d9:Int):aW:=[(1,ab 0),(2,ab s),(3,ap 3),(7,ab d9)]
def akG (s g:Int) (es:aH5) (aw:0<=s/\s<=4096) (aV:1<=g/\g<=64):Fn prog 202 [ap 1001,ab 0,ab s] (jg s g es) [] (ab 0) (jg s g (EA s g es)):=by
 have l1:=Ez aw aV;have Mu:=akB s g es aw aV;have d3:(0:Int)<=(0+s)/g:=aD2 aD7 aD7;have cX:(0+s)/g<=0+s:=Int.ediv_le_self _ aD7;have cC:c5 (0+s):=aE5
 have dg:(0:Int)<=0+s/\0 < g:=aE5
 have jd:c5 ((0+s)/g):=aE5
 have pj:c5 (0+g):=aE5
 have n5:c5 (0+g - 1):=aE5
 have n6:(0:Int)<=0+g - 1/\0 < g:=aE5
 have bC:(0+g - 1)/g=0:=Int.ediv_eq_zero_of_lt aD7 aD7;have n7:c5 ((0+g - 1)/g):=aE5
 have U:=akE s g es 0 s 0 (pr s g) aw.1 (Int.le_refl 0) (Int.le_refl s) aD7 aw.2 (Int.le_refl 0) aD7;have a2:(pr s g - 0).toNat=(pr s g).toNat:=by rw[Int.sub_zero]
 rw[a2] at U;unfold EA;generalize pr s g=d9 at*;refine aP [4] func202 ?_;refine⟨rfl,cC,dg,jd,cC,?_⟩;exact⟨fun _=>av Mu <| bw [] (cz (akF s d9) (Em s g es)) ⟨pj,n5,n6,n7,av (Fn.arg (args:=[ap 1001,ab 0,ab s,ab ((0+g - 1)/g),ab d9,.c (.one (.c2 244 [.p 3001 0]))]) U ⟨rfl,rfl,rfl,bC,rfl,rfl,trivial⟩ |> Fn.aT [(3001,3)]) ⟨eG aE0,bb⟩⟩,fun h=>at1 (show decide (0+s=s)=false from h) (by rw[Int.zero_add];simp)⟩
def h3 (g:Int) (es:aH5) (n:Nat):List Int:=(List.range n).map fun k=>if ke g es k=true then 1 else 0
def akH (g:Int) (es:aH5) (n:Nat):h3 g es (n+1)=h3 g es n++[if ke g es n=true then 1 else 0]:=by unfold h3;rw[List.range_succ,ay6];rfl
def zx (g:Int) (es:aH5) (n:Nat):(h3 g es n).length=n:=by unfold h3;rw[au3,List.length_range]
def kh (s g:Int) (es:aH5):List cK:=lQ (h3 g es s.toNat)
abbrev akI (s:Int) (j:Nat):aW:=[(0,ap 1001),(3,dY 5002),(9,ab s),(10,ab (j:Nat))]
abbrev Vh (s:Int) (j:Nat):aW:=[(0,ap 1001),(3,dY 19),(9,ab s),(10,ab (j:Nat))]
abbrev akJ (s g:Int) (es:aH5) (x:aI7):ay:=jg s g es++[(5002,.row 3 aq x)]
abbrev Vi (s g:Int) (es:aH5) (x:aI7):ay:=jg s g es++[(19,.row 3 aq x)]
def Vj (s g:Int) (es:aH5) (aw:0<=s/\s<=4096) (aV:1<=g):Fn prog 174 [ap 1001] (jg s g es) [] (bE gA (kh s g es)) (jg s g es):=by
 have NJ:=Va (h3 g es s.toNat) (by rw[zx];omega);unfold kh;refine aP [] func174 ?_;refine dZ [] (X:=Nat) (fun j=>akI s j) (fun j=>akJ s g es (h3 g es j)) (fun j=>j<=s.toNat) (fun j=>s.toNat - j) 0 (at6 _) ?_ ?_
 .exact(ac.nil 3 5002 3 aq rfl rfl).trans (ac.sub aA aA)
 intro j V;have V:j<=s.toNat:=V;have sN:=akH g es j;have vP:=zx g es j;refine⟨fun J=>?_,fun J=>?_⟩
 .have J:decide ((j:Int) < s)=true:=J;have fb:(j:Int) < s:=gd J;have hi:=UO s g es j aV fb aw.2;have m:List.length (α:=Int) (h3 g es j)+1<=4294967296:=aE5
  have m2:c5 ((j:Int)+1):=aE5
  generalize h3 g es j=ks at*;generalize ke g es j=b at*;refine av hi ⟨fun O=>?_,fun O=>?_⟩
  .have O:b=true:=O;subst O;have sN:h3 g es (j+1)=ks++[1]:=sN;exact⟨m,rfl,m2,j+1,(by show j+1<=s.toNat;omega),(by show s.toNat - (j+1) < s.toNat - j;omega),ac.trans (ac.sub (K':=Vh s (j+1)) (B':=Vi s g es (h3 g es (j+1))) aA ⟨rfl,rfl,at2 (fun aH:List Int=>some (a8.row 3 aq aH)) sN.symm,trivial⟩) <| (ac.aT 19 5002 rfl).trans (ac.sub aA aA)⟩
  .have O:b=false:=O;subst O;have sN:h3 g es (j+1)=ks++[0]:=sN;exact⟨m,rfl,m2,j+1,(by show j+1<=s.toNat;omega),(by show s.toNat - (j+1) < s.toNat - j;omega),ac.trans (ac.sub (K':=Vh s (j+1)) (B':=Vi s g es (h3 g es (j+1))) aA ⟨rfl,rfl,at2 (fun aH:List Int=>some (a8.row 3 aq aH)) sN.symm,trivial⟩) <| (ac.aT 19 5002 rfl).trans (ac.sub aA aA)⟩
 .have J:decide ((j:Int) < s)=false:=J;have fE:j=s.toNat:=aF6
  subst fE;exact av (Fn.own (d:=5002) (e:=3) (u:=aq) (xs:=h3 g es s.toNat) (args:=[dY 5002]) NJ rfl) bb
def Vk (es:aH5):Fn prog 194 [.c (.one (.mp 1001))] [(1001,.map aq aq es)] [2001] (.c (.one (.mp 2001))) [(1001,.map aq aq es),(2001,.map aq aq es)]:=
 Vg aeS aE0 es
def akK (s g:Int) (es:aH5):Fn prog 133 [ap 1001] (jg s g es) [2001,2002] (ap 2001) (jg s g es++[(2001,.cells [.d (.int .i64 s),.d (.int .i64 g),.mp 2002]),(2002,.map aq aq es)]):=by refine aP [] func133 ?_;exact av (Fn.aT [(1001,1002),(2001,2002)] (Vk es)) ⟨rfl,eG aE0,_,_,_,ac.aT 17 2001 rfl,rfl,rfl,aA,rfl⟩
abbrev NO (l:aI6) (k:Int):ay:=[(2001,.cells [.d (.b' gA l)]),(2002,.cells [.d (.int .i64 k)])]
abbrev NP (l:aI6) (k:Int) (o:bc):ay:=[(2001,.cells [.d (.b' gA l)]),(2002,.cells [.d (.int .i64 k)]),(1001,.az o)]
abbrev Vl (y:Nat) (m:aI6) (i:Nat):aW:=[(0,DT y),(2,ap 2002),(7,bE gA m),(8,ab (m.length:Nat)),(9,ab (i:Nat))]
def akL (l:aI6) (k:Int):Fn prog 203 [bE gA l,ab k] [] [2001,2002] (.c (.one (.c2 245 [.p 2001 0,.p 2002 0]))) (NO l k):=by refine aP [] func203 ?_;exact⟨rfl,rfl,_,_,_,(ac.aT 2 2001 rfl).trans (ac.aT 3 2002 rfl),rfl,rfl,aA,rfl⟩
def akM (y:Nat) (l:aI6) (k:Int) (al:l.length<=1000000) (dP: ∀x,x∈l-> -4611686018427387904<=x.2.1/\x.2.1<=4611686018427387903) {X:Type} (eI:X->bc) (xs:Nat->X)
  (aD: ∀i (h:i < (il l).length),(il l)[i].2.2=k->wX prog y [ab (il l)[i].1,ab (il l)[i].2.1] [(1001,.az (eI (xs i)))] (fun _:Unit=>qq true) (fun _=>[(1001,.az (eI (xs (i+1))))]))
  (a6: ∀i (h:i < (il l).length),¬(il l)[i].2.2=k->xs (i+1)=xs i) (eM:(il l).length<=1000000):
  Fn prog 245 [DT y,ap 2001,ap 2002] (NP l k (eI (xs 0))) [] (.b4 []) [(1001,.az (eI (xs (il l).length)))]:=by
 have hn:=akA l al dP;generalize il l=m at*;refine aP [3] func245 ?_;refine av hn <| dZ [3] (X:=Nat) (fun i=>Vl y m i) (fun i=>NP l k (eI (xs i))) (fun i=>i<=m.length) (fun i=>m.length - i) 0 (at6 _) ?_ ?_
 .exact ac.sub aA aA
 intro i hi;have hi:i<=m.length:=hi;refine⟨fun J=>?_,fun J=>?_⟩
 .have J:decide ((i:Int) < ((m.length:Nat):Int))=true:=J;have dc:i < m.length:=aF7
  have aV:=lE (n:=i) dc;have aD:=aD i dc;have a6:=a6 i dc;generalize m[i]=x at*;have d3:(0:Int)<=(i:Int):=aE5
  have cX:c5 ((i:Int)+1):=aE5
  refine⟨d3,x,aV,rfl,bG.le (cz ((5,ap 5)::Vl y m i) ((5,.cells (ake x))::NP l k (eI (xs i)))) <| bG.iF eY aE0 ⟨fun Z=>?_,fun Z=>?_⟩⟩
  .have Z:x.2.2=k:=gd Z;refine⟨Unit,_,_,_,aD Z,aA,fun _=>rfl,fun _=>?_⟩;exact⟨cX,i+1,dc,(by show m.length - (i+1) < m.length - i;omega),ac.sub aA aA⟩
  .have Z: ¬x.2.2=k:=oj Z;have a6:=a6 Z;exact⟨cX,i+1,dc,(by show m.length - (i+1) < m.length - i;omega),ac.sub aA ⟨rfl,rfl,at2 (fun aH=>some (a8.az (eI aH))) a6.symm,trivial⟩⟩
 .have J:decide ((i:Int) < ((m.length:Nat):Int))=false:=J;have oF:i=m.length:=aF6
  subst oF;exact bb
def NQ {ks:aI7} (Z:ks.length<=65536):(lQ ks).length<=65536/\ ∀x,x∈lQ ks-> -4611686018427387904<=x.2.1/\x.2.1<=4611686018427387903:=by have h:=Ew ks;refine⟨by have:=h.len;omega,fun x hx=>?_⟩;have:=h.H5 x hx;omega
def H8 (l:aI6) (fr bJ:Int):(me l fr bJ).length<=l.length:=by
 unfold me
 split
 .have:=Vd l fr bJ l.length;unfold sc at this
  rwa[av0] at this
 .exact at6 _
def xy (s g:Int) (es:aH5) (x:cK):List (aa aq×aa aq):=if x.2.2=1 then lP s g es x.1 x.2.1 else es
def nO (s g:Int) (es:aH5) (m:aI6) (i:Nat):List (aa aq×aa aq):=(m.take i).foldl (xy s g) es
def Vm (s g:Int) (es:aH5) {m:aI6} {i:Nat} (h:i < m.length):nO s g es m (i+1)=xy s g (nO s g es m i) m[i]:=by unfold nO;rw[aB1,as7 h];show((m.take i)++[m[i]]).foldl _ _=_;rw[aB9];rfl
def BO (s g:Int) (es:aH5) (row:aI6):List (aa aq×aa aq):=nO s g es (il row) (il row).length
abbrev H9 (s g:Int) (es:aH5) (bD g2:Int) (ei:aH5):ay:=[(1001,.cells (Nu s g)),(1002,.map aq aq es),(3001,.cells [.d (.int .i64 bD),.d (.int .i64 g2),.mp 3002]),(3002,.map aq aq ei)]
abbrev Vn (s g:Int) (es:aH5) (bD g2:Int) (ei:aH5):ay:=[(1001,.cells (Nu s g)),(1002,.map aq aq es),(2,.cells [.ptr 1001 0]),(3001,.cells [.d (.int .i64 bD),.d (.int .i64 g2),.mp 3002]),(3002,.map aq aq ei)]
def akN (s g:Int) (es:aH5) (bD g2:Int) (ei:aH5) (aw:0<=s/\s<=4096) (aV:1<=g/\g<=64) (fu:0<=bD/\bD<=4096) (akO:1<=g2/\g2<=64) (akP:bD=s):Fn prog 145 [ap 1001,ap 3001] (H9 s g es bD g2 ei) [] (ab 0) (H9 s g (BO s g es (kh bD g2 ei)) bD g2 ei):=by
 have fH:=Vj bD g2 ei fu akO.1;have dP:=NQ (ks:=h3 g2 ei bD.toNat) (by rw[zx];omega);have dP:(kh bD g2 ei).length<=65536/\ ∀x,x∈kh bD g2 ei->_:=dP;have eM:(il (kh bD g2 ei)).length<=(kh bD g2 ei).length:=H8 _ _ _;unfold BO;generalize kh bD g2 ei=rw at*;refine aP [] func145 ?_;refine⟨rfl,eG aE0,fun J=>at1 (show(!decide (bD=s))=true from J) (by simp[akP]),fun _=>av (Fn.aT [(1001,3001),(1002,3002)] fH) <| av (akL rw 1) <| bG.le (cz [(22,.c (.one (.c2 245 [.p 2001 0,.p 2002 0]))),(2,ap 2)] (NO rw 1++Vn s g es bD g2 ei)) <| bG.range eY [] (pl:=[23,24]) rfl aE0 aE0 aE0 aE0 [1001,1002,2,3001,3002] _ [(2,ap 2)] (NO rw 1) (fun e:List (aa aq×aa aq)=>Vn s g e bD g2 ei) 1001 es (nO s g es (il rw) (il rw).length) (fun e aE cc=> ∃(i:Nat) (h:i < (il rw).length),(il rw)[i].2.2=1/\e=nO s g es (il rw) i/\aE=[ab (il rw)[i].1,ab (il rw)[i].2.1]/\cc=nO s g es (il rw) (i+1)) rfl aE9 rfl rfl ?_ ?_ ?_⟩
 .rintro e aE cc ⟨i,hi,Z,rfl,rfl,rfl⟩;have sN:=Vm s g es hi;have hG:=Nx s g (nO s g es (il rw) i) (il rw)[i].1 (il rw)[i].2.1 aw aV;have sN:nO s g es (il rw) (i+1)=lP s g (nO s g es (il rw) i) (il rw)[i].1 (il rw)[i].2.1:=by rw[sN];unfold xy;rw[vj Z]
  generalize(il rw)[i]=x at*;generalize nO s g es (il rw) i=af at*;generalize nO s g es (il rw) (i+1)=ao at*;subst sN;exact⟨rfl,rfl,rfl,av hG ⟨rfl,ac.sub trivial aA⟩⟩
 .intro y eI rX aD;exact akM y rw 1 aD7 dP.2 eI (fun i=>nO s g es (il rw) i) (fun i hi Z=>aD _ _ _ ⟨i,hi,Z,rfl,rfl,rfl⟩) (fun i hi Z=>by rw[Vm s g es hi];unfold xy;rw[mu Z]) aD7
 .exact bb
end
section
abbrev NR (aJ:bz):=Nat×(aa aq×aa aJ)
def akQ {aJ:bz} (p:NR aJ):Int:=p.2.1
def gone {aJ:bz} (n:Int) (ca:aH4) (l:List (NR aJ)):List (NR aJ):=l.filter fun p=> !(ca.contains p.1&&decide (n<=akQ p))
def Vo {es:aH5} (h:ff es) (f:Int): ∀n,ff (qT es f n)
 |0=>h
 |n+1=>ff.put rL (Vo h f n)
def NS {s g:Int} {es:aH5} (h:ff es) (fr bJ:Int):ff (lP s g es fr bJ):=by
 unfold lP
 split
 .exact Vo h _ _
 .exact h
def H' {es:aH5} (h:ff es) (f:Int): ∀n,ff (v7 es f n)
 |0=>h
 |n+1=>ff.nC (H' h f n)
def akR {s g:Int} {es:aH5} (h:ff es) (m:aI6) (i:Nat):ff (nO s g es m i):=by
 unfold nO;generalize m.take i=l
 induction l generalizing es with
 |nil=>exact h
 |cons x l bk=>
  refine bk (es:=xy s g es x) ?_;unfold xy
  split
  .exact NS h _ _
  .exact h
end
section
open Go.RowKit Go.Proofs Go.Maps Go.Shelf Go.MapKept _root_.Go.Proofs.Tryz Tryz
open Go.WideElems (Fit rd rg pl rd_val rd_key rg_of)
def akS (es:List (aa .str×aa .aL)):Fn prog 210 [.c (.one (.mp 1001))] [(1001,.map .str .aL es)] [2001] (.c (.one (.c2 248 [.p 2001 0]))) [(2001,.cells [.mp 1001]),(1001,.map .str .aL es)]:=by refine aP [] func210 ?_;exact⟨rfl,_,_,_,ac.aT 1 2001 rfl,rfl,rfl,aA,rfl⟩
def akT (es:List (aa .str×aa .aL)) (hn:(mc es).Nodup) (al: ∀s∈mc es,s.length<=maxLen) (aw:es.length<=4294967296):
  Fn prog 40 [.c (.one (.c2 248 [.p 2001 0]))] [(2001,.cells [.mp 1001]),(1001,.map .str .aL es)] [] (bE .str (pZ es)) [(2001,.cells [.mp 1001]),(1001,.map .str .aL es)]:=by
 refine⟨aE0,fun ρ F I w b0 a7 c' bg eE bW dG=>?_⟩
 match b0,bW with
 | [v],_=>
  obtain⟨aE,aB,gv,r,hJ,mC,aj⟩:=dG 0 _ v rfl rfl;have aj:r=[]:=aj;have mC:gv= .pointer (some ⟨(ρ 2001).bf,0,none⟩):=mC;subst aj mC hJ aB;obtain⟨_,aE,T,jx,hJ⟩:=c' 2001 _ rfl;obtain⟨x,r,hJ,hx,aj⟩:=hJ;have aj:r=[]:=aj;have hx:x= .map (some (ρ 1001).bf):=hx;subst aj hx hJ;obtain⟨_,bT,bY,iq,aC,de⟩:=c' 1001 _ rfl;have Hr:(4294967296:Nat)<=maxLen:=by decide
  obtain⟨jE,dV,cA,pm⟩:=Ty (P:=prog) (k:=9) aE0 iq aC de hn al aD7;have bv:(ρ 2001).bf < w.heap.size:=ml jx
  have vO:SeqGives Fence.wide 2 prog 248 #[.pointer (some ⟨(ρ 2001).bf,0,none⟩)] encStr (fun hh=>hh.Perm (strKeys jE)) (Maps.size jE) w:=
   AnyZ.keys_gives (ρ:=Sr) {aeQ with} Fence.wide _ trivial rfl aD7 (ρ 2001).bf (ρ 1001).bf es.length jE w bv (o1 jx rfl) dV
  have J:=AnyZ.sorted_in Sp Fence.wide 5 trivial trivial trivial trivial rfl aD7 (TA _) (enters_of func98 aE0 rfl) 248 #[.pointer (some ⟨(ρ 2001).bf,0,none⟩)] trivial (enters_of func248 aE0 rfl) _ _ aG4 aG4 _ vO;refine(callsIn_wide.1 J).mono ?_;rintro e w' ⟨v,hh,rfl,au,fH,Br,gI⟩;have aY:cm I w (fun b=>b < w'.heap.size/\(I b\/w.heap.size<=b)) w':=fun b ix=>⟨⟨au8 (a7 b ix) gI.size,.inl ix⟩,gI.block b (a7 b ix)⟩
  refine⟨v,ρ,F,rfl,cU.rj gI,fun _ _=>rfl,_,aY,fun b h=>⟨h.1,h.2.imp id .inr⟩,fun c ch J=>Holds.cj aY (fun b O=>gI.block b (bg c ch J b O).1) gI.size ch (fun _ _=>rfl) (c' c ch J),fun c ch J b O=>?_,fun c cn ch ch' b E G=>eE c cn ch ch' b E G,?_⟩
  .have:=bg c ch J b O;exact⟨au8 this.1 gI.size,fun h=>(by rcases h.2 with h |h;exact this.2 h;omega),.inl ⟨c,ch,J,O⟩⟩
  .have Z:hh.mergeSort (fun x y=>decide (x<=y))=pZ es:=Go.mergeSort_of_perm (au.trans pm);rw[Z] at fH;have ir:=hS.tN fH;have vP:hh.length=(pZ es).length:=by rw[<-Z,List.length_mergeSort]
   rw[vP] at ir;exact(ir.zZ fun i _ hi=>(fH.lt i hi).1).Tz fun b E G=>⟨E,.inr G⟩
structure bh where
 nm:aH3
 ad:Nat
 eP:Nat
 on:Bool
 us:Bool
 s:Int
 g:Int
 es:List (aa aq×aa aq)
abbrev aI1:=List bh
abbrev jX (e:bh):aa .str×aa .aL:=((e.nm:aa .str),(some e.ad:aa .aL))
abbrev Ia (nm:aH3) (on us:Bool) (eP:Nat):List bA:=[.d (.str nm),.d (.bool on),.d (.bool us),.d (.aL (some eP))]
def zy (nm:aH3) (on us:Bool) (eP:Nat):bc:=bc.ch (.cells (Ia nm on us eP)) (fun _=>rfl)
def fi (s g:Int) (es:aH5):bc:=bc.iQ 1001 (jg s g es)
def eb (l:aI1):List (aa .str×aa .aL):=l.map jX
abbrev xz (e:bh):Nat×bc:=(e.ad,zy e.nm e.on e.us e.eP)
abbrev xA (e:bh):Nat×bc:=(e.eP,fi e.s e.g e.es)
def mK (l:aI1):List (Nat×bc):=l.map xz
def kC (l:aI1):List (Nat×bc):=l.map xA
abbrev eT (l:aI1):ay:=[(1001,.cells [.mp 1002]),(1002,.map .str .aL (eb l)),(1003,.az (.bt (mK l))),(1004,.az (.bt (kC l)))]
def dE (l:aI1) (nm:aH3):Option bh:=l.find? fun e=>decide (e.nm=nm)
def v8 (d:bh) (L:aI1) (nm:aH3):dE (d::L) nm=if d.nm=nm then some d else dE L nm:=by
 unfold dE;rw[List.find?_cons]
 by_cases e:d.nm=nm
 .rw[au1 e,vj e]
 .rw[ax2 e,mu e]
def lR {l:aI1} {nm:aH3} {e:bh} (h:dE l nm=some e):e∈l/\e.nm=nm:=⟨aD3 h,by have:=List.find?_some h;simpa using this⟩
def Ib (nm:aH3): ∀L:List bh,(bX (aF:=.str) (aJ:=.aL) (eb L) nm).getD (cO .aL)=((dE L nm).map (·.ad):Option Nat)
 | []=>rfl
 |d::L=>by
  have bk:=Ib nm L;show(bX (aF:=.str) (aJ:=.aL) (jX d::eb L) nm).getD (cO .aL)=_;rw[v8];rw[show bX (aF:=.str) (aJ:=.aL) (jX d::eb L) nm=match fT .str (nm:aa .str) (jX d).1 with |true=>some (jX d).2 |false=>bX (aF:=.str) (aJ:=.aL) (eb L) nm from rfl]
  by_cases e:d.nm=nm
  .rw[show fT .str (nm:aa .str) (jX d).1=true from(qD _ _).2 e.symm,vj e];rfl
  .rw[show fT .str (nm:aa .str) (jX d).1=false from rM (aF:=.str) qD (fun h=>e h.symm),mu e];exact bk
def NT {f:bh->Nat×bc}: ∀{L:aI1},(L.map fun d=>(f d).1).Nodup-> ∀{d:bh},d∈L->eZ (L.map f) (f d).1=some (f d).2
 | [],_,d,h=>by cases h
 |e::L,hn,d,h=>by
  rw[au9] at hn;obtain⟨cC,dg⟩:=aw6.1 hn;rw[au9];unfold eZ;rcases at7.1 h with rfl |h
  .rw[vj rfl]
  .rw[mu (fun e=>cC (by rw[e];exact aw1 (f:=fun d=>(f d).1) h))];exact NT dg h
def NU {f:bh->Nat×bc} {u:bh->bh}: ∀{L:aI1},(L.map fun d=>(f d).1).Nodup-> ∀{d:bh},d∈L->(f (u d)).1=(f d).1->fX (L.map f) (f d).1 (f (u d)).2=(L.map fun x=>if(f x).1=(f d).1 then u x else x).map f
 | [],_,d,h,_=>by cases h
 |e::L,hn,d,h,Z=>by
  rw[au9] at hn;obtain⟨cC,dg⟩:=aw6.1 hn;rw[au9,au9,au9];unfold fX;rcases at7.1 h with rfl |h
  .rw[vj rfl,vj rfl]
   have akU:(L.map fun x=>if(f x).1=(f d).1 then u x else x)=L:=by
    refine(aw2 fun x hx=>?_).trans (List.map_id' L);rw[mu fun e=>cC (by rw[<-e];exact aw1 (f:=fun d=>(f d).1) hx)]
   rw[akU]
   congr 1
   exact Prod.ext Z.symm rfl
  .have a6: ¬(f e).1=(f d).1:=fun ao=>cC (by rw[ao];exact aw1 (f:=fun d=>(f d).1) h)
   rw[mu a6,mu a6,NU dg h Z]
def nP (l:aI1) (a:Nat) (u:bh->bh):List bh:=l.map fun x=>if x.ad=a then u x else x
structure eA (l:aI1):Prop where
 kb:(l.map (·.nm)).Nodup
 nH:(l.map (·.ad)).Nodup
 xB:(l.map (·.eP)).Nodup
 ok: ∀e,e∈l->(0<=e.s/\e.s<=4096)/\(1<=e.g/\e.g<=64)/\ff e.es/\e.nm.length<=64
 len:l.length<=8
def zz {α m':Type} {f:α->m'}: ∀{l:List α},(l.map f).Nodup-> ∀{p q:α},p∈l->q∈l->f p=f q->p=q
 | [],_,_,_,h,_,_=>by cases h
 |a::l,h,p,q,ag,a2,e=>by
  rw[au9,aw6] at h;rcases at7.1 ag with ag |ag <;>rcases at7.1 a2 with a2 |a2
  .rw[ag,a2]
  .exact at1 (by rw[<-ag,e];exact aw1 a2) h.1
  .exact at1 (by rw[<-a2,<-e];exact aw1 ag) h.1
  .exact zz h.2 ag a2 e
def eA.D {l:aI1} (h:eA l) {e:bh} (U:e∈l):eZ (mK l) e.ad=some (zy e.nm e.on e.us e.eP):=NT (f:=xz) h.nH U
def eA.M {l:aI1} (h:eA l) {e:bh} (U:e∈l):eZ (kC l) e.eP=some (fi e.s e.g e.es):=NT (f:=xA) h.xB U
def Vp {l:aI1} {a:Nat} {u:bh->bh} (E: ∀e,(u e).nm=e.nm) (G: ∀e,(u e).ad=e.ad):eb (nP l a u)=eb l:=by
 unfold eb nP;rw[ax7];refine aw2 fun x _=>?_
 show jX (if x.ad=a then u x else x)=jX x
 split
 .unfold jX;rw[E,G]
 .rfl
def Vq {l:aI1} (h:eA l) {e:bh} (U:e∈l) {u:bh->bh} (G:(u e).ad=e.ad):fX (mK l) e.ad (zy (u e).nm (u e).on (u e).us (u e).eP)=mK (nP l e.ad u):=
 NU (f:=xz) (u:=u) h.nH U G
def Vr {l:aI1} (h:eA l) {e:bh} (U:e∈l) {u:bh->bh} (G:(u e).eP=e.eP):fX (kC l) e.eP (fi (u e).s (u e).g (u e).es)=kC (nP l e.ad u):=by
 refine(NU (f:=xA) (u:=u) h.xB U G).trans ?_;unfold kC nP
 congr 1
 refine aw2 fun x hx=>?_
 by_cases J:x.ad=e.ad
 .have:=zz h.nH hx U J;subst this;rw[vj rfl,vj rfl]
 .rw[mu J,mu fun ao=>J (by rw[zz h.xB hx U ao])]
def akV {l:aI1} {a:Nat} {u:bh->bh} (E: ∀e,(u e).eP=e.eP/\(u e).s=e.s/\(u e).g=e.g/\(u e).es=e.es):kC (nP l a u)=kC l:=by
 unfold kC nP;rw[ax7];refine aw2 fun x _=>?_
 show xA (if x.ad=a then u x else x)=xA x
 split
 .obtain⟨bM,bU,a3,a4⟩:=E x;unfold xA;rw[bM,bU,a3,a4]
 .rfl
def eA.dv {l:aI1} (h:eA l) {a:Nat} {u:bh->bh} (E: ∀e,(u e).nm=e.nm/\(u e).ad=e.ad/\(u e).eP=e.eP) (G: ∀e,e∈l->e.ad=a->(0<=(u e).s/\(u e).s<=4096)/\(1<=(u e).g/\(u e).g<=64)/\ff (u e).es):eA (nP l a u):=by
 have key: ∀{m':Type} (f:bh->m'),(∀e,f (u e)=f e)->(nP l a u).map f=l.map f:=fun f hf=>by
  unfold nP;rw[ax7];refine aw2 fun x _=>?_
  show f (if x.ad=a then u x else x)=f x
  split
  .exact hf x
  .rfl
 refine⟨by rw[key _ fun e=>(E e).1];exact h.kb,by rw[key _ fun e=>(E e).2.1];exact h.nH,by rw[key _ fun e=>(E e).2.2];exact h.xB,fun e U=>?_,by unfold nP;rw[au3];exact h.len⟩;obtain⟨x,hx,rfl⟩:=av7.1 U
 by_cases J:x.ad=a
 .rw[vj J];obtain⟨b1,b2,b3⟩:=G x hx J;exact⟨b1,b2,b3,by rw[(E x).1];exact(h.ok x hx).2.2.2⟩
 .rw[mu J];exact h.ok x hx
def NV {f:aI9} {args:List aN} {res:aN} {s g s' hb:Int} {es eC:aH5} {M:List (Nat×bc)} {b:Nat} (h:Fn prog f (ap 1001::args) (jg s g es) [] res (jg s' hb eC)) (ak:eZ M b=some (fi s g es))
  (E:om 1001 [1002] (ap 1001::args) (jg s g es) [] [] []=true) (G:oo 1001 (m8 [1002] [] []) res (jg s' hb eC) []=true) (ah:(args.all fun v=> !v.has 1001)=true) (aS:(!res.has 1001)=true):
  Fn prog f (dd b::args) [(1004,.az (.bt M))] [] res [(1004,.az (.bt (fX M b (fi s' hb eC))))]:=by
 have J:Fn prog f (ap 1001::args) [(1001,.az (fi s g es))] [] res [(1001,.az (fi s' hb eC))]:=Fn.close (bq:=jg s g es) (dI:=jg s' hb eC) (aK:=[]) (aO:=[]) [1002] aE6 (fun _ _ _ _ h=>h) (fun _ _ _ _ h=>h) E G;exact(cD.bt (c:=1001) (q:=1004) (b:=b) (args:=args) (aK:=[]) (ba:=[]) (X:=Unit) (res:=fun _=>res) (aO:=fun _=>[]) (o:=fi s g es) (o':=fun _=>fi s' hb eC) (L:=M) J.x ak ah ⟨rfl,rfl⟩ rfl (fun _=>aS)).fn
def akW:Fn prog 64 [] [] [1001,1002,1003,1004] (ap 1001) (eT []):=by refine aP [] func64 ?_;exact⟨rfl,rfl,_,_,_,ac.trans (ac.aT 3 1001 rfl) (ac.trans (ac.aT 1 1002 rfl) (ac.trans (ac.vy 1003 rfl) (ac.vy 1004 rfl))),rfl,rfl,aA,rfl⟩
def EB (l:aI1):mc (eb l)=l.map (·.nm):=by unfold mc eb;rw[ax7];rfl
def nQ (l:aI1):List aH3:=pZ (eb l)
def akX (l:aI1):(nQ l).length=l.length:=by unfold nQ pZ;rw[List.length_mergeSort,EB,au3]
def akY {l:aI1} (h:eA l):Fn prog 153 [ap 1001] (eT l) [] (bE .str (nQ l)) (eT l):=by
 have Z:(mc (eb l)).Nodup:=by rw[EB];exact h.kb
 have aC: ∀s∈mc (eb l),s.length<=maxLen:=fun s aw=>by
  rw[EB] at aw;obtain⟨d,H,rfl⟩:=av7.1 aw;exact ay1 (h.ok d H).2.2.2 aD8
 have aw:(eb l).length<=4294967296:=by unfold eb;rw[au3];have:=h.len;omega
 refine aP [] func153 ?_;exact av (Fn.aT [(1001,1002),(2001,5001)] (akS (eb l))) <| av (Fn.aT [(1001,1002),(2001,5001)] (akT (eb l) Z aC aw)) bb
def NW:(prog.info? 4).map (·.size)=some 1:=by kernel_rfl
def NX:(prog.info? 85).map (·.size)=some 1:=by kernel_rfl
def akZ {I:Nat->Prop} {w:aH9} {b:Bool} {aH:aI8} (h:gL I w (.bool b) aH):aH.cells=List.toArray [aH]/\aH.oneCell'=true:=by have h:aH= .bool b:=h;subst h;exact⟨rfl,rfl⟩
def ak0 {I:Nat->Prop} {w:aH9} {b:Bool} {aH:aI8} (h:gL I w (.lit b) aH):aH.cells=List.toArray [aH]/\aH.oneCell'=true:=by have h:aH= .bool b:=h;subst h;exact⟨rfl,rfl⟩
def ak1 {l:aI1} (h:eA l) {e:bh} (U:e∈l) (on:Bool):Fn prog 205 [dd e.ad,ap 3001] (eT l++[(3001,.cells [.d (.bool on)])]) [] g' (eT (nP l e.ad fun x=>{x with on:=on})++[(3001,.cells [.d (.bool on)])]):=by obtain⟨pW,hd,he⟩:=lp NW;have cw:=h.D U;have pn:=Vp (l:=l) (a:=e.ad) (u:=fun x=>{x with on:=on}) (fun _=>rfl) (fun _=>rfl);have tc:=Vq h U (u:=fun x=>{x with on:=on}) rfl;have xj:=akV (l:=l) (a:=e.ad) (u:=fun x=>{x with on:=on}) (fun _=>⟨rfl,rfl,rfl,rfl⟩);refine aP [] func205 ?_;refine bm (kx (b:=e.ad) rfl rfl) ?_;refine bm (fun N=>kY rfl underlying212 rfl rfl hd aF4 rfl N) ?_;refine bm (fun N=>GN (q:=1003) (b:=e.ad) (j:=1) (y:=.bool on) (l:=Ia e.nm e.on e.us e.eP) (h':=fun _=>rfl) rfl hd he rfl rfl rfl cw (show 1 < 4 by decide) akZ N) ?_;exact s4 bn rfl trivial ⟨rfl,at2 (fun e=>some (a8.map .str .aL e)) pn.symm,at2 (fun e=>some (a8.az (.bt e))) tc,at2 (fun e=>some (a8.az (.bt e))) xj.symm,rfl,trivial⟩ rfl
def oG (x:bh):bh:={x with us:=true,es:=EA x.s x.g x.es}
def ak2 {l:aI1} (h:eA l) {e:bh} (U:e∈l):Fn prog 201 [dd e.ad] (eT l) [] g' (eT (nP l e.ad oG)):=by obtain⟨pW,hd,he⟩:=lp NW;obtain⟨Vs,BP,BQ⟩:=lp NX;obtain⟨cl,cY,ek,eL⟩:=h.ok e U;have cw:=h.D U;have ak:=h.M U;have pn:=Vp (l:=l) (a:=e.ad) (u:=oG) (fun _=>rfl) (fun _=>rfl);have tc:=Vq h U (u:=oG) rfl;have xj:=Vr h U (u:=oG) rfl;have aw:=NV (Nw e.s e.g e.es) ak rfl rfl rfl rfl;rw[AU ak] at aw;have J:=NV (akG e.s e.g e.es cl cY) ak rfl rfl rfl rfl;refine aP [] func201 ?_;refine bm (kx (b:=e.ad) rfl rfl) ?_;refine bm (fun N=>kY rfl underlying212 rfl rfl BP (by rw[BQ];decide) rfl N) ?_;refine bm (my (q:=1003) rfl underlying85 rfl rfl rfl cw rfl) ?_;refine bm (kx (b:=e.ad) rfl rfl) ?_;refine bm (fun N=>kY rfl underlying212 rfl rfl BP (by rw[BQ];decide) rfl N) ?_;refine bm (my (q:=1003) rfl underlying85 rfl rfl rfl cw rfl) ?_;refine av aw <| av J ⟨eG aE0,bm (kx (b:=e.ad) rfl rfl) ?_⟩;refine bm (fun N=>kY rfl underlying212 rfl rfl hd aF4 rfl N) ?_;refine bm (fun N=>GN (q:=1003) (b:=e.ad) (j:=2) (y:=.lit true) (l:=Ia e.nm e.on e.us e.eP) (h':=fun _=>rfl) rfl hd he rfl rfl rfl cw (show 2 < 4 by decide) ak0 N) ?_;exact s4 bn rfl trivial ⟨rfl,at2 (fun e=>some (a8.map .str .aL e)) pn.symm,at2 (fun e=>some (a8.az (.bt e))) tc,at2 (fun e=>some (a8.az (.bt e))) xj,trivial⟩ rfl
end
section
section
variable {P:aI0} {ids:aH4} {K:aW} {B:ay}
def ak3 {o:Oper} {T:aI3} {x:aI2} {q b:Nat} {L:List (Nat×bc)} {l:List bA} {h: ∀c,(a8.cells l).has c=false} {d:aJ4} {i:aJ3} (ai:o.op= .load T x) (bR:P.underlying T=some d) (fH:d.isRow=true) (hi:P.info? T=some i) (aM:i.size=l.length) (hx:a1 K x= .c (.one (.d (.aL (some b)))))
  (a2:ae B q=some (.az (.bt L))) (cG:eZ L b=some (bc.ch (.cells l) h)) (N:Nat):bx P N ids o K B (.c (.agg l)) ⟨[q],[],[]⟩:=by
 have aC:x∈o.op.operands:=aE4
 refine bx.val fun K' B' g1 g2 C ρ F a w ak au=>?_
 have bl:fJ (bZ C B' F w) w L (F q):=ak.holds q _ ((g2 q aD9).trans a2);have aB:a.eval x= .pointer (some ⟨b,0,none⟩):=au.ev ((g1 x aC).trans hx);obtain⟨cI,cS,p,cl,cY,ek,eL,vv⟩:=bl.out cG;obtain⟨E,aE,ew,G,ah⟩:=eL;rw[ek] at G
 refine⟨.agg (List.toArray aE),FR (cs:=aE) ai aB bR fH hi (by rw[cf.length _ _ ah];exact aM) (fun j v V=>by rw[ax6];exact o1 G V),aE,rfl,cf.mono (cm.refl _ _) _ _ (fun c J=>by
  have ar:mR c l=false:=h c;rw[ar] at J
  cases J) ah⟩
end
abbrev iA (c d:Nat) (s g:Int) (es:aH5):ay:=[(c,.cells [.d (.int .i64 s),.d (.int .i64 g),.mp d]),(d,.map aq aq es)]
def ak4 (s g:Int) (es:aH5):Fn prog 133 [ap 3001] (iA 3001 3002 s g es) [1001] (ap 1001) (iA 3001 3002 s g es++[(1001,.az (fi s g es))]):=by refine aP [] func133 ?_;exact av (Fn.aT [(1001,3002),(2001,1002)] (Vk es)) ⟨rfl,eG aE0,_,_,_,ac.trans (ac.aT 17 1001 rfl) (ac.close 1001 (jg s g es) aA rfl fun _ _ _ _ h=>h),rfl,rfl,aA,rfl⟩
def ak5 {s g:Int} {es:aH5} {M:List (Nat×bc)} {b:Nat} (ak:eZ M b=some (fi s g es)):Fn prog 133 [dd b] [(1004,.az (.bt M))] [5001,5002] (ap 5001) [(1004,.az (.bt M)),(5001,.cells [.d (.int .i64 s),.d (.int .i64 g),.mp 5002]),(5002,.map aq aq es)]:=by have ar:=Fn.aT [(2001,5001),(2002,5002)] (akK s g es);have J:Fn prog 133 [ap 1001] [(1001,.az (fi s g es))] [5001,5002] (ap 5001) ((1001,.az (fi s g es))::iA 5001 5002 s g es):=Fn.close (bq:=jg s g es) (dI:=jg s g es) (aK:=[]) (aO:=iA 5001 5002 s g es) [1002] ar (fun _ _ _ _ h=>h) (fun _ _ _ _ h=>h) rfl rfl;have:=(cD.bt (c:=1001) (q:=1004) (b:=b) (args:=[]) (aK:=[]) (ba:=[5001,5002]) (X:=Unit) (res:=fun _=>ap 5001) (aO:=fun _=>iA 5001 5002 s g es) (o:=fi s g es) (o':=fun _=>fi s g es) (L:=M) J.x ak rfl ⟨rfl,rfl⟩ rfl (fun _=>rfl)).fn;rw[AU ak] at this;exact this
end
section
abbrev BR (b:Nat):aa .aL:=(some b:aI4)
section
variable {P:aI0} {ids:aH4} {K:aW} {B:ay}
end
end
section
def zA (oH:Nat->bc) (mY:bc):bc where
 bo:=fun I F w p=> ∃(cI cS:Nat->Prop) (q:bp),(∀x,F x↔cI x\/cS x)/\(∀x,cI x-> ¬cS x)/\(oH q.bf).bo I cI w p/\mY.bo I cS w q
 cj:=fun I F w I' w' p ⟨cI,cS,q,E,G,ah,aS⟩ U bg aM=>⟨cI,cS,q,E,G,(oH q.bf).cj _ _ _ _ _ _ ah U (fun b O=>bg b ((E b).2 (.inl O))) aM,mY.cj _ _ _ _ _ _ aS U (fun b O=>bg b ((E b).2 (.inr O))) aM⟩
def Vt (aF:bz) (es:List (aa aF×aa .aL)) (key:aa aF) (o:bc) (I F:Nat->Prop) (w:aH9) (p:bp):Prop:=
 ∃(cg:Nat->Prop) (q:bp),(∀x,F x↔x=p.bf\/cg x)/\ ¬cg p.bf/\(∃bT bY,w.heap[p.bf]? =some (.map (List.toArray bT) bY)/\io I w aF .aL (dp (aF:=aF) (aJ:=.aL) es key (BR q.bf)) bT/\mm bT bY)/\o.bo I cg w q
def Ic (aF:bz) (es:List (aa aF×aa .aL)) (key:aa aF) (o:bc):bc where
 bo:=Vt aF es key o
 cj:=fun I F w I' w' p ⟨cg,q,E,G,⟨bT,bY,aS,bB,ej⟩,hE⟩ U bg aM=>⟨cg,q,E,G,⟨bT,bY,(bg _ ((E _).2 (.inl rfl))).trans aS,bB.mono U,ej⟩,o.cj _ _ _ _ _ _ hE U (fun b O=>bg b ((E b).2 (.inr O))) aM⟩
section
variable {P:aI0} {ids:aH4} {K:aW} {B:ay}
def ac.ak6 (c:Nat) {ch:a8} (h: ∀c,ch.has c=false) (J:ae B c=some ch):ac ids K B K ((c,.az (bc.ch ch h))::B):=by
 rintro N C a w ⟨hn,H,ρ,F,ak,au⟩;obtain⟨bH,aY⟩:=ak.hT (w':=w) (ch:=.az (bc.ch ch h)) J (cU.refl _ _) fun I a7=>bc.Sh h (Holds.cj (ρ':=ρ) a7 (fun _ _=>rfl) (at0 _) ch (fun _ _=>rfl) (ak.holds c _ J))
 exact⟨hn,H,ρ,F,bH,au.mono aY fun _ _ _=>rfl⟩
def ak7 {o:Oper} {T kt et:aI3} {x i v:aI2} {c d e:Nat} (ai:o.op= .mapUpdate T x i v) (bR:P.underlying T=some (.map kt et)) {dk:aJ4} (jQ:P.underlying kt=some dk) {aF:bz} (H:nv aF dk=true)
  (hx:a1 K x= .c (.one (.mp c))) {key:aa aF} (Z:yk aF (a1 K i)=some key) (aB:a1 K v= .c (.one (.ptr d 0))) {es:List (aa aF×aa .aL)} {bd: ∀c,(a8.map aF .aL es).has c=false} {l:List bA} {oH:Nat->bc} {mY:bc}
  (J:ae B c=some (.az (bc.ch (.map aF .aL es) bd))) (lf:ae B d=some (.cells l)) (gG:ae B e=some (.az mY)) (a6:c≠d) (Vu:c≠e) (ak8:d≠e)
  (EC: ∀(ρ:Nat->bp) (I F:Nat->Prop) (w:aH9) (p:bp),Holds ρ I F w p (.cells l)->(oH (ρ e).bf).bo I F w p) (N:Nat):bx P N ids o K B .undef ⟨[c,d,e],[],[(d,none),(e,none),(c,some (.az (Ic aF es key (zA oH mY))))]⟩:=by
 have m1:x∈o.op.operands:=aE4
 have m2:i∈o.op.operands:=aE4
 have m3:v∈o.op.operands:=aE4
 rintro K' B' g1 g2 - C a w ⟨hn,mx,ρ,F,ak,au⟩ bv fN Q cR;have c3:=(g2 c aD9).trans J;have c4:=(g2 d aD9).trans lf;have hH:=(g2 e aD9).trans gG;obtain⟨mZ,bT,bY,aS,bB,ej⟩:Holds (fun _=>ρ c) (bZ C B' F w) (F c) w (ρ c) (.map aF .aL es):=ak.holds c _ c3;have ak9:=ak.holds d _ c4;have ak':mY.bo (bZ C B' F w) (F e) w (ρ e):=ak.holds e _ hH;have ala: ∀y,F d y-> ¬F e y:=fun y aD d'=>ak.fd d e _ _ y c4 hH ak8 aD d'
 have ax:(zA oH mY).bo (bZ C B' F w) (fun y=>F d y\/F e y) w (ρ d):=⟨F d,F e,ρ e,fun x=>Iff.rfl,ala,EC ρ _ _ _ _ ak9,ak'⟩;have af:=au.mp ((g1 x m1).trans hx);have ao:a.eval i=gM aF key:=CW Z (au.ev (g1 i m2));have br:a.eval v= .pointer (some ⟨(ρ d).bf,0,none⟩):=au.ev ((g1 v m3).trans aB)
 have c0:jn (bZ C B' F w) w .aL (BR (ρ d).bf) (a.eval v):=by
  rw[br];exact⟨rfl,⟨fun _=>rfl,fun h=>by cases h⟩,rfl⟩
 obtain⟨eC,iM,aj,fV,o5⟩:=z8 (P:=P) bR jQ H aS bB ej key c0;have eE: ∀y,(F d y\/F e y)-> ¬F c y:=fun y aD d'=>aD.elim (fun aD=>ak.fd d c _ _ y c4 c3 (az2 a6) aD d') (fun aD=>ak.fd e c _ _ y hH c3 (az2 Vu) aD d')
 have rK:=(aA8.1 aS).1;have vB: ∀y,y≠(ρ c).bf->({w with heap:=w.heap.setIfInBounds (ρ c).bf (.map (List.toArray eC) iM)}:World).heap[y]? =w.heap[y]? :=fun y aD=>az7 (az2 aD)
 unfold Oper.wp;have hx:(execOp a.eval o).run P w= .ok .skip {w with heap:=w.heap.setIfInBounds (ρ c).bf (.map (List.toArray eC) iM)}:=by simp only[execOp,ai,aw3,af,ao,aj,au6,ax1]
 rw[hx,Oper.upon_skip]
 obtain⟨bH,aY⟩:=ak.step (B':=(c,.az (Ic aF es key (zA oH mY)))::gT (gT B' d) e) (ρ':=ρ) (F':=dv F c (fun y=>F c y\/(F d y\/F e y))) (w':={w with heap:=w.heap.setIfInBounds (ρ c).bf (.map (List.toArray eC) iM)}) (fun j=>j=d\/j=e\/j=c) (fun _=>False)
  ((t6 (S:=F c) ((mZ _).2 rfl)).mono fun y _ aD=>⟨c,_,c3,.inr (.inr rfl),aD⟩)
  (fun j ch V aC=>by
   rw[co,mu (fun e=>aC (.inr (.inr e.symm))),hD,mu (fun e=>aC (.inr (.inl e.symm))),hD,mu (fun e=>aC (.inl e.symm))] at V;exact V)
  (fun _ _=>rfl) (fun j aC=>dD _ _ (fun e=>aC (.inr (.inr e)))) (fun _ _ h=>h) (fun _ h=>h.elim) (fun _ _ _ _ _ _ h=>h)
  (fun j ch V aC aY=>by
   rw[co] at V
   split at V
   .rename_i e;subst e;injection V with V
    subst V;rw[dB];have yr: ∀y,(F d y\/F e y)->y≠(ρ c).bf:=fun y aD e=>eE y aD (e▸(mZ _).2 rfl)
    refine⟨fun y=>F d y\/F e y,ρ d,fun y=>?_,fun h=>yr _ h rfl,⟨eC,iM,by simp[rK],fV.mono aY,o5⟩,(zA oH mY).cj _ _ _ _ _ _ ax aY (fun y aD=>vB y (yr y aD)) aD9⟩;show(F c y\/(F d y\/F e y))↔(y=(ρ c).bf\/(F d y\/F e y));rw[mZ]
   .rename_i bC;rcases aC with rfl |rfl |rfl
    .rw[hD] at V
     split at V
     .cases V
     .rw[hD,vj rfl] at V;cases V
    .rw[hD,vj rfl] at V;cases V
    .exact at1 rfl bC)
  (fun j ch V aC y aD=>by
   rw[co] at V
   split at V
   .rename_i bC;subst bC;rw[dB] at aD;rcases aD with aD |aD |aD
    .exact⟨by simpa using(ak.own c _ c3 y aD).1,.inl ⟨c,_,c3,.inr (.inr rfl),aD⟩⟩
    .exact⟨by simpa using(ak.own d _ c4 y aD).1,.inl ⟨d,_,c4,.inl rfl,aD⟩⟩
    .exact⟨by simpa using(ak.own e _ hH y aD).1,.inl ⟨e,_,hH,.inr (.inl rfl),aD⟩⟩
   .rename_i bC;rcases aC with rfl |rfl |rfl
    .rw[hD] at V
     split at V
     .cases V
     .rw[hD,vj rfl] at V;cases V
    .rw[hD,vj rfl] at V;cases V
    .exact at1 rfl bC)
  (fun j rI ch ch' y V kR aC fV alb=>by
   have key: ∀j ch,ae ((c,a8.az (Ic aF es key (zA oH mY)))::gT (gT B' d) e) j=some ch->(j=d\/j=e\/j=c)->j=c:=fun j ch V aC=>by
    rcases aC with rfl |rfl |rfl
    .rw[co,mu a6,hD] at V
     split at V
     .cases V
     .rw[hD,vj rfl] at V;cases V
    .rw[co,mu Vu,hD,vj rfl] at V;cases V
    .rfl
   exact at1 ((key j ch V aC).trans (key rI ch' kR fV).symm) alb)
 exact cR _ _ ⟨kN.trans hn,kO.trans mx,ρ,_,bH,(au.mono aY fun _ _ _=>rfl).kP (fun e U=>by rw[hn];exact bv e U) rfl⟩
def dF.alc (c d:Nat) {aF:bz} {es:List (aa aF×aa .aL)} {key:aa aF} {o:bc} (J:ae B c=some (.az (Ic aF es key o))) (H:g7 ids K B d=true):dF ids K B (X:=Nat) (fun _=>K) (fun ad=>(d,.az (o.at ad))::(c,.map aF .aL (dp (aF:=aF) (aJ:=.aL) es key (BR ad)))::B):=by
 rintro N C a w ⟨hn,mx,ρ,F,ak,au⟩;obtain⟨cg,q,E,G,⟨bT,bY,aS,bB,ej⟩,hE⟩:Vt aF es key o (bZ C B F w) (F c) w (ρ c):=ak.holds c _ J;obtain⟨fU,gV,f3,f4⟩:=ld H
 obtain⟨bH,aY⟩:=ak.split (K:=K) (i':=.map aF .aL (dp (aF:=aF) (aJ:=.aL) es key (BR q.bf))) (o0:=.az (o.at q.bf)) J H q (fun x=>x=(ρ c).bf) cg (fun b O=>(E b).2 (.inl O)) (fun b O=>(E b).2 (.inr O)) (fun b O l1=>G (O▸l1))
  (fun I a7=>⟨fun b=>Iff.rfl,bT,bY,aS,bB.mono a7,ej⟩) (fun I a7=>by
   refine⟨rfl,?_⟩;exact o.cj _ _ _ _ _ _ hE a7 (fun _ _=>rfl) (at0 _))
 exact⟨q.bf,hn,mx,_,_,bH,au.mono aY fun s j V=>dD _ _ (fun cc=>by subst cc;rw[fU s] at V;cases V)⟩
def dF.ald (d e:Nat) {oH:Nat->bc} {mY:bc} {ad:Nat} (J:ae B d=some (.az ((zA oH mY).at ad))) (U:g7 ids K B e=true):dF ids K B (X:=Nat) (fun _=>K) (fun eP=>(e,.az (mY.at eP))::(d,.az ((oH eP).at ad))::B):=by
 rintro N C a w ⟨hn,mx,ρ,F,ak,au⟩;obtain⟨O,cI,cS,q,E,G,ah,aS⟩:((zA oH mY).at ad).bo (bZ C B F w) (F d) w (ρ d):=ak.holds d _ J;obtain⟨fU,gV,f3,f4⟩:=ld U
 obtain⟨bH,aY⟩:=ak.split (K:=K) (i':=.az ((oH q.bf).at ad)) (o0:=.az (mY.at q.bf)) J U q cI cS (fun b O=>(E b).2 (.inl O)) (fun b O=>(E b).2 (.inr O)) G
  (fun I a7=>⟨O,(oH q.bf).cj _ _ _ _ _ _ ah a7 (fun _ _=>rfl) (at0 _)⟩) (fun I a7=>⟨rfl,mY.cj _ _ _ _ _ _ aS a7 (fun _ _=>rfl) (at0 _)⟩)
 exact⟨q.bf,hn,mx,_,_,bH,au.mono aY fun s j V=>dD _ _ (fun cc=>by subst cc;rw[fU s] at V;cases V)⟩
end
def Vv {nm:aH3} {on us:Bool} {eP:Nat}:(zy nm on us eP).pc:=fun I F w p h=>(h.1 _).2 rfl
def Vw {s g:Int} {es:aH5}:(fi s g es).pc:=by rintro I F w p ⟨ρ,cg,E,G,ah,aS⟩;obtain⟨bg,_⟩:=G 1001 _ rfl;exact(aS _).2 ⟨1001,_,rfl,(bg _).2 (by rw[E])⟩
def ale (l:aI1): ∀p∈mK l,p.2.pc:=fun p ag=>by
 obtain⟨d,_,rfl⟩:=av7.1 ag;exact Vv
def alf (l:aI1): ∀p∈kC l,p.2.pc:=fun p ag=>by
 obtain⟨d,_,rfl⟩:=av7.1 ag;exact Vw
def Vx (nm:aH3) (x:aa .aL): ∀L:List bh,dE L nm=none->dp (aF:=.str) (aJ:=.aL) (eb L) (nm:aa .str) x=(eb L++[Bt nm x]:List (aa .str×aa .aL))
 | [],_=>rfl
 |d::L,h=>by
  rw[v8] at h
  by_cases e:d.nm=nm
  .rw[vj e] at h;cases h
  .rw[mu e] at h;have bk:=Vx nm x L h;show dp (aF:=.str) (aJ:=.aL) (jX d::eb L) (nm:aa .str) x=_;rw[show dp (aF:=.str) (aJ:=.aL) (jX d::eb L) (nm:aa .str) x=(match fT .str (nm:aa .str) (jX d).1 with |true=>Bt nm x::eb L |false=>jX d::dp (aF:=.str) (aJ:=.aL) (eb L) (nm:aa .str) x:List (aa .str×aa .aL)) from rfl];rw[show fT .str (nm:aa .str) (jX d).1=false from rM (aF:=.str) qD (fun h=>e h.symm)];simp only;rw[bk];rfl
def NY {l:aI1} {nm:aH3} (h:dE l nm=none):nm∉l.map (·.nm):=fun hx=>by
 obtain⟨d,H,e⟩:=av7.1 hx;have:=List.find?_eq_none.1 h d H;exact this (by simpa using e)
def eA.add {l:aI1} (h:eA l) {e:bh} (ar:dE l e.nm=none) (ha:e.ad∉l.map (·.ad)) (O:e.eP∉l.map (·.eP)) (bu:(0<=e.s/\e.s<=4096)/\(1<=e.g/\e.g<=64)/\ff e.es/\e.nm.length<=64) (al:l.length < 8):eA (l++[e]):=by
 have key: ∀{α:Type} (f:bh->α) (d:bh),(l.map f).Nodup->f d∉l.map f->((l++[d]).map f).Nodup:=fun f d E G=>by
  rw[ay6];refine List.nodup_append.2 ⟨E,aD9,fun a ha b O e=>?_⟩;rw[au9,aC9,au5] at O;exact G (by rw[<-O,<-e];exact ha)
 refine⟨key _ _ h.kb (NY ar),key _ _ h.nH ha,key _ _ h.xB O,fun x hx=>?_,by rw[as9];show l.length+1<=8;omega⟩;rcases av9.1 hx with hx |hx
 .exact h.ok x hx
 .rw[au5.1 hx];exact bu
def Vy {f:bh->Nat×bc} (L:aI1) (d:bh):(f d::L.map f).Perm ((L++[d]).map f):=by rw[ay6];exact(List.perm_append_comm (l₁:=[f d]) (l₂:=L.map f))
abbrev BS (l:aI1) (s g:Int) (es:aH5):ay:=eT l++iA 2001 2002 s g es
def ED {l:aI1} {nm:aH3} (ar:dE l nm=none):(bX (aF:=.str) (aJ:=.aL) (eb l) nm).getD (cO .aL)=none:=by rw[Ib,ar];rfl
def Id {l:aI1} {nm:aH3} {e:bh} (ar:dE l nm=some e):(bX (aF:=.str) (aJ:=.aL) (eb l) nm).getD (cO .aL)=some e.ad:=by rw[Ib,ar];rfl
def alg {l:aI1} (h:eA l) (nm:aH3) (hn:nm.length<=4294967296) (aj:gZ nm=true) (ar:dE l nm=none) (h6:l.length < 8) (s g:Int) (es:aH5) (bu:(0<=s/\s<=4096)/\(1<=g/\g<=64)/\ff es):
  cD prog 75 [ap 1001,bN nm,ap 2001] (BS l s g es) [] (X:={p:Nat×Nat//eA (l++[⟨nm,p.1,p.2,true,true,s,g,es⟩])}) (fun _=>ab 0) (fun p=>BS (l++[⟨nm,p.1.1,p.1.2,true,true,s,g,es⟩]) s g es):=by
 have hx:=ED ar;have bW:(eb l).length=l.length:=au3 ..;refine ia [5,6] func75 ?_;refine av (qO _ hn) ⟨fun af=>?_,fun af=>?_⟩
 .rw[aj] at af;cases af
 refine⟨fun d5 br=>?_,fun br=>?_⟩
 .exfalso;have:(bX (aF:=.str) (aJ:=.aL) (eb l) nm).getD (cO .aL)=some d5:=br;rw[hx] at this
  cases this
 refine⟨fun c0=>?_,fun c0=>?_⟩
 .exfalso;have c0:(8:Int)<=((eb l).length:Int):=gd c0;omega
 refine bG.le (ac.ak6 1002 (fun _=>rfl) rfl) <| bw [6] (bn) <| av (Fn.aT [(1001,38),(3001,2001),(3002,2002)] (ak4 s g es)) ⟨rfl,bm (fun N=>ak7 (c:=1002) (d:=40) (e:=38) (aF:=.str) (key:=nm) (oH:=fun eP=>zy nm true true eP) rfl underlying196 (dk:=.string) aE0 rfl rfl rfl rfl rfl rfl rfl aD8 aD8 aD8 (fun ρ I F w p bd=>?EC) N) ?_⟩
 case EC=>
  obtain⟨cr,aE,T,cv,nw,r1,af,kr,v2,r2,ao,bD,v3,fQ,br,sI,v4,j9,c0,o2,ft⟩:=bd;exact⟨cr,aE,T,cv,nw,r1,af,kr,v2,r2,ao,bD,v3,fQ,br,sI,v4,j9,c0,o2,ft⟩
 refine⟨eG aE0,bG.fW (dF.alc 1002 5001 rfl rfl) fun ad=>bG.fW (dF.ald 5001 5002 rfl rfl) fun eP=>bG.le (K':=[]) (B':=[(1001,.cells [.mp 1002]),(1002,.map .str .aL (dp (aF:=.str) (aJ:=.aL) (eb l) nm (BR ad))),(1003,.az (.bt ((ad,zy nm true true eP)::mK l))),(1004,.az (.bt ((eP,fi s g es)::kC l))),(2001,.cells [.d (.int .i64 s),.d (.int .i64 g),.mp 2002]),(2002,.map aq aq es)]) (ac.trans (ac.put 1003 5001 aD8 rfl rfl) (ac.trans (ac.put 1004 5002 aD8 rfl rfl) (ac.sub trivial aA))) ?_⟩;refine bG.fW (dF.Dw 1003 (L:=(ad,zy nm true true eP)::mK l) (fun p ag=>(at7.1 ag).elim (fun e=>by rw[e];exact Vv) (ale l p)) rfl) fun alh=>?_
 refine bG.fW (dF.Dw 1004 (L:=(eP,fi s g es)::kC l) (fun p ag=>(at7.1 ag).elim (fun e=>by rw[e];exact Vw) (alf l p)) rfl) fun ali=>bw [] (bn) ?_
 have MA:ad∉l.map (·.ad):=fun aC=>(aw6.1 alh.down).1 (by show ad∈(mK l).map (·.1);unfold mK;rw[ax7];exact aC)
 have alj:eP∉l.map (·.eP):=fun aC=>(aw6.1 ali.down).1 (by show eP∈(kC l).map (·.1);unfold kC;rw[ax7];exact aC)
 have w9:nm.length<=64:=by have:=(D9 aj).2;omega
 have pn:dp (aF:=.str) (aJ:=.aL) (eb l) (nm:aa .str) (BR ad)=eb (l++[⟨nm,ad,eP,true,true,s,g,es⟩]):=(Vx nm _ l ar).trans (by unfold eb;rw[ay6];rfl);exact⟨⟨(ad,eP),h.add (e:=⟨nm,ad,eP,true,true,s,g,es⟩) ar MA alj ⟨bu.1,bu.2.1,bu.2.2,w9⟩ h6⟩,_,_,_,ac.trans (ac.Bs 1003 (Vy (f:=xz) l ⟨nm,ad,eP,true,true,s,g,es⟩) rfl) (ac.Bs 1004 (Vy (f:=xA) l ⟨nm,ad,eP,true,true,s,g,es⟩) rfl),rfl,rfl,⟨rfl,at2 (fun e=>some (a8.map .str .aL e)) pn,rfl,rfl,rfl,rfl,trivial⟩,rfl⟩
def alk {l:aI1} (nm:aH3) (hn:nm.length<=4294967296) (aj:gZ nm=false) (s g:Int) (es:aH5):
  Fn prog 75 [ap 1001,bN nm,ap 2001] (BS l s g es) [] (ab 1) (BS l s g es):=by
 refine aP [] func75 ?_;refine av (qO _ hn) ⟨fun af=>?_,fun af=>?_⟩
 .exact bb
 .rw[aj] at af;cases af
def alm {l:aI1} (nm:aH3) (hn:nm.length<=4294967296) (aj:gZ nm=true) (ar:(dE l nm).isSome=true\/8<=l.length) (s g:Int) (es:aH5):
  Fn prog 75 [ap 1001,bN nm,ap 2001] (BS l s g es) [] (ab 111) (BS l s g es):=by
 have bW:(eb l).length=l.length:=au3 ..;refine aP [5] func75 ?_;refine av (qO _ hn) ⟨fun af=>?_,fun af=>?_⟩
 .rw[aj] at af;cases af
 refine⟨fun d5 br=>?_,fun br=>?_⟩
 .exact bb
 refine⟨fun c0=>?_,fun c0=>?_⟩
 .exact bb
 .exfalso;have br:(bX (aF:=.str) (aJ:=.aL) (eb l) nm).getD (cO .aL)=none:=br;have c0: ¬(8:Int)<=((eb l).length:Int):=oj c0;rcases ar with ar |ar
  .rw[Ib] at br
   cases E:dE l nm with
   |none=>rw[E] at ar;cases ar
   |some e=>rw[E] at br;cases br
  .omega
end
section
def aln {l l':aI1} {nm:aH3} {e:bh} (U:dE l nm=some e) (J:Fn prog 204 [dd e.ad,ap 3001,ap 3002] (eT l++[(3001,.cells [.ptr 1001 0]),(3002,.cells [.d (.str nm)])]) [] g' (eT l'++[(3001,.cells [.ptr 1001 0]),(3002,.cells [.d (.str nm)])])):
  Fn prog 196 [ap 1001,bN nm,.c (.one (.c2 204 [.p 3001 0,.p 3002 0]))] (eT l++[(3001,.cells [.ptr 1001 0]),(3002,.cells [.d (.str nm)])]) [] (ab 0) (eT l'++[(3001,.cells [.ptr 1001 0]),(3002,.cells [.d (.str nm)])]):=by
 have h':=Id U;refine aP [] func196 ?_;exact⟨fun d5 O=>av (Fn.arg (args:=[Bo ((bX (aF:=.str) (aJ:=.aL) (eb l) nm).getD (cO .aL)),ap 3001,ap 3002]) J ⟨h',rfl,rfl,trivial⟩) bb,fun O=>at1 (show(bX (aF:=.str) (aJ:=.aL) (eb l) nm).getD (cO .aL)=none from O) aF3⟩
def alo {l:aI1} {nm:aH3} (U:dE l nm=none):
  Fn prog 196 [ap 1001,bN nm,.c (.one (.c2 204 [.p 3001 0,.p 3002 0]))] (eT l++[(3001,.cells [.ptr 1001 0]),(3002,.cells [.d (.str nm)])]) [] (ab 112) (eT l++[(3001,.cells [.ptr 1001 0]),(3002,.cells [.d (.str nm)])]):=by
 have h':=ED U;refine aP [] func196 ?_;exact⟨fun d5 O=>at1 (show(bX (aF:=.str) (aJ:=.aL) (eb l) nm).getD (cO .aL)=some d5 from O) aF3,fun _=>bb⟩
def alp {l l':aI1} {nm:aH3} (on:Bool) {e:bh} (U:dE l nm=some e) (J:Fn prog 205 [dd e.ad,ap 3001] (eT l++[(3001,.cells [.d (.bool on)])]) [] g' (eT l'++[(3001,.cells [.d (.bool on)])])):
  Fn prog 196 [ap 1001,bN nm,.c (.one (.c2 205 [.p 3001 0]))] (eT l++[(3001,.cells [.d (.bool on)])]) [] (ab 0) (eT l'++[(3001,.cells [.d (.bool on)])]):=by
 have h':=Id U;refine aP [] func196 ?_;exact⟨fun d5 O=>av (Fn.arg (args:=[Bo ((bX (aF:=.str) (aJ:=.aL) (eb l) nm).getD (cO .aL)),ap 3001]) J ⟨h',rfl,trivial⟩) bb,fun O=>at1 (show(bX (aF:=.str) (aJ:=.aL) (eb l) nm).getD (cO .aL)=none from O) aF3⟩
def alq {l:aI1} {nm:aH3} (on:Bool) (U:dE l nm=none):
  Fn prog 196 [ap 1001,bN nm,.c (.one (.c2 205 [.p 3001 0]))] (eT l++[(3001,.cells [.d (.bool on)])]) [] (ab 112) (eT l++[(3001,.cells [.d (.bool on)])]):=by
 have h':=ED U;refine aP [] func196 ?_;exact⟨fun d5 O=>at1 (show(bX (aF:=.str) (aJ:=.aL) (eb l) nm).getD (cO .aL)=some d5 from O) aF3,fun _=>bb⟩
def alr {l l':aI1} {nm:aH3} {e:bh} (U:dE l nm=some e) (J:Fn prog 201 [dd e.ad] (eT l) [] g' (eT l')):
  Fn prog 196 [ap 1001,bN nm,.c (.one (.c2 201 []))] (eT l) [] (ab 0) (eT l'):=by
 have h':=Id U;refine aP [] func196 ?_;exact⟨fun d5 O=>av (Fn.arg (args:=[Bo ((bX (aF:=.str) (aJ:=.aL) (eb l) nm).getD (cO .aL))]) J ⟨h',trivial⟩) bb,fun O=>at1 (show(bX (aF:=.str) (aJ:=.aL) (eb l) nm).getD (cO .aL)=none from O) aF3⟩
def als {l:aI1} {nm:aH3} (U:dE l nm=none):
  Fn prog 196 [ap 1001,bN nm,.c (.one (.c2 201 []))] (eT l) [] (ab 112) (eT l):=by
 have h':=ED U;refine aP [] func196 ?_;exact⟨fun d5 O=>at1 (show(bX (aF:=.str) (aJ:=.aL) (eb l) nm).getD (cO .aL)=some d5 from O) aF3,fun _=>bb⟩
def alt {l l':aI1} {nm:aH3} (on us:Bool) (s g:Int) (es:aH5) {e:bh} (U:dE l nm=some e) (J:Fn prog 197 [dd e.ad,ap 3001] (eT l++[(3001,.cells [.d (.str []),.d (.lit false),.d (.lit false),.bK (.pointer none)])]) [5001,5002] g' (eT l'++[(3001,.cells [.d (.str nm),.d (.bool on),.d (.bool us),.ptr 5001 0]),(5001,.cells [.d (.int .i64 s),.d (.int .i64 g),.mp 5002]),(5002,.map aq aq es)])):
  Fn prog 196 [ap 1001,bN nm,.c (.one (.c2 197 [.p 3001 0]))] (eT l++[(3001,.cells [.d (.str []),.d (.lit false),.d (.lit false),.bK (.pointer none)])]) [5001,5002] (ab 0) (eT l'++[(3001,.cells [.d (.str nm),.d (.bool on),.d (.bool us),.ptr 5001 0]),(5001,.cells [.d (.int .i64 s),.d (.int .i64 g),.mp 5002]),(5002,.map aq aq es)]):=by
 have h':=Id U;refine aP [] func196 ?_;exact⟨fun d5 O=>av (Fn.arg (args:=[Bo ((bX (aF:=.str) (aJ:=.aL) (eb l) nm).getD (cO .aL)),ap 3001]) J ⟨h',rfl,trivial⟩) bb,fun O=>at1 (show(bX (aF:=.str) (aJ:=.aL) (eb l) nm).getD (cO .aL)=none from O) aF3⟩
def alu {l:aI1} {nm:aH3} (U:dE l nm=none):
  Fn prog 196 [ap 1001,bN nm,.c (.one (.c2 197 [.p 3001 0]))] (eT l++[(3001,.cells [.d (.str []),.d (.lit false),.d (.lit false),.bK (.pointer none)])]) [] (ab 112) (eT l++[(3001,.cells [.d (.str []),.d (.lit false),.d (.lit false),.bK (.pointer none)])]):=by
 have h':=ED U;refine aP [] func196 ?_;exact⟨fun d5 O=>at1 (show(bX (aF:=.str) (aJ:=.aL) (eb l) nm).getD (cO .aL)=some d5 from O) aF3,fun _=>bb⟩
def mG (l:aI1) (nm:aH3) (u:bh->bh):List bh:=l.map fun x=>if x.nm=nm then u x else x
def NZ {l:aI1} (h:eA l) {nm:aH3} {e:bh} (U:dE l nm=some e) (u:bh->bh):nP l e.ad u=mG l nm u:=by
 obtain⟨E,G⟩:=lR U;unfold nP mG;refine aw2 fun x hx=>?_
 by_cases J:x.ad=e.ad
 .have:=zz h.nH hx E J;subst this;rw[vj J,vj G]
 .rw[mu J,mu fun ao=>J (by rw[zz h.kb hx E (ao.trans G.symm)])]
def Ie {l:aI1} {nm:aH3} (U:dE l nm=none) (u:bh->bh):mG l nm u=l:=by unfold mG;refine(aw2 fun x hx=>?_).trans (List.map_id' l);rw[mu fun e=>NY U (by rw[<-e];exact aw1 hx)]
def eA.nil:eA []:=⟨List.Pairwise.nil,List.Pairwise.nil,List.Pairwise.nil,(fun e U=>by cases U),at6 _⟩
def eA.Vz {l:aI1} (h:eA l) (u:bh->bh) (nm:aH3) (E: ∀e,(u e).nm=e.nm/\(u e).ad=e.ad/\(u e).eP=e.eP) (G: ∀e,(0<=e.s/\e.s<=4096)/\(1<=e.g/\e.g<=64)/\ff e.es->(0<=(u e).s/\(u e).s<=4096)/\(1<=(u e).g/\(u e).g<=64)/\ff (u e).es):eA (mG l nm u):=by
 cases U:dE l nm with
 |none=>rw[Ie U];exact h
 |some e=>
  rw[<-NZ h U];exact h.dv E fun x hx _=>G x ⟨(h.ok x hx).1,(h.ok x hx).2.1,(h.ok x hx).2.2.1⟩
def zB (l:aI1) (nm:aH3):Int:=if(dE l nm).isSome=true then 0 else 112
def If {l:aI1} {nm:aH3} {e:bh} (U:dE l nm=some e):zB l nm=0:=by unfold zB;rw[U];rfl
def Ig {l:aI1} {nm:aH3} (U:dE l nm=none):zB l nm=112:=by unfold zB;rw[U];rfl
def alv {l:aI1} (h:eA l) (nm:aH3) (on:Bool):Fn prog 147 [ap 1001,bN nm,gb on] (eT l) [] (ab (zB l nm)) (eT (mG l nm fun x=>{x with on:=on})):=by
 cases U:dE l nm with
 |none=>
  have J:=alq on U;rw[Ig U,Ie U];refine aP [] func147 ?_;exact⟨rfl,av (Fn.aT [(3001,5)] J) bb⟩
 |some e=>
  have J:=alp on U (ak1 h (lR U).1 on);rw[If U,<-NZ h U];refine aP [] func147 ?_;exact⟨rfl,av (Fn.aT [(3001,5)] J) bb⟩
def alw {l:aI1} (h:eA l) (nm:aH3):Fn prog 144 [ap 1001,bN nm] (eT l) [] (ab (zB l nm)) (eT (mG l nm oG)):=by
 cases U:dE l nm with
 |none=>
  have J:=als U;rw[Ig U,Ie U];refine aP [] func144 ?_;exact av J bb
 |some e=>
  have J:=alr U (ak2 h (lR U).1);rw[If U,<-NZ h U];refine aP [] func144 ?_;exact av J bb
def ls:List bh->aH3->List bh
 | [],_=>[]
 |d::L,nm=>if d.nm=nm then L else d::ls L nm
def BT (L:aI1) (nm:aH3):(ls L nm).Sublist L:=by
 induction L with
 |nil=>exact .slnil
 |cons e L bk=>
  unfold ls
  split
  .exact List.sublist_cons_self ..
  .exact bk.cons_cons _
def VA {nm:aH3}: ∀{L:aI1},dE L nm=none->ls L nm=L
 | [],_=>rfl
 |d::L,h=>by
  rw[v8] at h;unfold ls
  by_cases e:d.nm=nm
  .rw[vj e] at h;cases h
  .rw[mu e] at h;rw[mu e,VA h]
def VB (nm:aH3): ∀L:List bh,gN (aF:=.str) (aJ:=.aL) (eb L) nm=eb (ls L nm)
 | []=>rfl
 |d::L=>by
  have bk:=VB nm L;show gN (aF:=.str) (aJ:=.aL) (jX d::eb L) nm=_;rw[show gN (aF:=.str) (aJ:=.aL) (jX d::eb L) nm=match fT .str (nm:aa .str) (jX d).1 with |true=>eb L |false=>jX d::gN (aF:=.str) (aJ:=.aL) (eb L) nm from rfl];unfold ls
  by_cases e:d.nm=nm
  .rw[show fT .str (nm:aa .str) (jX d).1=true from(qD _ _).2 e.symm,vj e]
  .rw[show fT .str (nm:aa .str) (jX d).1=false from rM (aF:=.str) qD (fun h=>e h.symm),mu e];simp only;rw[bk];rfl
def N0 {f:bh->Nat×bc}: ∀{L:aI1},(L.map fun d=>(f d).1).Nodup-> ∀{nm:aH3} {bI:bh},dE L nm=some bI->jS (L.map f) (f bI).1=(ls L nm).map f
 | [],_,nm,bI,h=>by cases h
 |d::L,hn,nm,bI,h=>by
  rw[au9] at hn;obtain⟨cC,dg⟩:=aw6.1 hn;rw[v8] at h;rw[au9];unfold jS ls
  by_cases e:d.nm=nm
  .rw[vj e] at h;injection h with h
   subst h;rw[vj rfl,vj e]
  .rw[mu e] at h;have a6: ¬(f d).1=(f bI).1:=fun ao=>cC (by rw[ao];exact aw1 (f:=fun d=>(f d).1) (lR h).1)
   rw[mu a6,mu e,au9,N0 dg h]
def eA.nC {l:aI1} (h:eA l) (nm:aH3):eA (ls l nm):=
 ⟨h.kb.sublist ((BT l nm).map _),h.nH.sublist ((BT l nm).map _),h.xB.sublist ((BT l nm).map _),fun e U=>h.ok e ((BT l nm).subset U),ay1 (BT l nm).length_le h.len⟩
def alx {l:aI1} (h:eA l) {nm:aH3} {e:bh} (U:dE l nm=some e):Fn prog 204 [dd e.ad,ap 3001,ap 3002] (eT l++[(3001,.cells [.ptr 1001 0]),(3002,.cells [.d (.str nm)])]) [] g' (eT (ls l nm)++[(3001,.cells [.ptr 1001 0]),(3002,.cells [.d (.str nm)])]):=by have cw:=h.D (lR U).1;have ak:=h.M (lR U).1;have pn:=VB nm l;have tc:jS (mK l) e.ad=mK (ls l nm):=N0 (f:=xz) h.nH U;have xj:jS (kC l) e.eP=kC (ls l nm):=N0 (f:=xA) h.xB U;refine aP [] func204 ?_;exact⟨eG aE0,_,_,_,(ac.AV 1003 6001 e.ad rfl cw rfl).trans (ac.AV 1004 6002 e.eP rfl ak rfl),rfl,trivial,⟨rfl,at2 (fun e=>some (a8.map .str .aL e)) pn,at2 (fun e=>some (a8.az (.bt e))) tc,at2 (fun e=>some (a8.az (.bt e))) xj,rfl,rfl,trivial⟩,rfl⟩
def aly {l:aI1} (h:eA l) (nm:aH3):Fn prog 146 [ap 1001,bN nm] (eT l) [] (ab (zB l nm)) (eT (ls l nm)):=by
 cases U:dE l nm with
 |none=>
  have J:=alo U;rw[Ig U,VA U];refine aP [] func146 ?_;exact⟨rfl,rfl,av (Fn.aT [(3001,2),(3002,3)] J) bb⟩
 |some e=>
  have J:=aln U (alx h U);rw[If U];refine aP [] func146 ?_;exact⟨rfl,rfl,av (Fn.aT [(3001,2),(3002,3)] J) bb⟩
def alz:(prog.info? 212).map (·.size)=some 4:=by kernel_rfl
abbrev g8 (nm:aH3) (on us:Bool):List bA:=[.d (.str nm),.d (.bool on),.d (.bool us),.ptr 5001 0]
def alA {l:aI1} (h:eA l) {e:bh} (U:e∈l):Fn prog 197 [dd e.ad,ap 3001] (eT l++[(3001,.cells [.d (.str []),.d (.lit false),.d (.lit false),.bK (.pointer none)])]) [5001,5002] g' (eT l++[(3001,.cells (g8 e.nm e.on e.us)),(5001,.cells [.d (.int .i64 e.s),.d (.int .i64 e.g),.mp 5002]),(5002,.map aq aq e.es)]):=by obtain⟨Vs,BP,BQ⟩:=lp NX;obtain⟨G2,alB,alC⟩:=lp alz;have cw:=h.D U;have ak:=h.M U;have J:=ak5 ak;refine aP [] func197 ?_;refine bm (kx (b:=e.ad) rfl rfl) ?_;refine bm (ak3 (q:=1003) (l:=Ia e.nm e.on e.us e.eP) rfl underlying212 rfl alB alC rfl rfl cw) ?_;refine bm (kx (b:=e.ad) rfl rfl) ?_;refine bm (fun N=>kY rfl underlying212 rfl rfl BP (by rw[BQ];decide) rfl N) ?_;refine bm (my (q:=1003) rfl underlying85 rfl rfl rfl cw rfl) ?_;exact av J bb
def VC {l:aI1} (h:eA l) {nm:aH3} {e:bh} (U:dE l nm=some e):Fn prog 139 [ap 1001,bN nm] (eT l) [5001,5002] (.b4 [.agg (g8 e.nm e.on e.us),dw 0]) (eT l++[(5001,.cells [.d (.int .i64 e.s),.d (.int .i64 e.g),.mp 5002]),(5002,.map aq aq e.es)]):=by have aV:=alA h (lR U).1;rw[(lR U).2] at aV;have J:=alt e.on e.us e.s e.g e.es U aV;rw[(lR U).2];refine aP [] func139 ?_;exact⟨rfl,rfl,av (Fn.aT [(3001,6)] J) <| ea bn rfl ⟨aA,rfl,trivial⟩⟩
def alD {l:aI1} {nm:aH3} (U:dE l nm=none):Fn prog 139 [ap 1001,bN nm] (eT l) [] (.b4 [.agg [.d (.str []),.d (.lit false),.d (.lit false),.bK (.pointer none)],dw 112]) (eT l):=by have J:=alu U;refine aP [] func139 ?_;exact⟨rfl,rfl,av (Fn.aT [(3001,6)] J) <| ea bn rfl ⟨aA,rfl,trivial⟩⟩
end
section
abbrev oI:bz:=.bV (.int .i64) (.ci .u8)
abbrev tm:bz:=.bV .str (.bV .str (.bV (.int .i64) (.bV (.int .i64) (.ci oI))))
abbrev kD:Type:=aa oI
abbrev cb:Type:=aa tm
abbrev aI5:=List cb
abbrev gn (p:kD):Int:=p.1
abbrev mL (p:kD):aH3:=p.2
abbrev er (b:cb):aH3:=b.1
abbrev dx (b:cb):aH3:=b.2.1
abbrev c7 (b:cb):Int:=b.2.2.1
abbrev eB (b:cb):Int:=b.2.2.2.1
abbrev cE (b:cb):List kD:=b.2.2.2.2
abbrev Ih (b:cb):List bA:=[.d (.str (er b)),.d (.str (dx b)),.d (.int .i64 (c7 b)),.d (.int .i64 (eB b)),.d (.b' oI (cE b))]
abbrev EE (b:cb):aN:=.c (.agg (Ih b))
abbrev lu (L:aI5):ay:=[(1001,.cells [.own 1002]),(1002,.row 84 tm L)]
def alE (b:cb) (nm:aH3):Fn prog 116 [EE b,ap 1001] [(1001,.cells [.d (.str nm)])] [] (gb (decide (er b=nm))) [(1001,.cells [.d (.str nm)])]:=by refine aP [] func116 ?_;exact⟨rfl,bb⟩
def ni {α:Type} (p:α->Bool) (L:List α):Int:=match L.findIdx? p with
 |some k=>(k:Nat)
 |none=> -1
def VD {α:Type} {p:α->Bool} {L:List α} {k:Nat} (E:k < L.length) (ag: ∀(i:Nat) b,i < k->L[i]? =some b->p b=false) (h:p L[k]=true):ni p L=(k:Nat):=by unfold ni;rw[show L.findIdx? p=some k from List.findIdx?_eq_some_iff_getElem.2 ⟨E,h,fun j V=>by simpa using ag j _ V (as7 aD7)⟩]
def alF {α:Type} {p:α->Bool} {L:List α} (ag: ∀(i:Nat) b,i < L.length->L[i]? =some b->p b=false):ni p L= -1:=by
 unfold ni
 rw[show L.findIdx? p=none from List.findIdx?_eq_none_iff.2 fun x hx=>by
  obtain⟨i,hi,rfl⟩:=aA5 hx;exact ag i _ hi (as7 hi)]
def zC {α:Type} (p:α->Bool) (L:List α):(ni p L= -1/\ ∀(i:Nat) b,L[i]? =some b->p b=false)\/ ∃(k:Nat) (x:α),ni p L=k/\L[k]? =some x/\p x=true/\ ∀(i:Nat) b,i < k->L[i]? =some b->p b=false:=by
 unfold ni
 cases h:L.findIdx? p with
 |none=>
  refine .inl ⟨rfl,fun i b O=>?_⟩;have:=List.findIdx?_eq_none_iff.1 h b (ay0 O);simpa using this
 |some k=>
  obtain⟨E,G,ah⟩:=List.findIdx?_eq_some_iff_getElem.1 h;refine .inr ⟨k,L[k],rfl,as7 E,G,fun i b hi O=>?_⟩;have:=ah i hi;rw[as7 aD7] at O;injection O with O
  rw[<-O];simpa using this
def alG {α:Type} {p:α->Prop} {L:List α} {k:Nat} (E:k < L.length) (ag: ∀(i:Nat) b,i < k->L[i]? =some b->p b) (h:p L[k]): ∀(i:Nat) b,i < k+1->L[i]? =some b->p b:=fun i b hi O=>by
 rcases aB8 i k with G |G
 .exact ag i b G O
 .have:i=k:=aE5
  subst this;rw[as7 E] at O;injection O with O
  rw[<-O];exact h
def qV {α:Type} {L:List α} {k:Nat} {n:Int} (hn:n=(k:Nat)) (h:k < L.length):eR L n.toNat=some L[k]:=by subst hn;exact as7 h
def alH (g:Nat) (p:cb->Bool) (nm:aH3) (L:aI5) (cG:L.length<=4294967296) (aw: ∀b,Fn prog g [EE b,ap 1001] [(1001,.cells [.d (.str nm)])] [] (gb (p b)) [(1001,.cells [.d (.str nm)])]):
  Fn prog 115 [dY 1002,nw (.c2 g [.p 1001 0])] [(1001,.cells [.d (.str nm)]),(1002,.row 84 tm L)] [] (ab (ni p L)) [(1001,.cells [.d (.str nm)]),(1002,.row 84 tm L)]:=by
 refine aP [] func115 ?_;refine dZ [] (X:=Nat) (fun k=>[(0,dY 1002),(1,nw (.c2 g [.p 1001 0])),(7,ab (L.length:Nat)),(8,ab (k:Nat))]) (fun _=>[(1001,.cells [.d (.str nm)]),(1002,.row 84 tm L)]) (fun k=>k<=L.length/\ ∀(i:Nat) b,i < k->L[i]? =some b->p b=false) (fun k=>L.length - k) 0 ⟨at6 _,fun i b h=>at1 h (aC7 _)⟩ ?_ ?_
 .exact ac.sub aA aA
 .rintro k ⟨Z,ag⟩;refine⟨fun h=>?_,fun h=>?_⟩
  .have E:k < L.length:=aE6
   refine⟨⟨aD7,aD7⟩,L[k],qV rfl E,av (aw L[k]) ⟨fun h=>?_,fun h=>?_⟩⟩
   .exact ea bn rfl ((VD E ag h).symm)
   .exact⟨aD7,k+1,⟨aD7,alG E ag h⟩,aD7,ac.sub aA aA⟩
  .have E: ¬k < L.length:=aE6
   exact ea bn rfl ((alF fun i b hi O=>ag i b aD7 O).symm)
def e5 (L:aI5) (nm:aH3):Int:=ni (fun b=>decide (er b=nm)) L
def N1 (nm:aH3) (L:aI5) (cG:L.length<=4294967296):Fn prog 59 [ap 1001,bN nm] (lu L) [] (ab (e5 L nm)) (lu L):=by refine aP [] func59 ?_;exact⟨rfl,av (Fn.aT [(1001,3)] (alH 116 _ nm L cG fun b=>alE b nm)) bb⟩
end
section
def fM (z:Int):Int:=16*((2 ^z.toNat:Nat):Int)
def VE {bi:Int} (ar:0<=bi) (E:bi<=3):1<=((2 ^bi.toNat:Nat):Int)/\((2 ^bi.toNat:Nat):Int)<=8:=by
 have:bi=0\/bi=1\/bi=2\/bi=3:=aE5
 rcases this with rfl |rfl |rfl |rfl <;>decide
def VF {bi:Int} (ar:0<=bi) (E:bi<=3):16<=fM bi/\fM bi<=128:=by have:=VE ar E;unfold fM;omega
def tn (size n:Int):Int->List kD->Bool
 |_,[]=>true
 |p8,p::r=> !(decide (gn p<=p8)||decide (size<=gn p)|| !decide (((mL p).length:Int)=n))&&tn size n (gn p) r
def hv (b:cb):Bool:=
 gZ (er b)&&decide (0<=c7 b)&&decide (c7 b<=3)&&decide (0<=eB b)&&decide (eB b<=256)&&tn (eB b) (fM (c7 b)) (-1) (cE b)&&
  (!decide (dx b=[])||decide (((cE b).length:Int)=eB b))
def N2 (b:cb) (ar:0<=c7 b) (E:c7 b<=3):Fn prog 60 [EE b] [] [] (ab (fM (c7 b))) []:=by have ag:=VE ar E;refine aP [] func60 ?_;exact⟨rfl,⟨aD7,aD7,aD7⟩,⟨aD7,aD7⟩,bb⟩
def alI (size n p8:Int) (l:List kD) (k:Nat) (Z:k < l.length):tn size n p8 (l.drop k)=(!(decide (gn l[k]<=p8)||decide (size<=gn l[k])|| !decide (((mL l[k]).length:Int)=n))&&tn size n (gn l[k]) (l.drop (k+1))):=by rw[aA4 Z];rfl
def alJ (b:cb) (hn:(er b).length<=4294967296) (al:(cE b).length<=4294967296) (ag: ∀p,p∈cE b->(mL p).length<=4294967296):Fn prog 200 [EE b] [] [] (gb (hv b)) []:=by
 refine aP [] func200 ?_;refine⟨rfl,av (qO _ hn) ⟨fun h=>?_,fun E=>?_⟩⟩
 .exact ea bn rfl (show false=hv b by simp_all [hv])
 refine⟨fun h=>?_,fun G=>?_⟩
 .exact ea bn rfl (show false=hv b by simp at h;simp[hv];omega)
 refine⟨fun h=>?_,fun ah=>?_⟩
 .exact ea bn rfl (show false=hv b by simp at h;simp[hv];omega)
 refine⟨fun h=>?_,fun aS=>?_⟩
 .exact ea bn rfl (show false=hv b by simp at h;simp[hv];omega)
 refine⟨fun h=>?_,fun bB=>?_⟩
 .exact ea bn rfl (show false=hv b by simp at h;simp[hv];omega)
 simp only[decide_eq_false_iff_not,Bool.not_eq_false'] at E G ah aS bB
 have aj:hv b=(tn (eB b) (fM (c7 b)) (-1) (cE b)&&(!decide (dx b=[])||decide (((cE b).length:Int)=eB b))):=by
  unfold hv;rw[E,au1 (show 0<=c7 b by omega),au1 (show c7 b<=3 by omega),au1 (show 0<=eB b by omega),au1 (show eB b<=256 by omega)];simp
 refine dZ [] (X:=Nat×Int) (fun x=>[(1,ap 1),(31,bE oI (cE b)),(3,ab x.2),(32,ab ((cE b).length:Nat)),(33,ab (x.1:Nat))]) (fun _=>[(1,.cells (Ih b))]) (fun x=>x.1<=(cE b).length/\tn (eB b) (fM (c7 b)) (-1) (cE b)=tn (eB b) (fM (c7 b)) x.2 ((cE b).drop x.1)) (fun x=>(cE b).length - x.1) (0,-1) ⟨at6 _,rfl⟩ ?_ ?_
 .exact ac.sub aA aA
 rintro⟨k,p8⟩ ⟨Z,hi⟩;refine⟨fun h=>?_,fun h=>?_⟩
 .have cd:k < (cE b).length:=aE6
  rw[alI _ _ _ _ _ cd] at hi;have gX:=ag _ (av5 cd);refine⟨aD7,(cE b)[k],qV rfl cd,rfl,fun h=>?_,fun ej=>?_⟩
  .refine⟨rfl,?_⟩;exact ea bn rfl (show false=hv b by rw[aj,hi,h];rfl)
  refine⟨fun h=>?_,fun hE=>?_⟩
  .refine⟨rfl,?_⟩;exact ea bn rfl (show false=hv b by rw[aj,hi,ej,h];rfl)
  refine⟨_,_,_,_,N2 b aD7 aD7,trivial,rfl,rfl,fun h=>?_,fun h6=>?_⟩
  .exact ea bn rfl (show false=hv b by rw[aj,hi,ej,hE,show(!decide (((mL (cE b)[k]).length:Int)=fM (c7 b)))=true from h];rfl)
  .refine⟨aD7,(k+1,gn (cE b)[k]),⟨by simp only;omega,?_⟩,by simp only;omega,?_⟩
   .rw[hi,ej,hE,show(!decide (((mL (cE b)[k]).length:Int)=fM (c7 b)))=false from h6];rfl
   .exact ac.sub aA aA
 .have cd: ¬k < (cE b).length:=aE6
  rw[List.drop_eq_nil_of_le aD7] at hi;refine⟨fun h=>?_,fun h=>?_⟩
  .exact ea bn rfl (show true=hv b by rw[aj,hi,show(!decide (dx b=[]))=true from h];rfl)
  .exact ea bn rfl (show decide (((cE b).length:Int)=eB b)=hv b by rw[aj,hi,show(!decide (dx b=[]))=false from h];rfl)
end
section
def VG:Fn prog 65 [] [] [1001,1002] (ap 1001) (lu []):=by refine aP [] func65 ?_;exact⟨rfl,_,_,_,ac.trans (ac.AC 2 0 1002 84 tm rfl rfl rfl) (ac.aT 2 1001 rfl),rfl,rfl,aA,rfl⟩
def uE (L:aI5):aH3:=match L.getLast? with
 |some b=>er b
 |none=>[]
def alK (L:aI5) (cG:L.length<=4294967296):Fn prog 84 [ap 1001] (lu L) [] (bN (uE L)) (lu L):=by
 refine aP [] func84 ?_;refine⟨fun h=>?_,fun h=>?_⟩
 .have ar:L.length=0:=by simp only[aw0] at h;omega
  refine⟨_,_,_,bn,rfl,?_,aA,rfl⟩;rw[aw5 ar];rfl
 .have ar:0 < L.length:=by simp only[decide_eq_false_iff_not] at h;omega
  have bv:L.length - 1 < L.length:=aE5
  refine⟨aD7,⟨aD7,aD7⟩,L[L.length - 1],qV (k:=L.length - 1) aD7 bv,rfl,_,_,_,bn,rfl,?_,aA,rfl⟩;show er L[L.length - 1]=uE L;unfold uE;rw[List.getLast?_eq_getElem?,as7 bv]
def gJ (L:aI5) (b:cb):Int:=
 if(!hv b||decide (0<=e5 L (er b))||decide (64<=(L.length:Int)))=true then 1
 else if(!decide (dx b=[])&&decide (e5 L (dx b) < 0))=true then 181
 else if(!decide (dx b=[])&& !decide ((match eR L (e5 L (dx b)).toNat with |some x=>c7 x |none=>c7 b)=c7 b))=true then 1 else 0
def g5 (L:aI5) (b:cb):List cb:=if gJ L b=0 then L++[b] else L
def VH {L:aI5} {b:cb} (h:(!hv b)=true):gJ L b=1:=by unfold gJ;rw[vj (by simp[h])]
def VI {L:aI5} {b:cb} (h:decide (0<=e5 L (er b))=true):gJ L b=1:=by unfold gJ;rw[vj (by simp[h])]
def VJ {L:aI5} {b:cb} (h:decide (64<=(L.length:Int))=true):gJ L b=1:=by unfold gJ;rw[vj (by simp[h])]
def EF {b:cb} (h:hv b=true):0<=c7 b/\c7 b<=3/\0<=eB b/\eB b<=256:=by simp only[hv,as8,aw0] at h;omega
abbrev alL (L:aI5):ay:=[(1001,.cells [.own 1003]),(1003,.row 84 tm L)]
def v' {α:Type} {l:List α} {k:Nat} (h:k < l.length):l.take k++[l[k]]=l.take (k+1):=by rw[aB1,as7 h];rfl
abbrev N3 (b:cb) (r k:Nat):aW:=[(0,ap 1001),(3,ap 3),(6,dY r),(58,bE oI (cE b)),(59,ab ((cE b).length:Nat)),(60,ab (k:Nat))]
abbrev N4 (L:aI5) (b:cb) (r:Nat) (l:List kD):ay:=[(r,.row 128 oI l),(3,.cells (Ih b)),(1001,.cells [.own 1002]),(1002,.row 84 tm L)]
def N5 (L:aI5) (b:cb) (cG:L.length<=1000000) (hn:(er b).length<=4294967296) (al:(cE b).length<=1000000) (ag: ∀p,p∈cE b->(mL p).length<=4294967296):
  Fn prog 143 [ap 1001,EE b] (lu L) [1003] (ab (gJ L b)) (alL (g5 L b)):=by
 have gg: ∀e,gJ L b=e->e≠0->g5 L b=L:=fun e E G=>by unfold g5;rw[mu aD7]
 refine aP [14] func143 ?_;refine⟨rfl,av (N1 (dx b) L aD7) <| av (alJ b hn aD7 ag) ⟨fun h=>?_,fun E=>?_⟩⟩
 .rw[gg 1 (VH h) aD7,VH h];exact⟨_,_,_,ac.aT 1002 1003 rfl,rfl,rfl,aA,rfl⟩
 refine av (N1 (er b) L aD7) ⟨fun h=>?_,fun G=>?_⟩
 .rw[gg 1 (VI h) aD7,VI h];exact⟨_,_,_,ac.aT 1002 1003 rfl,rfl,rfl,aA,rfl⟩
 refine⟨fun h=>?_,fun ah=>?_⟩
 .rw[gg 1 (VJ h) aD7,VJ h];exact⟨_,_,_,ac.aT 1002 1003 rfl,rfl,rfl,aA,rfl⟩
 have aY:gJ L b=if(!decide (dx b=[])&&decide (e5 L (dx b) < 0))=true then 181 else if(!decide (dx b=[])&& !decide ((match eR L (e5 L (dx b)).toNat with |some x=>c7 x |none=>c7 b)=c7 b))=true then 1 else 0:=by
  unfold gJ;rw[mu (by rw[show(!hv b)=false from E,show decide (0<=e5 L (er b))=false from G,show decide (64<=(L.length:Int))=false from ah];simp)]
 have aj:hv b=true:=aG9
 obtain⟨r1,r2,fQ,j9⟩:=EF aj;have qW:gJ L b=0->g5 L b=L++[b]:=fun h=>by unfold g5;rw[vj h]
 refine⟨fun aS=>?a,fun aS=>?b⟩
 case' a=>
  refine⟨fun h=>?_,fun bB=>?_⟩
  .rw[show(!decide (dx b=[]))=true from aS,show decide (e5 L (dx b) < 0)=true from h] at aY;have aY:gJ L b=181:=aY;rw[gg 181 aY aD7,aY];exact⟨_,_,_,ac.aT 1002 1003 rfl,rfl,rfl,aA,rfl⟩
  have ej: ¬e5 L (dx b) < 0:=by simpa using bB
  have Z: ∃k:Nat,∃Z:k < L.length,e5 L (dx b)=(k:Nat):=by
   rcases zC (fun x=>decide (er x=dx b)) L with⟨h,_⟩ |⟨k,x,h,hx,_⟩
   .exact at1 (show e5 L (dx b) < 0 by unfold e5;omega) ej
   .exact⟨k,(au0.1 hx).1,h⟩
  obtain⟨k,Z,qX⟩:=Z;rw[show(!decide (dx b=[]))=true from aS,show decide (e5 L (dx b) < 0)=false from bB,qV qX Z] at aY;have aY:gJ L b=if(!decide (c7 L[k]=c7 b))=true then 1 else 0:=aY
  refine⟨fun hE=>⟨⟨aD7,aD7⟩,L[k],qV qX Z,rfl,fun h=>?_,fun h=>?_⟩,fun hE=>at1 aS (by rw[show(!decide (dx b=[]))=false from hE];simp)⟩
  .rw[show(!decide (c7 L[k]=c7 b))=true from h] at aY;have aY:gJ L b=1:=aY;rw[gg 1 aY aD7,aY];exact⟨_,_,_,ac.aT 1002 1003 rfl,rfl,rfl,aA,rfl⟩
  rw[show(!decide (c7 L[k]=c7 b))=false from h] at aY;have dO:gJ L b=0:=aY;clear aY h
 case' b=>
  rw[show(!decide (dx b=[]))=false from aS] at aY;have dO:gJ L b=0:=aY;clear aY;refine⟨fun hE=>at1 aS (by rw[show(!decide (dx b=[]))=true from hE];simp),fun hE=>⟨rfl,?_⟩⟩
 all_goals
  rw[qW dO,dO];refine dZ [14] (X:=Nat) (N3 b 2002) (fun k=>N4 L b 2002 ((cE b).take k)) (fun k=>k<=(cE b).length) (fun k=>(cE b).length - k) 0 (at6 _) ?_ ?_
  .exact ac.trans (ac.nil 6 2002 128 oI rfl rfl) (ac.sub aA aA)
  intro j V;refine⟨fun h=>?_,fun h=>?_⟩
  .have fb:j < (cE b).length:=aE6
   have gX:=ag _ (av5 fb);refine⟨aD7,(cE b)[j],qV rfl fb,rfl,av (My _ gX) ⟨?_,rfl,rfl,?_⟩⟩
   .show((cE b).take j).length+1<=4294967296;rw[at9];omega
   .exact⟨aD7,j+1,fb,aD7,ac.trans (ac.sub (K':=N3 b 72 (j+1)) (B':=N4 L b 72 ((cE b).take (j+1))) aA ⟨at2 (fun l=>some (a8.row _ oI l)) (v' fb),rfl,rfl,rfl,trivial⟩) (ac.aT 72 2002 rfl)⟩
  .have fb:j=(cE b).length:=by
     have: ¬j < (cE b).length:=aE6
     omega
   subst fb;refine bw [] (ac.trans (ac.sub (K':=N3 b 2002 (cE b).length) (B':=N4 L b 2002 (cE b)) aA ⟨at2 (fun l=>some (a8.row _ oI l)) av0,rfl,rfl,rfl,trivial⟩) (ac.dH 2002 rfl)) ⟨?_,rfl,rfl,?_⟩
   .show L.length+1<=4294967296;omega
   .exact⟨_,_,_,ac.aT 83 1003 rfl,rfl,rfl,aA,rfl⟩
end
section
def N6 (size n:Int): ∀(l:List kD) (p8:Int),tn size n p8 l=true-> ∀p,p∈l->p8 < gn p/\gn p < size/\((mL p).length:Int)=n
 | [],_,_,p,ag=>by cases ag
 |q::l,p8,h,p,ag=>by
  simp only[tn,as8,av3,ax5,decide_eq_false_iff_not,Bool.not_eq_false',aw0] at h;obtain⟨⟨⟨E,G⟩,ah⟩,aS⟩:=h;rcases at7.1 ag with rfl |ag
  .exact⟨aD7,aD7,ah⟩
  .have:=N6 size n l (gn q) aS p ag;exact⟨aD7,this.2.1,this.2.2⟩
def p9 (oJ:Int) (acc:aH3) (p:kD):aH3:=laid acc (gn p*oJ).toNat (acc.length - (gn p*oJ).toNat) (mL p)
def BU (b:cb) (below:aH3):aH3:=
 let aH:=List.replicate (eB b*fM (c7 b)).toNat (0:UInt8)
 (cE b).foldl (p9 (fM (c7 b))) (if decide (dx b=[])=true then aH else laid aH 0 aH.length below)
def p' (L:aI5) (i:Int):Option cb:=if 0<=i then eR L i.toNat else none
def xC (L:aI5) (nm:aH3) (bV:aH3->aH3):aH3:=match p' L (e5 L nm) with
 |none=>[]
 |some b=>BU b (bV (dx b))
def uF (L:aI5) (nm:aH3):Int:=if decide (e5 L nm < 0)=true then 181 else 0
def Ii (out:aH3) (e:Int):aN:=.b4 [.one (.d (.b' .u8 out)),.one (.d (.int .i64 e))]
def VK {size oJ:Int} {b:aH3} {p:kD} (ar:0<=oJ) (E:0<=gn p) (G:gn p < size) (O:b.length=(size*oJ).toNat):(gn p*oJ).toNat<=b.length/\(p9 oJ b p).length=b.length:=by
 have:gn p*oJ<=size*oJ:=Int.mul_le_mul_of_nonneg_right aD7 ar;have ah:(gn p*oJ).toNat<=b.length:=aE5
 exact⟨ah,F4 _ _ aD7⟩
def VL {size oJ:Int} (ar:0<=oJ): ∀(l:List kD) (acc:aH3),(∀p,p∈l->0<=gn p/\gn p < size)->acc.length=(size*oJ).toNat->(l.foldl (p9 oJ) acc).length=(size*oJ).toNat
 | [],acc,_,ha=>ha
 |p::l,acc,ag,ha=>VL ar l (p9 oJ acc p) (fun q a2=>ag q (at4 _ a2)) (by
  have:=ag p au7;rw[(VK ar this.1 this.2 ha).2,ha])
def alM {α m':Type} (f:m'->α->m') (x:m') {l:List α} {k:Nat} (h:k < l.length):(l.take (k+1)).foldl f x=f ((l.take k).foldl f x) l[k]:=by rw[<-v' h,aB9];rfl
abbrev alN (b:cb) (k:Nat):aW:=[(7,ap 7),(8,dY 30),(45,bE oI (cE b)),(46,ab ((cE b).length:Nat)),(47,ab (k:Nat))]
abbrev alO (L:aI5) (b:cb) (x:aH3):ay:=[(30,.row 5 .u8 x),(7,.cells (Ih b)),(1001,.cells [.own 1002]),(1002,.row 84 tm L)]
def VM (L:aI5) (nm:aH3) (cG:L.length<=1000000) (aj: ∀b,b∈L->hv b=true/\(cE b).length<=1000000) (bV:aH3->aH3)
  (bk: ∀b,p' L (e5 L nm)=some b->(!decide (dx b=[]))=true->Fn prog 26 [ap 1001,bN (dx b)] (lu L) [] (Ii (bV (dx b)) (uF L (dx b))) (lu L)):
  Fn prog 26 [ap 1001,bN nm] (lu L) [] (Ii (xC L nm bV) (uF L nm)) (lu L):=by
 refine aP [] func26 ?_;refine av (N1 nm L aD7) ⟨fun h=>?_,fun h=>?_⟩
 .have E: ¬0<=e5 L nm:=by simp only[aw0] at h;omega
  exact ea bn rfl ⟨(show xC L nm bV=[] by unfold xC p';rw[mu E]),(show(181:Int)=uF L nm by unfold uF;rw[vj h]),trivial⟩
 have hf: ¬e5 L nm < 0:=aE6
 have Z: ∃k:Nat,∃Z:k < L.length,e5 L nm=(k:Nat):=by
  rcases zC (fun x=>decide (er x=nm)) L with⟨h,_⟩ |⟨k,x,h,hx,_⟩
  .exact at1 (show e5 L nm < 0 by unfold e5;omega) hf
  .exact⟨k,(au0.1 hx).1,h⟩
 obtain⟨k,Z,qX⟩:=Z;have aV:p' L (e5 L nm)=some L[k]:=by unfold p';rw[vj aD7];exact qV qX Z
 have aY:uF L nm=0:=by unfold uF;rw[mu (by rw[h];simp)]
 have au:xC L nm bV=BU L[k] (bV (dx L[k])):=by unfold xC;rw[aV]
 have bk:=bk _ aV;rw[aY,au];refine⟨⟨aD7,aD7⟩,L[k],qV qX Z,?_⟩;obtain⟨zu,gX⟩:=aj _ (av5 Z);generalize iO:L[k]=b at*;obtain⟨r1,r2,fQ,j9⟩:=EF zu;obtain⟨cu,cp⟩:=VF r1 r2
 have U7:0<=eB b*fM (c7 b)/\eB b*fM (c7 b)<=32768:=⟨Int.mul_nonneg aD7 aD7,by
  have:eB b*fM (c7 b)<=256*128:=Int.mul_le_mul j9 cp aD7 aD7;omega⟩
 have aM:(List.replicate (eB b*fM (c7 b)).toNat (0:UInt8)).length=(eB b*fM (c7 b)).toNat:=au2
 have Ij: ∀p,p∈cE b->0<=gn p/\gn p < eB b:=fun p ag=>by
  have zu:=zu;simp only[hv,as8] at zu;have:=N6 _ _ _ _ zu.1.2 p ag;omega
 refine⟨rfl,av (N2 b r1 r2) ?_⟩;have alP: -9223372036854775808<=eB b*fM (c7 b)/\eB b*fM (c7 b)<=9223372036854775807:=aE5
 have alQ:eB b*fM (c7 b)<=4294967296:=aE5
 refine⟨alP,⟨rfl,U7.1,alQ⟩,rfl,rfl,fun aS=>?a,fun aS=>?b⟩
 case' a=>
  refine av (bk aS) ⟨aD7,?_⟩
  have O: ∃y,BU b (bV (dx b))=(cE b).foldl (p9 (fM (c7 b))) y/\y=laid (List.replicate (eB b*fM (c7 b)).toNat (0:UInt8)) 0 (List.replicate (eB b*fM (c7 b)).toNat (0:UInt8)).length (bV (dx b))/\y.length=(eB b*fM (c7 b)).toNat:=⟨_,by
   unfold BU;simp only;rw[show decide (dx b=[])=false by simpa using aS];rfl,rfl,(F4 _ _ aD7).trans aM⟩
  obtain⟨y,H,aD,DR⟩:=O
 case' b=>
  have O: ∃y,BU b (bV (dx b))=(cE b).foldl (p9 (fM (c7 b))) y/\y=(List.replicate (eB b*fM (c7 b)).toNat (0:UInt8))/\y.length=(eB b*fM (c7 b)).toNat:=⟨_,by
   unfold BU;simp only;rw[show decide (dx b=[])=true by simpa using aS];rfl,rfl,aM⟩
  obtain⟨y,H,aD,DR⟩:=O
 all_goals
  rw[H];refine dZ [] (X:=Nat) (alN b) (fun k=>alO L b (((cE b).take k).foldl (p9 (fM (c7 b))) y)) (fun k=>k<=(cE b).length) (fun k=>(cE b).length - k) 0 (at6 _) ?_ ?_
  .exact ac.sub aA ⟨at2 (fun l=>some (a8.row _ .u8 l)) aD.symm,rfl,rfl,rfl,trivial⟩
  intro j V;refine⟨fun h=>?_,fun h=>?_⟩
  .have fb:j < (cE b).length:=aE6
   have N7:=Ij _ (av5 fb);have Mo:(((cE b).take j).foldl (p9 (fM (c7 b))) y).length=(eB b*fM (c7 b)).toNat:=VL aD7 _ _ (fun p ag=>Ij p (List.mem_of_mem_take ag)) aD7;obtain⟨cr,cv⟩:=VK aD7 N7.1 N7.2 Mo;have alR:0<=gn (cE b)[j]*fM (c7 b):=Int.mul_nonneg N7.1 aD7;have alS: -9223372036854775808<=gn (cE b)[j]*fM (c7 b)/\gn (cE b)[j]*fM (c7 b)<=9223372036854775807:=aE5
   refine⟨aD7,(cE b)[j],qV rfl fb,rfl,av (N2 b r1 r2) ⟨alS,⟨alR,?_⟩,?_⟩⟩
   .show gn (cE b)[j]*fM (c7 b)<=((((cE b).take j).foldl (p9 (fM (c7 b))) y).length:Int);omega
   refine⟨?_,rfl,?_⟩
   .show(gn (cE b)[j]*fM (c7 b)).toNat+((((cE b).take j).foldl (p9 (fM (c7 b))) y).length - (gn (cE b)[j]*fM (c7 b)).toNat)<=(((cE b).take j).foldl (p9 (fM (c7 b))) y).length;omega
   .exact⟨aD7,j+1,fb,aD7,ac.sub aA ⟨at2 (fun l=>some (a8.row _ .u8 l)) (alM (p9 (fM (c7 b))) y fb).symm,rfl,rfl,rfl,trivial⟩⟩
  .have fb:j=(cE b).length:=by
     have: ¬j < (cE b).length:=aE6
     omega
   subst fb;exact⟨_,_,_,ac.trans (ac.dH 30 rfl) (bn),rfl,⟨(show((cE b).take (cE b).length).foldl (p9 (fM (c7 b))) y=(cE b).foldl (p9 (fM (c7 b))) y by rw[av0]),rfl,trivial⟩,aA,rfl⟩
def Ik (L:aI5):Nat->aH3->aH3
 |0,_=>[]
 |n+1,nm=>xC L nm (Ik L n)
structure oK (L:aI5):Prop where
 len:L.length<=64
 right: ∀b,b∈L->hv b=true
 Il: ∀(k:Nat) b,L[k]? =some b->decide (dx b=[])=false->0<=e5 L (dx b)/\e5 L (dx b) < k
def VN {b:cb} (h:hv b=true):(cE b).length<=256:=by
 have G:=EF h;simp only[hv,as8] at h
 have key: ∀(l:List kD) (p8:Int),tn (eB b) (fM (c7 b)) p8 l=true->(l.length:Int)<=max 0 (eB b - 1 - p8):=by
  intro l
  induction l with
  |nil=>intro p8 _;simp only[List.length_nil];omega
  |cons p l bk=>
   intro p8 h;simp only[tn,as8,av3,ax5,decide_eq_false_iff_not] at h;have:=bk _ h.2;simp only[aw7];omega
 have:=key _ _ h.1.2;omega
def VO (L:aI5) (nm:aH3):e5 L nm < L.length:=by
 rcases zC (fun x=>decide (er x=nm)) L with⟨h,_⟩ |⟨k,x,h,hx,_⟩
 .unfold e5;omega
 .have:=(au0.1 hx).1;unfold e5;omega
def alT {L:aI5} {i:Int} {b:cb} (h:p' L i=some b): ∃k:Nat,i=k/\L[k]? =some b:=by
 unfold p' at h
 split at h
 .exact⟨i.toNat,aD7,h⟩
 .cases h
def alU {L:aI5} (a7:oK L): ∀(n:Nat) (nm:aH3),e5 L nm < n->Fn prog 26 [ap 1001,bN nm] (lu L) [] (Ii (Ik L n nm) (uF L nm)) (lu L):=by
 have cG:L.length<=1000000:=by have:=a7.len;omega
 have aj: ∀b,b∈L->hv b=true/\(cE b).length<=1000000:=fun b O=>⟨a7.right b O,by have:=VN (a7.right b O);omega⟩
 intro n
 induction n with
 |zero=>
  intro nm h;have ar:p' L (e5 L nm)=none:=by unfold p';rw[mu aD7]
  have:=VM L nm cG aj (fun _=>[]) (fun b O=>by rw[ar] at O;cases O);rw[show xC L nm (fun _=>[])=[] by unfold xC;rw[ar]] at this;exact this
 |succ n bk=>
  intro nm h
  exact VM L nm cG aj (Ik L n) (fun b O ag=>bk (dx b) (by
   obtain⟨k,Z,O⟩:=alT O;have:=(a7.Il k b O (by simpa using ag)).2;omega))
def BV (L:aI5) (nm:aH3):aH3:=Ik L (L.length+1) nm
def alV {L:aI5} (a7:oK L) (nm:aH3):Fn prog 26 [ap 1001,bN nm] (lu L) [] (Ii (BV L nm) (uF L nm)) (lu L):=
 alU a7 _ nm (by have:=VO L nm;omega)
end
section
abbrev VP:bz:=.bV (.int .i64) .str
abbrev VQ:bz:=.bV .str (.bV .str (.bV (.int .i64) (.bV (.int .i64) (.ci VP))))
abbrev xD:Type:=aa VP
abbrev nj:Type:=aa VQ
abbrev alW (p:xD):Int:=p.1
abbrev EG (p:xD):aH3:=p.2
abbrev alX (b:nj):aH3:=b.1
abbrev alY (b:nj):aH3:=b.2.1
abbrev alZ (b:nj):Int:=b.2.2.1
abbrev VR (b:nj):Int:=b.2.2.2.1
abbrev al0 (b:nj):List xD:=b.2.2.2.2
def tp (p:xD):kD:=(alW p,EG p)
def jY (b:nj):cb:=(alX b,alY b,alZ b,VR b,(al0 b).map tp)
def al1 {α m':Type} (f:α->m') {l:List α} {k:Nat} (h:k < l.length):(l.take k).map f++[f l[k]]=(l.take (k+1)).map f:=by rw[<-v' h,ay6];rfl
end
section
def EH (L:aI5) (nm:aH3):Bool:=decide (0<=ni (fun b=>decide (dx b=nm)) L)
end
section
end
section
abbrev oL:bz:=.int .i64
abbrev al2:bz:=.bV .str (.ci oL)
abbrev Im:bz:=.bV oL (.bV oL (.bV oL (.bV (.ci .u8) (.ci oL))))
abbrev In:bz:=.bV oL (.bV oL (.bV .str (.bV .str (.bV (.ci al2) Im))))
abbrev al3:bz:=.bV oL (.bV oL (.bV VQ (.bV .str In)))
abbrev Io:Type:=aa al3
abbrev al4 (o:Io):Int:=o.2.1
abbrev al5 (o:Io):nj:=o.2.2.1
abbrev N8 (o:Io):aa In:=o.2.2.2.2
abbrev al6 (o:aa In):Int:=o.2.1
abbrev VS (o:aa In):aa Im:=o.2.2.2.2.2
abbrev al7 (o:aa Im):Int:=o.1
abbrev al8 (o:aa Im):Int:=o.2.2.1
def over (n a b:Int):Bool:=decide (a < n)&&decide (n<=b)
def VT (o:Io):Bool:=over (VR (al5 o)) 12 256||over (al4 o) 100 4096||over (al6 (N8 o)) 100 4096||(decide (al7 (VS (N8 o))=4)&&over (al8 (VS (N8 o))) 100 4096)
end
section
def N9 {L:aI5} {b:cb} (h:gJ L b=0):hv b=true/\e5 L (er b) < 0/\L.length < 64/\(decide (dx b=[])=false->0<=e5 L (dx b)):=by
 unfold gJ at h
 split at h
 .cases h
 .rename_i E
  split at h
  .cases h
  .rename_i G;simp only[ay9,av3,aw0,not_or,Bool.not_eq_false] at E;refine⟨E.1.1,aD7,aD7,fun h=>?_⟩;rw[h] at G;simp only[Bool.not_false,aB6,aw0] at G;omega
def VU {α:Type} {p:α->Bool} {L:List α} (x:α) (h:0<=ni p L):ni p (L++[x])=ni p L:=by
 unfold ni at*;rw[List.findIdx?_append]
 cases hf:L.findIdx? p with
 |none=>rw[hf] at h;exact at1 h aD8
 |some k=>simp
def VV {α:Type} {L:List α} {b:α} (k:Nat) (x:α) (hx:(L++[b])[k]? =some x):L[k]? =some x\/(k=L.length/\x=b):=by
 rcases aB8 k L.length with h |h
 .rw[av8 h] at hx;exact .inl hx
 .rw[aw4 h] at hx
  cases Z:k - L.length with
  |zero=>rw[Z] at hx;exact .inr ⟨aD7,by simpa using hx.symm⟩
  |succ n=>rw[Z] at hx;simp at hx
def oK.add {L:aI5} (a7:oK L) (b:cb):oK (g5 L b):=by
 unfold g5
 split
 .rename_i h;obtain⟨E,G,ah,aS⟩:=N9 h;refine⟨by simp;omega,fun x hx=>?_,fun k x Z ag=>?_⟩
  .rcases av9.1 hx with hx |hx
   .exact a7.right x hx
   .simp only[at7,List.not_mem_nil,or_false] at hx;rw[hx];exact E
  .rcases VV k x Z with Z |⟨rfl,rfl⟩
   .have:=a7.Il k x Z ag;unfold e5 at*;rw[VU b this.1];exact this
   .have:=aS ag;have bv:=VO L (dx x);unfold e5 at*;rw[VU x this];exact⟨this,bv⟩
 .exact a7
end
section
abbrev N' (r:Nat) (L:aI5):ay:=[(1001,.cells [.own r]),(r,.row 84 tm L)]
end
section
abbrev VW (r k:Nat) (L:aI5):aW:=[(3,dY r),(9,dY 1002),(10,ab (L.length:Nat)),(11,ab (k:Nat))]
abbrev VX (L:aI5) (r:Nat) (l:aJ5):ay:=(r,.row 9 .str l)::lu L
def al9 (L:aI5) (cG:L.length<=1000000):Fn prog 81 [ap 1001] (lu L) [] (bE .str (L.map er)) (lu L):=by
 refine aP [] func81 ?_;refine dZ [] (X:=Nat) (fun k=>VW 2002 k L) (fun k=>VX L 2002 ((L.take k).map er)) (fun k=>k<=L.length) (fun k=>L.length - k) 0 (at6 _) ?_ ?_
 .exact ac.trans (ac.nil 3 2002 9 .str rfl rfl) (ac.sub aA aA)
 intro k Z;refine⟨fun h=>?_,fun h=>?_⟩
 .have cd:k < L.length:=aE6
  refine⟨⟨aD7,aD7⟩,L[k],qV rfl cd,rfl,?_,rfl,?_⟩
  .show((L.take k).map er).length+1<=4294967296;rw[au3,at9];omega
  exact⟨aD7,k+1,cd,aD7,ac.trans (ac.sub (K':=VW 19 (k+1) L) (B':=VX L 19 ((L.take (k+1)).map er)) aA ⟨at2 (fun l=>some (a8.row _ .str l)) (al1 er cd),rfl,rfl,trivial⟩) (ac.aT 19 2002 rfl)⟩
 .have cd:k=L.length:=by
    have: ¬k < L.length:=aE6
    omega
  subst cd;exact⟨_,_,_,ac.dH 2002 rfl,rfl,(show(L.take L.length).map er=L.map er by rw[av0]),aA,rfl⟩
end
section
def BW (L:aI5) (nm:aH3):Int:=if e5 L nm < 0 then 181 else if EH L nm=true then 1 else 0
def BX (L:aI5) (nm:aH3):List cb:=if BW L nm=0 then L.eraseIdx (e5 L nm).toNat else L
end
section
end
section
end
section
end
section
def al' {α:Type} (p:α->Bool): ∀(L:List α),(if 0<=ni p L then eR L (ni p L).toNat else none)=L.find? p:=by
 intro L;rcases zC p L with⟨h,hn⟩ |⟨k,x,h,hx,ag,bv⟩
 .rw[h,mu aD7];refine(List.find?_eq_none.2 fun x hx=>?_).symm;obtain⟨i,hi,rfl⟩:=aA5 hx;rw[hn i _ (as7 hi)];simp
 .rw[h,vj aD7,az8];unfold eR;rw[hx];refine(List.find?_eq_some_iff_getElem.2 ⟨ag,k,(au0.1 hx).1,(au0.1 hx).2,fun j V=>?_⟩).symm;have:=bv j _ V (as7 (by have:=(au0.1 hx).1;omega));simpa using this
def BY (L:aI5) (nm:aH3):p' L (e5 L nm)=L.find? (fun b=>decide (er b=nm)):=al' _ L
def Oa {α:Type} (p:α->Bool): ∀(L:List α) (k:Nat) (x:α),L[k]? =some x->p x=false->(L.eraseIdx k).find? p=L.find? p
 | [],k,x,h,_=>by simp at h
 |a::L,0,x,h,ag=>by
  simp only[au4,at5] at h;subst h;simp[List.find?_cons,ag]
 |a::L,k+1,x,h,ag=>by
  simp only[aC4] at h;rw[List.eraseIdx_cons_succ,List.find?_cons,List.find?_cons,Oa p L k x h ag]
def Ip (L:aI5) (nm:aH3):e5 L nm < 0↔L.find? (fun b=>decide (er b=nm))=none:=by
 rw[<-BY];unfold p';constructor
 .intro h;rw[mu aD7]
 .intro h;rcases zC (fun b=>decide (er b=nm)) L with⟨G,_⟩ |⟨k,x,G,hx,_⟩
  .unfold e5;omega
  .have G:e5 L nm=k:=G;rw[vj aD7,G,az8] at h;unfold eR at h;rw[hx] at h
   cases h
end
section
def Iq {L:aI5} {nm:aH3} (h:0<=e5 L nm): ∃x,L.find? (fun y=>decide (er y=nm))=some x:=by
 cases hx:L.find? (fun y=>decide (er y=nm)) with
 |some x=>exact⟨x,rfl⟩
 |none=>have:=(Ip L nm).2 hx;omega
def ama {L:aI5} (a7:oK L) {b:cb} (O:b∈L) (ag:dx b≠[]):0<=e5 L (dx b):=by obtain⟨k,Z,rfl⟩:=aA5 O;exact(a7.Il k _ (as7 Z) (by simpa using ag)).1
def amb {b:cb} (h:hv b=true):16<=fM (c7 b)/\fM (c7 b)<=128:=by obtain⟨E,G,_,_⟩:=EF h;exact VF E G
def amc {b:cb} (h:hv b=true): ∀p,p∈cE b->0<=gn p/\gn p < eB b/\((mL p).length:Int)=fM (c7 b):=fun p ag=>by
 simp only[hv,as8] at h;have:=N6 _ _ _ _ h.1.2 p ag;omega
end
section
def amd {α:Type} (p:α->Bool) {L:List α} {q k:Nat} (a2:ni p L=q) (a6:q≠k):ni p (L.eraseIdx k)=((if q < k then q else q - 1:Nat):Int):=by
 rcases zC p L with⟨h,_⟩ |⟨j,x,h,hx,ag,bv⟩
 .omega
 .obtain rfl:j=q:=aE5
  have aV: ∀i:Nat,(L.eraseIdx k)[i]? =if i < k then L[i]? else L[i+1]? :=fun i=>aC6 ..
  have dq:(L.eraseIdx k)[if j < k then j else j - 1]? =some x:=by
   rw[aV]
   by_cases E:j < k
   .rw[vj E,vj E];exact hx
   .rw[mu E,mu aD7,show j - 1+1=j by omega];exact hx
  have KL:=(au0.1 dq).1;refine VD KL (fun i b hi O=>?_) (by rw[(au0.1 dq).2];exact ag);rw[aV] at O
  by_cases E:j < k
  .rw[vj E] at hi;rw[vj aD7] at O;exact bv i b hi O
  .rw[mu E] at hi
   split at O
   .exact bv i b aD7 O
   .exact bv (i+1) b aD7 O
def VY {L:aI5} {nm:aH3} (h:EH L nm=false) {b:cb} (O:b∈L):dx b≠nm:=fun e=>by
 obtain⟨i,hi,rfl⟩:=aA5 O;rcases zC (fun b=>decide (dx b=nm)) L with⟨_,hn⟩ |⟨k,x,G,_⟩
 .have:=hn i _ (as7 hi);simp[e] at this
 .have:EH L nm=true:=by unfold EH;rw[G];simp
  rw[h] at this
  cases this
def VZ {L:aI5} {nm:aH3} (h:BW L nm=0):0<=e5 L nm/\EH L nm=false:=by
 unfold BW at h
 split at h
 .cases h
 split at h
 .cases h
 .rename_i E G;exact⟨aD7,by simpa using G⟩
def ame {L:aI5} (a7:oK L) (nm:aH3):oK (BX L nm):=by
 unfold BX
 split
 .rename_i aY;obtain⟨E,G⟩:=VZ aY;obtain⟨k,Z⟩: ∃k:Nat,e5 L nm=k:=⟨(e5 L nm).toNat,aD7⟩;rw[Z,az8];refine⟨ay1 (List.length_eraseIdx_le _ _) a7.len,fun b O=>a7.right b (List.mem_of_mem_eraseIdx O),fun ec b O ag=>?_⟩;have amf:b∈L:=List.mem_of_mem_eraseIdx (ay0 O);have a6:=VY G amf;rw[aC6] at O
  obtain⟨j,V,jR⟩: ∃j,L[j]? =some b/\((ec < k/\j=ec)\/(k<=ec/\j=ec+1)):=by
   split at O
   .exact⟨ec,O,.inl ⟨aD7,rfl⟩⟩
   .exact⟨ec+1,O,.inr ⟨aD7,rfl⟩⟩
  obtain⟨d3,cX⟩:=a7.Il j b V ag;obtain⟨q,a2⟩: ∃q:Nat,e5 L (dx b)=q:=⟨(e5 L (dx b)).toNat,aD7⟩
  have amg:q≠k:=fun e=>by
   subst e;have bM:=BY L (dx b);have bU:=BY L nm;rw[a2] at bM;rw[Z] at bU;obtain⟨x,hx⟩:=Iq (L:=L) (nm:=nm) aD7;rw[hx] at bU;rw[bU] at bM;have b1:=List.find?_some hx;have b2:=List.find?_some bM.symm;simp only[aw0] at b1 b2;exact a6 (b2.symm.trans b1)
  have U:e5 (L.eraseIdx k) (dx b)=((if q < k then q else q - 1:Nat):Int):=amd _ a2 amg;rw[U]
  split <;>omega
 .exact a7
end
section
def tq (n k:Nat):UInt8:=UInt8.ofNat (n/256 ^k % 256)
def f' (n:Nat):Nat->aH3
 |0=>[]
 |k+1=>tq n k::f' n k
def qY (n:Nat): ∀k,(f' n k).length=k
 |0=>rfl
 |k+1=>by simp[f',qY n k]
def V0 (n:Nat): ∀(k i:Nat),i < k->(f' n k)[i]? =some (tq n (k - 1 - i))
 |0,i,h=>by omega
 |k+1,0,h=>by simp[f']
 |k+1,i+1,h=>by
  simp only[f',aC4];rw[V0 n k i aD7]
  congr 2
  omega
def V1 (m k:Nat):UInt8.ofNat (((m:Nat):Int)/((2 ^(8*k):Nat):Int) % 256).toNat=tq m k:=by
 unfold tq;have h:(2:Nat) ^(8*k)=256 ^k:=by rw[Nat.pow_mul]
 rw[h]
 congr 1
abbrev W (w:Nat):Prop:=w=1\/w=2\/w=4
def Ob (w:Nat) (hw:W w):Fn prog 112 [ab (w:Nat)] [] [] (gb true) []:=by
 refine aP [] func112 ?_;refine⟨fun h=>?_,fun E=>?_⟩
 .exact bb
 refine⟨fun h=>?_,fun G=>?_⟩
 .exact bb
 refine⟨fun h=>?_,fun ah=>?_⟩
 .exact bb
 have E: ¬((w:Nat):Int)=1:=oj E;have G: ¬((w:Nat):Int)=2:=oj G;have ah: ¬((w:Nat):Int)=4:=oj ah;unfold W at hw;omega
def V2 (n w:Nat) (hw:W w) (hn:n < 256 ^w):Fn prog 171 [ab (n:Nat),ab (w:Nat)] [] [] (gb true) []:=by
 have ag:(2 ^(8*((w:Nat):Int)).toNat:Nat)=256 ^w/\256 ^w<=4294967296:=by
  rcases hw with rfl |rfl |rfl <;>decide
 refine aP [] func171 ?_;refine⟨fun h=>?_,fun E=>?_⟩
 .have h:((w:Nat):Int)=8:=gd h;unfold W at hw;omega
 refine⟨fun h=>?_,fun h=>at1 (show¬(0:Int)<=((n:Nat):Int) from oj h) aD7⟩;have ln:w<=4:=by unfold W at hw;omega
 refine⟨aD7,⟨aD7,aD7,aD7⟩,?_,?_⟩
 .rw[ag.1];omega
 refine⟨_,_,_,bn,rfl,au1 ?_,trivial,rfl⟩;show((n:Nat):Int) < 1*((2 ^(8*((w:Nat):Int)).toNat:Nat):Int);rw[ag.1];omega
def h4 (w:Nat) (l:aH4):aH3:=l.flatMap fun n=>f' n w
def xE (w:Nat) (l:aH4):(h4 w l).length=l.length*w:=by
 induction l with
 |nil=>simp[h4]
 |cons n l bk=>
  simp only[h4,aD0,as9,aw7,qY] at bk⊢;rw[bk,aA6];omega
def V3 (w:Nat) {l:aH4} {k:Nat} (h:k < l.length):h4 w (l.take (k+1))=h4 w (l.take k)++f' l[k] w:=by unfold h4;rw[<-v' h,List.flatMap_append];simp
def uG (l:aH4):List Int:=l.map Int.ofNat
abbrev wa (l:aH4):List (aa oL):=uG l
abbrev V4 (l:aH4) (w r k:Nat):aW:=[(0,dY r),(1,ab (w:Nat)),(2,bE oL (wa l)),(17,bE oL (wa l)),(18,ab (l.length:Nat)),(19,ab (k:Nat))]
abbrev V5 (l:aH4) (w r k:Nat):aW:=[(0,dY r),(1,ab (w:Nat)),(29,bE oL (wa l)),(30,ab (l.length:Nat)),(31,ab (k:Nat))]
abbrev Ir (l:aH4) (w r k n i:Nat):aW:=[(0,dY r),(1,ab (w:Nat)),(11,ab (n:Nat)),(29,bE oL (wa l)),(30,ab (l.length:Nat)),(31,ab (k:Nat)),(35,ab (w:Nat)),(36,ab (i:Nat))]
abbrev qa (r:Nat) (l:aH3):ay:=[(r,.row 5 .u8 l)]
def Is {l:aH4} {k:Nat} (h:k < l.length):eR (wa l) k=some ((l[k]:Nat):Int):=by show(uG l)[k]? =some _;unfold uG;rw[av1,as7 h];rfl
def V6 (xs ys:aH3) (n i:Nat) (w:Nat) (hi:i < w):(xs++(f' n w).take i)++[tq n (w - 1 - i)]=xs++(f' n w).take (i+1):=by
 have al:=qY n w;rw[aw8,<-v' (by omega:i < (f' n w).length)]
 congr 2
 have:=V0 n w i hi;rw[as7 aD7] at this;injection this with this
 rw[this]
def EI (xs:aH3) (w:Nat) (l:aH4) (hw:W w) (hf: ∀n,n∈l->n < 256 ^w) (al:l.length<=1000) (hx:xs.length<=1000000000):
  Fn prog 104 [dY 1001,ab (w:Nat),bE oL (wa l)] (qa 1001 xs) [1002] (.b4 [.one (.own 1002),.one (.d (.bool true))]) (qa 1002 (xs++h4 w l)):=by
 have ln:w<=4:=by unfold W at hw;omega
 have tk:List.length (wa l)=l.length:=show(uG l).length=_ by unfold uG;exact au3 _
 refine aP [] func104 ?_;refine av (Ob w hw) <| dh <| dZ [] (X:=Nat) (V4 l w 2001) (fun _=>qa 2001 xs) (fun k=>k<=l.length) (fun k=>l.length - k) 0 (at6 _) ?_ ?_
 .exact ac.trans (ac.aT 1001 2001 rfl) (ac.sub ⟨rfl,rfl,rfl,rfl,at2 Int.ofNat tk,rfl,trivial⟩ aA)
 intro k Z;refine⟨fun h=>?_,fun h=>?_⟩
 .have cd:k < l.length:=aE6
  exact⟨aD7,((l[k]:Nat):Int),Is cd,av (V2 l[k] w hw (hf _ (av5 cd))) <| dh ⟨aD7,k+1,cd,aD7,ac.sub aA aA⟩⟩
 clear h Z;refine dZ [] (X:=Nat) (V5 l w 2001) (fun k=>qa 2001 (xs++h4 w (l.take k))) (fun k=>k<=l.length) (fun k=>l.length - k) 0 (at6 _) ?_ ?_
 .exact ac.sub ⟨rfl,rfl,rfl,at2 Int.ofNat tk,rfl,trivial⟩ ⟨at2 (fun l=>some (a8.row _ .u8 l)) (av2 xs).symm,trivial⟩
 intro k Z;refine⟨fun h=>?_,fun h=>?_⟩
 .have cd:k < l.length:=aE6
  have aw:=V3 w cd;have hn:=hf _ (av5 cd);have bW:=xE w (l.take k);have Ke:(l.take k).length*w<=1000*4:=ay8 aF0 ln;refine⟨aD7,((l[k]:Nat):Int),Is cd,?_⟩;generalize l[k]=n at*;generalize h4 w (l.take k)=ys at*;have V7:n < 4294967296:=au8 hn (by rcases hw with rfl |rfl |rfl <;>decide);refine dZ [] (X:=Nat) (Ir l w 2001 k n) (fun i=>qa 2001 ((xs++ys)++(f' n w).take i)) (fun i=>i<=w) (fun i=>w - i) 0 (at6 _) ?_ ?_
  .exact ac.sub aA ⟨at2 (fun l=>some (a8.row _ .u8 l)) (av2 (xs++ys)).symm,trivial⟩
  intro i hi;refine⟨fun h=>?_,fun h=>?_⟩
  .have dc:i < w:=by
    have h:(i:Int) < (w:Int):=gd h;omega
   have af:(8*((w:Int) - 1 - (i:Int))).toNat=8*(w - 1 - i):=aE5
   have m1: -9223372036854775808<=(w:Int) - 1/\(w:Int) - 1<=9223372036854775807:=aE5
   have m2: -9223372036854775808<=(w:Int) - 1 - (i:Int)/\(w:Int) - 1 - (i:Int)<=9223372036854775807:=aE5
   have m3: -9223372036854775808<=8*((w:Int) - 1 - (i:Int))/\8*((w:Int) - 1 - (i:Int))<=9223372036854775807:=aE5
   have iu:0<=(n:Int)/\0<=8*((w:Int) - 1 - (i:Int))/\8*((w:Int) - 1 - (i:Int))<=64:=aE5
   refine⟨m1,m2,m3,iu,⟨Int.emod_nonneg _ aD8,Int.emod_lt_of_pos _ aD8⟩,?_,rfl,?_⟩
   .show((xs++ys)++(f' n w).take i).length+1<=4294967296;rw[as9,as9,at9];omega
   refine⟨aD7,i+1,dc,aD7,ac.trans (ac.sub (K':=Ir l w 49 k n (i+1)) (B':=qa 49 ((xs++ys)++(f' n w).take (i+1))) aA ⟨at2 (fun l=>some (a8.row _ .u8 l)) ?_,trivial⟩) (ac.aT 49 2001 rfl)⟩;rw[<-V6 (xs++ys) [] n i w dc,<-V1,<-af];rfl
  .have dc:i=w:=by
    have h: ¬(i:Int) < (w:Int):=oj h;omega
   subst dc;refine⟨aD7,k+1,cd,aD7,ac.sub aA ⟨?_,trivial⟩⟩;rw[aw,ax3 (by rw[qY];omega),aw8];rfl
 have cd:k=l.length:=by
     have: ¬k < l.length:=aE6
     omega
 subst cd;rw[av0];exact⟨_,_,_,ac.aT 2001 1002 rfl,rfl,aA,aA,rfl⟩
def V8 (w:Nat) (l:aH4) (hw:W w) (hf: ∀n,n∈l->n < 256 ^w) (al:l.length<=1000):
  Fn prog 104 [nw .dC,ab (w:Nat),bE oL (wa l)] [] [1002] (.b4 [.one (.own 1002),.one (.d (.bool true))]) (qa 1002 (h4 w l)):=by
 have ln:w<=4:=by unfold W at hw;omega
 have tk:List.length (wa l)=l.length:=show(uG l).length=_ by unfold uG;exact au3 _
 obtain⟨xs,sU⟩: ∃xs:aH3,xs=[]:=⟨_,rfl⟩;have hx:xs.length<=1000000000:=by rw[sU];decide
 rw[show h4 w l=xs++h4 w l by rw[sU];rfl];refine aP [] func104 ?_;refine av (Ob w hw) <| dh <| dZ [] (X:=Nat) (V4 l w 2001) (fun _=>qa 2001 xs) (fun k=>k<=l.length) (fun k=>l.length - k) 0 (at6 _) ?_ ?_
 .exact ac.trans (ac.nil 0 2001 5 .u8 rfl rfl) (ac.sub ⟨rfl,rfl,rfl,rfl,at2 Int.ofNat tk,rfl,trivial⟩ ⟨at2 (fun l=>some (a8.row _ .u8 l)) sU.symm,trivial⟩)
 intro k Z;refine⟨fun h=>?_,fun h=>?_⟩
 .have cd:k < l.length:=aE6
  exact⟨aD7,((l[k]:Nat):Int),Is cd,av (V2 l[k] w hw (hf _ (av5 cd))) <| dh ⟨aD7,k+1,cd,aD7,ac.sub aA aA⟩⟩
 clear h Z;refine dZ [] (X:=Nat) (V5 l w 2001) (fun k=>qa 2001 (xs++h4 w (l.take k))) (fun k=>k<=l.length) (fun k=>l.length - k) 0 (at6 _) ?_ ?_
 .exact ac.sub ⟨rfl,rfl,rfl,at2 Int.ofNat tk,rfl,trivial⟩ ⟨at2 (fun l=>some (a8.row _ .u8 l)) (av2 xs).symm,trivial⟩
 intro k Z;refine⟨fun h=>?_,fun h=>?_⟩
 .have cd:k < l.length:=aE6
  have aw:=V3 w cd;have hn:=hf _ (av5 cd);have bW:=xE w (l.take k);have Ke:(l.take k).length*w<=1000*4:=ay8 aF0 ln;refine⟨aD7,((l[k]:Nat):Int),Is cd,?_⟩;generalize l[k]=n at*;generalize h4 w (l.take k)=ys at*;have V7:n < 4294967296:=au8 hn (by rcases hw with rfl |rfl |rfl <;>decide);refine dZ [] (X:=Nat) (Ir l w 2001 k n) (fun i=>qa 2001 ((xs++ys)++(f' n w).take i)) (fun i=>i<=w) (fun i=>w - i) 0 (at6 _) ?_ ?_
  .exact ac.sub aA ⟨at2 (fun l=>some (a8.row _ .u8 l)) (av2 (xs++ys)).symm,trivial⟩
  intro i hi;refine⟨fun h=>?_,fun h=>?_⟩
  .have dc:i < w:=by
    have h:(i:Int) < (w:Int):=gd h;omega
   have af:(8*((w:Int) - 1 - (i:Int))).toNat=8*(w - 1 - i):=aE5
   have m1: -9223372036854775808<=(w:Int) - 1/\(w:Int) - 1<=9223372036854775807:=aE5
   have m2: -9223372036854775808<=(w:Int) - 1 - (i:Int)/\(w:Int) - 1 - (i:Int)<=9223372036854775807:=aE5
   have m3: -9223372036854775808<=8*((w:Int) - 1 - (i:Int))/\8*((w:Int) - 1 - (i:Int))<=9223372036854775807:=aE5
   have iu:0<=(n:Int)/\0<=8*((w:Int) - 1 - (i:Int))/\8*((w:Int) - 1 - (i:Int))<=64:=aE5
   refine⟨m1,m2,m3,iu,⟨Int.emod_nonneg _ aD8,Int.emod_lt_of_pos _ aD8⟩,?_,rfl,?_⟩
   .show((xs++ys)++(f' n w).take i).length+1<=4294967296;rw[as9,as9,at9];omega
   refine⟨aD7,i+1,dc,aD7,ac.trans (ac.sub (K':=Ir l w 49 k n (i+1)) (B':=qa 49 ((xs++ys)++(f' n w).take (i+1))) aA ⟨at2 (fun l=>some (a8.row _ .u8 l)) ?_,trivial⟩) (ac.aT 49 2001 rfl)⟩;rw[<-V6 (xs++ys) [] n i w dc,<-V1,<-af];rfl
  .have dc:i=w:=by
    have h: ¬(i:Int) < (w:Int):=oj h;omega
   subst dc;refine⟨aD7,k+1,cd,aD7,ac.sub aA ⟨?_,trivial⟩⟩;rw[aw,ax3 (by rw[qY];omega),aw8];rfl
 have cd:k=l.length:=by
     have: ¬k < l.length:=aE6
     omega
 subst cd;rw[av0];exact⟨_,_,_,ac.aT 2001 1002 rfl,rfl,aA,aA,rfl⟩
end
section
def ki (s:aH3) (w:Nat):aH3:=f' s.length w++s
def It (s:aH3) (w:Nat):(ki s w).length=w+s.length:=by unfold ki;rw[as9,qY]
def Oc (xs s:aH3) (w:Nat) (hw:W w) (aw:s.length < 256 ^w) (al:s.length<=1000000000) (hx:xs.length<=1000000000):
  Fn prog 154 [dY 1001,bN s,ab (w:Nat)] (qa 1001 xs) [1002] (.b4 [.one (.own 1002),.one (.d (.bool true))]) (qa 1002 (xs++ki s w)):=by
 have ln:w<=4:=by unfold W at hw;omega
 have zD:=xE w [s.length];refine aP [] func154 ?_;refine av (Fn.aT [(1002,2002)] (EI xs w [s.length] hw (fun n hn=>by simp only[au5] at hn;subst hn;exact aw) aD9 hx)) <| dh ⟨?_,rfl,?_⟩
 .show(xs++h4 w [s.length]).length+s.length<=4294967296;rw[as9,zD,List.length_singleton];omega
 refine⟨_,_,_,ac.aT 24 1002 rfl,rfl,aA,⟨at2 (fun l=>some (a8.row _ .u8 l)) ?_,trivial⟩,rfl⟩;show(xs++h4 w [s.length])++s=xs++ki s w;unfold h4 ki;simp
end
section
def k4 (p:kD):aH3:=f' (gn p).toNat 2++ki (mL p) 2
def kE (b:cb):aH3:=ki (er b) 1++ki (dx b) 1++f' (c7 b).toNat 1++f' (eB b).toNat 2++f' (cE b).length 2++(cE b).flatMap k4
def kF (L:aI5):aH3:=f' L.length 1++L.flatMap kE
structure xF (b:cb):Prop where
 nm:(er b).length<=255
 pa:(dx b).length<=255
 bits:0<=c7 b/\c7 b<=255
 aR:0<=eB b/\eB b<=65535
 V9:(cE b).length<=256
 V': ∀p,p∈cE b->0<=gn p/\gn p<=65535/\(mL p).length<=128
def Wa {b:cb} (h:xF b) {p:kD} (ag:p∈cE b):(k4 p).length<=132:=by have:=h.V' p ag;unfold k4;rw[as9,qY,It];omega
def EJ {α:Type} (f:α->aH3) (n:Nat): ∀(l:List α),(∀x,x∈l->(f x).length<=n)->(l.flatMap f).length<=l.length*n
 | [],_=>by simp
 |x::l,h=>by
  have E:=h x au7;have G:=EJ f n l fun y aD=>h y (at4 _ aD)
  simp only[aD0,as9,aw7,aA6];omega
def Wb {b:cb} (h:xF b):(kE b).length<=35000:=by
 have E:=EJ k4 132 (cE b) fun p ag=>Wa h ag
 have G:(cE b).length*132<=256*132:=az6 _ h.V9;have:=h.nm;have:=h.pa;unfold kE;simp only[as9,qY,It];omega
def Wc {α:Type} (f:α->aH3) {l:List α} {k:Nat} (h:k < l.length):(l.take (k+1)).flatMap f=(l.take k).flatMap f++f l[k]:=by rw[<-v' h,List.flatMap_append];simp
def Od {x:Int} (h:0<=x):([x]:aI7)=uG [x.toNat]:=by show[x]=[((x.toNat:Nat):Int)];rw[show((x.toNat:Nat):Int)=x by omega]
abbrev Wd (L:aI5) (r k:Nat):aW:=[(3,dY r),(22,dY 1002),(23,ab (L.length:Nat)),(24,ab (k:Nat))]
abbrev EK (L:aI5) (r:Nat) (l:aH3):ay:=(r,.row 5 .u8 l)::lu L
abbrev Oe (L:aI5) (b:cb) (r k j:Nat):aW:=[(3,dY r),(22,dY 1002),(23,ab (L.length:Nat)),(24,ab (k:Nat)),(62,bE oI (cE b)),(63,ab ((cE b).length:Nat)),(64,ab (j:Nat))]
def We (L:aI5) (cG:L.length<=255) (hw: ∀b,b∈L->xF b):Fn prog 94 [ap 1001] (lu L) [] (bE .u8 (kF L)) (lu L):=by
 refine aP [] func94 ?_;refine av (Fn.aT [(1002,2002)] (V8 1 [L.length] (.inl rfl) (fun n hn=>by simp only[au5] at hn;omega) aD9)) <| dZ [] (X:=Nat) (Wd L 2001) (fun k=>EK L 2001 (f' L.length 1++(L.take k).flatMap kE)) (fun k=>k<=L.length) (fun k=>L.length - k) 0 (at6 _) ?_ ?_
 .exact ac.trans (cz (Wd L 2002 0) (EK L 2002 (f' L.length 1++(L.take 0).flatMap kE))) (ac.aT 2002 2001 rfl)
 intro k Z
 have Mo:((L.take k).flatMap kE).length<=255*35000:=by
  refine ay1 (EJ kE 35000 _ fun b O=>Wb (hw b (List.mem_of_mem_take O))) (az6 _ ?_);rw[at9];omega
 refine⟨fun h=>?_,fun h=>?_⟩
 .have cd:k < L.length:=aE6
  have aw:=Wc kE cd;have O:=hw _ (av5 cd);refine⟨⟨aD7,aD7⟩,L[k],qV rfl cd,rfl,?_⟩;generalize L[k]=b at*;have E:=O.nm;have G:=O.pa;have ah:=O.bits;have aS:=O.aR;have bB:=O.V9;have vV:=qY L.length 1;generalize dO:f' L.length 1++(L.take k).flatMap kE=A at*;have asS:A.length<=9000000:=by rw[<-dO,as9,vV];omega
  refine av (Fn.aT [(1001,2001),(1002,2002)] (Oc A (er b) 1 (.inl rfl) aD7 aD7 aD7)) ?_;have kq:=It (er b) 1;refine av (Fn.aT [(1001,2002),(1002,2003)] (Oc (A++ki (er b) 1) (dx b) 1 (.inl rfl) aD7 aD7 (by rw[as9,kq];omega))) ?_;have hF:=It (dx b) 1;refine av (Fn.arg (Fn.aT [(1001,2003),(1002,2004)] (EI (A++ki (er b) 1++ki (dx b) 1) 1 [(c7 b).toNat] (.inl rfl) (fun n hn=>by simp only[au5] at hn;omega) aD9 (by rw[as9,as9,kq,hF];omega))) ⟨rfl,rfl,Od ah.1,trivial⟩) ?_;have ud:=xE 1 [(c7 b).toNat]
  have ao:([eB b,((cE b).length:Int)]:List Int)=uG [(eB b).toNat,(cE b).length]:=by
   show _=[(((eB b).toNat:Nat):Int),(((cE b).length:Nat):Int)];rw[show(((eB b).toNat:Nat):Int)=eB b by omega]
  refine⟨_,_,_,_,Fn.arg (Fn.aT [(1001,2004),(1002,2005)] (EI (A++ki (er b) 1++ki (dx b) 1++h4 1 [(c7 b).toNat]) 2 [(eB b).toNat,(cE b).length] (.inr (.inl rfl)) (fun n hn=>by
   simp only[at7,List.not_mem_nil,or_false] at hn;rcases hn with rfl |rfl <;>omega) aD9 (by rw[as9,as9,as9,kq,hF,ud];simp;omega))) ⟨rfl,rfl,ao,trivial⟩,aA,rfl,?_⟩
  have vr:=xE 2 [(eB b).toNat,(cE b).length]
  have aY:A++ki (er b) 1++ki (dx b) 1++h4 1 [(c7 b).toNat]++h4 2 [(eB b).toNat,(cE b).length]++(cE b).flatMap k4=A++kE b:=by
   unfold kE h4;simp[aw8]
  have asT:(A++ki (er b) 1++ki (dx b) 1++h4 1 [(c7 b).toNat]++h4 2 [(eB b).toNat,(cE b).length]).length<=9100000:=by
   rw[as9,as9,as9,as9,kq,hF,ud,vr];simp;omega
  generalize A++ki (er b) 1++ki (dx b) 1++h4 1 [(c7 b).toNat]++h4 2 [(eB b).toNat,(cE b).length]=BZ at*;refine dZ [] (X:=Nat) (Oe L b 2001 k) (fun j=>EK L 2001 (BZ++((cE b).take j).flatMap k4)) (fun j=>j<=(cE b).length) (fun j=>(cE b).length - j) 0 (at6 _) ?_ ?_
  .exact ac.trans (ac.sub (K':=Oe L b 2005 k 0) (B':=EK L 2005 (BZ++((cE b).take 0).flatMap k4)) aA ⟨at2 (fun l=>some (a8.row _ .u8 l)) (av2 BZ).symm,rfl,rfl,trivial⟩) (ac.aT 2005 2001 rfl)
  intro j V;refine⟨fun h=>?_,fun h=>?_⟩
  .have fb:j < (cE b).length:=aE6
   have fu:=Wc k4 fb;obtain⟨d3,cX,dJ⟩:=O.V' _ (av5 fb)
   have gX:(((cE b).take j).flatMap k4).length<=256*132:=by
    refine ay1 (EJ k4 132 _ fun p ag=>Wa O (List.mem_of_mem_take ag)) (az6 _ ?_);rw[at9];omega
   refine⟨aD7,(cE b)[j],qV rfl fb,rfl,?_⟩;generalize(cE b)[j]=p at*;generalize((cE b).take j).flatMap k4=Wf at*;refine av (Fn.arg (Fn.aT [(1001,2001),(1002,2002)] (EI (BZ++Wf) 2 [(gn p).toNat] (.inr (.inl rfl)) (fun n hn=>by simp only[au5] at hn;omega) aD9 (by rw[as9];omega))) ⟨rfl,rfl,Od d3,trivial⟩) ?_;have amh:=xE 2 [(gn p).toNat];refine av (Fn.aT [(1001,2002),(1002,2003)] (Oc (BZ++Wf++h4 2 [(gn p).toNat]) (mL p) 2 (.inr (.inl rfl)) aD7 aD7 (by rw[as9,as9,amh];simp;omega))) ⟨aD7,j+1,fb,aD7,ac.trans (ac.sub (K':=Oe L b 2003 k (j+1)) (B':=EK L 2003 (BZ++((cE b).take (j+1)).flatMap k4)) aA ⟨?_,rfl,rfl,trivial⟩) (ac.aT 2003 2001 rfl)⟩;rw[fu];refine at2 (fun l=>some (a8.row _ .u8 l)) ?_;unfold k4 h4;simp[aw8];rfl
  .have fb:j=(cE b).length:=by
      have: ¬j < (cE b).length:=aE6
      omega
   subst fb;rw[av0];refine⟨aD7,k+1,cd,aD7,ac.sub aA ⟨?_,rfl,rfl,trivial⟩⟩;rw[aw,<-aw8,dO,aY];rfl
 .have cd:k=L.length:=by
     have: ¬k < L.length:=aE6
     omega
  subst cd;exact⟨_,_,_,ac.dH 2001 rfl,rfl,(show f' L.length 1++(L.take L.length).flatMap kE=kF L by rw[av0];rfl),aA,rfl⟩
end
section
end
section
abbrev fF:Type:=aH3×Int
def mM (n:Nat) (st:fF):aH3:=if st.2≠0\/st.1.length < n then[] else st.1.take n
def nR (n:Nat) (st:fF):fF:=if st.2≠0 then st else if st.1.length < n then(st.1,10) else(st.1.drop n,0)
def oM (l:aH3):Nat:=l.foldl (fun a c=>a*256+c.toNat) 0
def Of (l:aH3) (c:UInt8):oM (l++[c])=oM l*256+c.toNat:=by simp[oM,aB9]
def Og (l:aH3):oM l < 256 ^l.length:=by
 have: ∀(l:aH3),oM l.reverse < 256 ^l.length:=fun l=>by
  induction l with
  |nil=>simp[oM]
  |cons c l bk=>
   rw[List.reverse_cons,Of,aw7,Nat.pow_succ];have:=c.toNat_lt;omega
 have h:=this l.reverse;simpa using h
def Wg (n:Nat) (st:fF):(mM n st).length<=n:=by
 unfold mM
 split
 .simp
 .rw[at9];omega
def fx (w:Nat) (st:fF):fF×Nat:=(nR w st,oM (mM w st))
def qZ (w:Nat) (st:fF):fF×aH3:=(nR (fx w st).2 (fx w st).1,mM (fx w st).2 (fx w st).1)
abbrev qb (st:fF):ay:=[(1001,.cells [.d (.b' .u8 st.1),.d (.int .i64 st.2)])]
def Wh (b:aH3) (O:b.length<=4294967296):Fn prog 52 [bE .u8 b] [] [1001] (ap 1001) (qb (b,0)):=by
 refine aP [] func52 ?_;refine⟨rfl,?_,rfl,?_⟩
 .show 0+b.length<=4294967296;omega
 exact⟨rfl,_,_,_,ac.trans (ac.dH 5 rfl) (ac.aT 7 1001 rfl),rfl,rfl,aA,rfl⟩
def ami (s:aH3) (e k:Int):Fn prog 175 [ab k,ap 1002] [(1001,.cells [.d (.b' .u8 s),.d (.int .i64 e)]),(1002,.cells [.ptr 1001 0])] [] (bE .u8 []) [(1001,.cells [.d (.b' .u8 s),.d (.int .i64 (if e=0 then k else e))]),(1002,.cells [.ptr 1001 0])]:=by
 refine aP [] func175 ?_;refine⟨fun h=>?_,fun h=>?_⟩
 .rw[vj (show e=0 from gd h)];exact bb
 .rw[mu (show¬e=0 from oj h)];exact bb
def Wi (st:fF) (n:Nat):Fn prog 111 [ap 1001,ab (n:Nat),gb false] (qb st) [] (bE .u8 (mM n st)) (qb (nR n st)):=by
 obtain⟨s,e⟩:=st;refine aP [] func111 ?_;refine⟨rfl,fun h=>?_,fun E=>?_⟩
 .have h:(!decide (e=0))=true:=h;have U: ¬e=0:=aE6
  have hx:mM n (s,e)=[]:=by unfold mM;rw[vj (.inl U)]
  have aw:nR n (s,e)=(s,e):=by unfold nR;rw[vj U]
  rw[hx,aw];exact bb
 have E:(!decide (e=0))=false:=E;have U:e=0:=aG9
 subst U;refine dh ⟨fun h=>?_,fun h=>?_⟩
 .have h:(s.length:Int) < (n:Int):=gd h;have hx:mM n (s,0)=[]:=by unfold mM;rw[vj (.inr (by show s.length < n;omega))]
  have aw:nR n (s,0)=(s,10):=by unfold nR;rw[mu aD9,vj (by show s.length < n;omega)]
  rw[hx,aw];exact av (Fn.aT [(1002,3)] (ami s 0 10)) bb
 .have h: ¬(s.length:Int) < (n:Int):=oj h
  have hx:mM n (s,0)=s.take n:=by
   unfold mM;rw[mu aF5]
  have aw:nR n (s,0)=(s.drop n,0):=by unfold nR;rw[mu aD9,mu (by show¬s.length < n;omega)]
  rw[hx,aw];have m1:0<=(n:Int)/\(n:Int)<=(s.length:Int):=aE5
  refine⟨m1,m1,rfl,_,_,_,bn,rfl,rfl,⟨at2 (fun l:aH3=>some (a8.cells [bA.d (D.b' bz.u8 l),bA.d (D.int IntKind.i64 0)])) ?_,trivial⟩,rfl⟩;show(List.take s.length s).drop ((n:Int)).toNat=s.drop n;rw[av0];rfl
def amj (a:Nat) (c:UInt8):(a*256) ||| c.toNat=a*256+c.toNat:=by have h:c.toNat < 2 ^8:=c.toNat_lt;have:=Nat.shiftLeft_add_eq_or_of_lt h a;rw[Nat.shiftLeft_eq] at this;exact this.symm
def wb (st:fF) (w:Nat) (hw:W w):Fn prog 54 [ap 1001,ab (w:Nat)] (qb st) [] (ab ((fx w st).2:Nat)) (qb (fx w st).1):=by
 have ln:w<=4:=by unfold W at hw;omega
 have al:=Wg w st;have cq:=Wi st w;show Fn _ _ _ _ _ (ab ((oM (mM w st):Nat):Int)) (qb (nR w st));generalize mM w st=x at*;generalize nR w st=Oh at*;have amk:oM x < 4294967296:=au8 (Og x) (ay1 (aB0 aD8 (show x.length<=4 by omega)) aD8);refine aP [] func54 ?_;refine av (Ob w hw) <| av cq ⟨fun h=>at1 (show(x.length:Int)=8 from gd h) aD7,fun _=>dZ [] (X:=Nat) (fun i=>[(5,ab ((oM (x.take i):Nat):Int)),(27,bE .u8 x),(28,ab (x.length:Nat)),(29,ab (i:Nat))]) (fun _=>qb Oh) (fun i=>i<=x.length) (fun i=>x.length - i) 0 (at6 _) ?_ ?_⟩
 .exact ac.sub aA aA
 intro i hi;refine⟨fun h=>?_,fun h=>?_⟩
 .have dc:i < x.length:=by
   have h:(i:Int) < (x.length:Int):=gd h;omega
  have aw:oM (x.take (i+1))=oM (x.take i)*256+(x[i]).toNat:=by rw[<-v' dc,Of]
  have iq:=Og (x.take i);have xt:256 ^(x.take i).length<=256 ^3:=aB0 aD8 aF0;have J:=(x[i]).toNat_lt;refine⟨aD7,x[i],qV rfl dc,?_⟩;generalize x[i]=c at*;generalize oM (x.take i)=a at*;have Oi:=amj a c
  have af:((a:Int)*((2 ^(8:Int).toNat:Nat):Int)).toNat=a*256:=by
   show((a:Int)*256).toNat=_;omega
  have m1:0<=(a:Int)/\(0:Int)<=8/\(8:Int)<=64:=aE5
  have m2: -9223372036854775808<=(a:Int)*((2 ^(8:Int).toNat:Nat):Int)/\(a:Int)*((2 ^(8:Int).toNat:Nat):Int)<=9223372036854775807:=by
   show -9223372036854775808<=(a:Int)*256/\(a:Int)*256<=9223372036854775807;omega
  have m3: -9223372036854775808<=(c.toNat:Int)/\(c.toNat:Int)<=9223372036854775807:=aE5
  have iu:0<=(a:Int)*((2 ^(8:Int).toNat:Nat):Int)/\(a:Int)*((2 ^(8:Int).toNat:Nat):Int)<=9223372036854775807/\0<=(c.toNat:Int)/\(c.toNat:Int)<=9223372036854775807:=by
   show 0<=(a:Int)*256/\(a:Int)*256<=9223372036854775807/\_;omega
  refine⟨m1,m2,m3,iu,aD7,i+1,dc,aD7,ac.sub ⟨?_,rfl,rfl,rfl,trivial⟩ aA⟩;show(((((a:Int)*((2 ^(8:Int).toNat:Nat):Int)).toNat ||| ((c.toNat:Int)).toNat:Nat)):Int)=((oM (x.take (i+1)):Nat):Int);rw[aw,af,az8,Oi]
 .have dc:i=x.length:=by
   have h: ¬(i:Int) < (x.length:Int):=oj h;omega
  subst dc;exact ea bn rfl (show((oM (x.take x.length):Nat):Int)=_ by rw[av0])
def Oj (st:fF) (w:Nat) (hw:W w):Fn prog 55 [ap 1001,ab (w:Nat)] (qb st) [] (bN (qZ w st).2) (qb (qZ w st).1):=by have E:=wb st w hw;have G:=Wi (fx w st).1 (fx w st).2;show Fn _ _ _ _ _ (bN (mM (fx w st).2 (fx w st).1)) (qb (nR (fx w st).2 (fx w st).1));generalize(fx w st).2=n at*;generalize(fx w st).1=EL at*;generalize mM n EL=x at*;generalize nR n EL=aml at*;refine aP [] func55 ?_;exact av E <| av (Fn.arg G aA) bb
def amm (st:fF):Fn prog 56 [ap 1001] (qb st) [] (ab st.2) (qb st):=by refine aP [] func56 ?_;exact bb
def sd (st:fF):Int:=if st.2=0/\0 < st.1.length then 11 else st.2
def amn (st:fF):Fn prog 106 [ap 1001] (qb st) [] (ab (sd st)) (qb st):=by
 obtain⟨s,e⟩:=st;refine aP [] func106 ?_;refine⟨fun h=>?_,fun h=>?_⟩
 .have U:e=0:=gd h;refine⟨fun h=>?_,fun h=>?_⟩
  .have h:(0:Int) < (s.length:Int):=gd h;have:sd (s,e)=11:=by unfold sd;rw[vj ⟨U,by show 0 < s.length;omega⟩]
   rw[this];exact bb
  .have h: ¬(0:Int) < (s.length:Int):=oj h;have:sd (s,e)=e:=by unfold sd;rw[mu (fun bd=>by have G:0 < s.length:=bd.2;omega)]
   rw[this];exact bb
 .have U: ¬e=0:=oj h;have:sd (s,e)=e:=by unfold sd;rw[mu (fun bd=>U bd.1)]
  rw[this];exact bb
end
section
end
section
def Wj (n:Nat): ∀k,f' n (k+1)=f' (n/256) k++[tq n 0]
 |0=>rfl
 |k+1=>by
  show tq n (k+1)::f' n (k+1)=tq (n/256) k::f' (n/256) k++[tq n 0];rw[Wj n k,List.cons_append]
  congr 1
  unfold tq;rw[Nat.div_div_eq_div_mul,Nat.pow_succ,aB7 256]
def amo (n:Nat): ∀k,n < 256 ^k->oM (f' n k)=n:=by
 intro k
 induction k generalizing n with
 |zero=>intro h;simp at h;subst h;rfl
 |succ k bk=>
  intro h;rw[Wj,Of,bk (n/256) (by rw[Nat.pow_succ] at h;omega)];unfold tq;rw[Nat.pow_zero,Nat.div_one,UInt8.toNat_ofNat'];omega
def Wk (x t:aH3):nR x.length (x++t,0)=(t,0)/\mM x.length (x++t,0)=x:=by unfold nR mM;rw[mu aD9,mu aD9,mu aD9];exact⟨aD9,aD9⟩
def B0 {n w:Nat} (h:n < 256 ^w) (t:aH3):fx w (f' n w++t,0)=((t,0),n):=by have:=Wk (f' n w) t;rw[qY] at this;unfold fx;rw[this.1,this.2,amo n w h]
def Ok {w:Nat} {x:aH3} (h:x.length < 256 ^w) (t:aH3):qZ w (ki x w++t,0)=((t,0),x):=by
 have E:fx w (ki x w++t,0)=((x++t,0),x.length):=by
  unfold ki;rw[aw8];exact B0 h _
 have:=Wk x t;unfold qZ;rw[E];simp only;rw[this.1,this.2]
def wc (st:fF):fF×xD:=((qZ 2 (fx 2 st).1).1,(((fx 2 st).2:Int),(qZ 2 (fx 2 st).1).2))
def hj (st:fF):Nat->fF×List xD
 |0=>(st,[])
 |k+1=>((wc (hj st k).1).1,(hj st k).2++[(wc (hj st k).1).2])
def E (st:fF):=qZ 1 st
def G (st:fF):=qZ 1 (E st).1
def ah (st:fF):=fx 1 (G st).1
def aS (st:fF):=fx 2 (ah st).1
def bB (st:fF):=fx 2 (aS st).1
def Wl (st:fF) (l:List xD):nj:=((E st).2,(G st).2,((ah st).2:Int),((aS st).2:Int),l)
def kj (st:fF):fF×nj:=((hj (bB st).1 (bB st).2).1,Wl st (hj (bB st).1 (bB st).2).2)
def oN (mf:fF):Nat->Option (List nj×fF)
 |0=>some ([],mf)
 |k+1=>match oN mf k with
  |none=>none
  |some (l,st)=>if(kj st).1.2=0/\gJ (l.map jY) (jY (kj st).2)=0 then some (l++[(kj st).2],(kj st).1) else none
def zE (s:aH3):Option (List nj):=match oN (fx 1 (s,0)).1 (fx 1 (s,0)).2 with
 |none=>none
 |some (l,st)=>if sd st=0 then some l else none
def Iu {L:aI5} (a7:oK L) {b:cb} (O:b∈L):xF b:=by
 have nm: ∀x,x∈L->(er x).length<=15:=fun x hx=>by
  have:=a7.right x hx;simp only[hv,gZ,as8,aw0] at this;omega
 have aj:=a7.right b O;obtain⟨bM,bU,a3,a4⟩:=EF aj;have a5:=amb aj;have fj:=VN aj;refine⟨by have:=nm b O;omega,?_,aD7,aD7,fj,fun p ag=>?_⟩
 .by_cases ag:dx b=[]
  .rw[ag];decide
  .obtain⟨x,hx⟩:=Iq (ama a7 O ag);have E:=List.find?_some hx;simp only[aw0] at E;have:=nm x (aD3 hx);rw[E] at this;omega
 .have:=amc aj p ag;omega
end
section
def Iv (n:Nat) (st:fF):(nR n st).1.length<=st.1.length:=by
 unfold nR
 split
 .exact at0 _
 .split
  .exact at0 _
  .rw[ax8];omega
def amp (n:Nat) (st:fF):(mM n st).length<=st.1.length:=by
 unfold mM
 split
 .simp
 .rw[at9];omega
def EM (w:Nat) (st:fF):(fx w st).1.1.length<=st.1.length:=Iv w st
def Ol (w:Nat) (st:fF):(qZ w st).1.1.length<=st.1.length/\(qZ w st).2.length<=st.1.length:=
 ⟨ay1 (Iv _ _) (Iv w st),ay1 (amp _ _) (Iv w st)⟩
def Iw (w:Nat) (hw:w<=4) (st:fF):(fx w st).2 < 256 ^w:=
 au8 (Og _) (aB0 aD8 (Wg w st))
def Wm (st:fF):(wc st).1.1.length<=st.1.length/\(EG (wc st).2).length<=st.1.length:=by have a:=EM 2 st;have b:=Ol 2 (fx 2 st).1;exact⟨ay1 b.1 a,ay1 b.2 a⟩
def Wn (st:fF): ∀k,(hj st k).1.1.length<=st.1.length/\(hj st k).2.length=k/\ ∀p,p∈(hj st k).2->(EG p).length<=st.1.length
 |0=>⟨at0 _,rfl,fun p ag=>by cases ag⟩
 |k+1=>by
  obtain⟨bM,bU,a3⟩:=Wn st k;obtain⟨b1,b2⟩:=Wm (hj st k).1;refine⟨ay1 b1 bM,by show((hj st k).2++[_]).length=_;rw[as9,bU];rfl,fun p ag=>?_⟩;rcases av9.1 ag with ag |ag
  .exact a3 p ag
  .simp only[au5] at ag;subst ag;exact ay1 b2 bM
def amq (st:fF):(E st).1.1.length<=st.1.length/\(G st).1.1.length<=st.1.length/\(ah st).1.1.length<=st.1.length/\(aS st).1.1.length<=st.1.length/\(bB st).1.1.length<=st.1.length/\(E st).2.length<=st.1.length/\(G st).2.length<=st.1.length:=by have a:=Ol 1 st;have b:=Ol 1 (E st).1;have c:=EM 1 (G st).1;have d:=EM 2 (ah st).1;have e:=EM 2 (aS st).1;have bM:(E st).1.1.length<=st.1.length:=a.1;have b1:(G st).1.1.length<=(E st).1.1.length:=b.1;have cu:(ah st).1.1.length<=(G st).1.1.length:=c;have g9:(aS st).1.1.length<=(ah st).1.1.length:=d;have af:(bB st).1.1.length<=(aS st).1.1.length:=e;refine⟨bM,aD7,aD7,aD7,aD7,a.2,?_⟩;have:(G st).2.length<=(E st).1.1.length:=b.2;omega
def amr {mf:fF} {k:Nat} (h:oN mf k=none): ∀{m:Nat},k<=m->oN mf m=none:=by
 intro m aC
 induction m with
 |zero=>
    obtain rfl:k=0:=aE5
    exact h
 |succ m bk=>
  rcases aB8 k (m+1) with E |E
  .unfold oN;rw[bk aD7]
  .obtain rfl:k=m+1:=aE5
   exact h
def ams {s:aH3} {k:Nat} (Z:k<=(fx 1 (s,0)).2) (h:oN (fx 1 (s,0)).1 k=none):zE s=none:=by unfold zE;rw[amr h Z]
def Wo {mf:fF} {k:Nat} {l:List nj} {st:fF} (h:oN mf k=some (l,st)) (bd: ¬((kj st).1.2=0/\gJ (l.map jY) (jY (kj st).2)=0)):oN mf (k+1)=none:=by unfold oN;rw[h];exact mu bd
def Wp {mf:fF} {k:Nat} {l:List nj} {st:fF} (h:oN mf k=some (l,st)) (E:(kj st).1.2=0) (G:gJ (l.map jY) (jY (kj st).2)=0):oN mf (k+1)=some (l++[(kj st).2],(kj st).1):=by
 conv=>lhs;unfold oN
 rw[h];exact vj ⟨E,G⟩
abbrev Om (st:fF):Nat×a8:=(2001,.cells [.d (.b' .u8 st.1),.d (.int .i64 st.2)])
abbrev Wq (n k:Nat):aW:=[(4,ap 1001),(5,ap 2001),(11,ab (n:Nat)),(12,ab (k:Nat))]
abbrev amt (l:List nj) (st:fF):ay:=Om st::N' 1002 (l.map jY)
abbrev On (n k m j:Nat):aW:=[(4,ap 1001),(5,ap 2001),(6,ap 6),(11,ab (n:Nat)),(12,ab (k:Nat)),(24,ab (m:Nat)),(25,ab (j:Nat))]
abbrev Hq (st:fF):List bA:=[.d (.str (E st).2),.d (.str (G st).2),.d (.int .i64 ((ah st).2:Nat)),.d (.int .i64 ((aS st).2:Nat))]
abbrev Oo (l:List nj) (mf st:fF) (r:Nat) (bF:List kD):ay:=(r,.row 128 oI bF)::(6,.cells [.d (.str (E mf).2),.d (.str (G mf).2),.d (.int .i64 ((ah mf).2:Nat)),.d (.int .i64 ((aS mf).2:Nat)),.own r])::Om st::N' 1002 (l.map jY)
def amu:aN:=.b4 [.one (.bK (.pointer none)),.one (.d (.int .i64 180))]
def amv:aN:=.b4 [.one (.ptr 1001 0),.one (.d (.int .i64 0))]
def amw (s:aH3) (aw:s.length<=100000000) (d:Option (List nj)) (H:zE s=d):
  match d with
  |some l=>Fn prog 93 [bE .u8 s] [] [1001,1002] amv (lu (l.map jY))
  |none=>Fn prog 93 [bE .u8 s] [] [] amu []:=by
 cases d
 all_goals
  simp only;refine aP [10] func93 ?_;refine av VG <| av (Fn.aT [(1001,2001)] (Wh s aD7)) <| av (Fn.aT [(1001,2001)] (wb (s,0) 1 (.inl rfl))) ?_;have nF:=EM 1 (s,0);have kT:=Iw 1 aD8 (s,0);have AR:=fun k h=>ams (s:=s) (k:=k) h
  have amx: ∀l st,oN (fx 1 (s,0)).1 (fx 1 (s,0)).2=some (l,st)->zE s=if sd st=0 then some l else none:=fun l st h=>by unfold zE;rw[h]
  generalize(fx 1 (s,0)).2=n at*;generalize(fx 1 (s,0)).1=mf at*;have nF:mf.1.length<=100000000:=ay1 nF aw;have kT:n < 256:=by simpa using kT
  refine dZ [10] (X:=Nat×List nj×fF) (fun x=>Wq n x.1) (fun x=>amt x.2.1 x.2.2) (fun x=>x.1<=n/\oN mf x.1=some (x.2.1,x.2.2)/\x.2.2.1.length<=100000000/\(x.2.1.map jY).length<=64) (fun x=>n - x.1) (0,[],mf) ⟨at6 _,rfl,nF,aD9⟩ ?_ ?_
  .exact ac.sub aA aA
  rintro⟨k,l,st⟩ ⟨Z,jw,ir,ll⟩;simp only at Z jw ir ll;refine⟨fun h=>?_,fun h=>?_⟩
  .have cd:k < n:=by
    have h:(k:Int) < (n:Int):=gd h;omega
   obtain⟨bM,bU,a3,a4,a5,fj,ru⟩:=amq st;have aC:=Iw 2 aD8 (aS st).1;have aC:(bB st).2 < 65536:=aC;have fD:=Iw 1 aD8 (G st).1;have uz:=Iw 2 aD8 (ah st).1;refine av (Fn.aT [(1001,2001)] (Oj st 1 (.inl rfl))) <| av (Fn.aT [(1001,2001)] (Oj (E st).1 1 (.inl rfl))) <| av (Fn.aT [(1001,2001)] (wb (G st).1 1 (.inl rfl))) <| av (Fn.aT [(1001,2001)] (wb (ah st).1 2 (.inr (.inl rfl)))) ⟨rfl,av (Fn.aT [(1001,2001)] (wb (aS st).1 2 (.inr (.inl rfl)))) <| dZ [10] (X:=Nat) (fun j=>On n k (bB st).2 j) (fun j=>Oo l st (hj (bB st).1 j).1 2002 ((hj (bB st).1 j).2.map tp)) (fun j=>j<=(bB st).2) (fun j=>(bB st).2 - j) 0 (at6 _) ?_ ?_⟩
   .exact ac.trans (ac.AC 6 4 2002 128 oI rfl rfl rfl) (ac.sub aA aA)
   intro j V;obtain⟨b1,b2,b3⟩:=Wn (bB st).1 j;refine⟨fun h=>?_,fun h=>?_⟩
   .have fb:j < (bB st).2:=by
     have h:(j:Int) < ((bB st).2:Int):=gd h;omega
    have bl:=Wm (hj (bB st).1 j).1;have v6:(hj (bB st).1 (j+1)).1=(wc (hj (bB st).1 j).1).1:=rfl
    have amy:(hj (bB st).1 (j+1)).2.map tp=(hj (bB st).1 j).2.map tp++[tp (wc (hj (bB st).1 j).1).2]:=by
     show((hj (bB st).1 j).2++[_]).map tp=_;rw[ay6];rfl
    have fO:(qZ 2 (fx 2 (hj (bB st).1 j).1).1).2.length<=4294967296:=by
     have:(EG (wc (hj (bB st).1 j).1).2).length<=(hj (bB st).1 j).1.1.length:=bl.2;have this:(qZ 2 (fx 2 (hj (bB st).1 j).1).1).2.length<=(hj (bB st).1 j).1.1.length:=this;omega
    refine av (Fn.aT [(1001,2001)] (wb (hj (bB st).1 j).1 2 (.inr (.inl rfl)))) <| av (Fn.aT [(1001,2001)] (Oj (fx 2 (hj (bB st).1 j).1).1 2 (.inr (.inl rfl)))) ⟨fO,?_,rfl,rfl,?_⟩
    .show((hj (bB st).1 j).2.map tp).length+1<=4294967296;rw[au3,b2];omega
    refine⟨aD7,j+1,fb,aD7,ac.trans (ac.sub (K':=On n k (bB st).2 (j+1)) (B':=Oo l st (hj (bB st).1 (j+1)).1 36 ((hj (bB st).1 (j+1)).2.map tp)) aA ⟨?_,rfl,rfl,rfl,rfl,trivial⟩) (ac.aT 36 2002 rfl)⟩;rw[amy];rfl
   .have fb:j=(bB st).2:=by
     have h: ¬(j:Int) < ((bB st).2:Int):=oj h;omega
    subst fb;refine bw [] (ac.trans (cz (On n k (bB st).2 (bB st).2) (Oo l st (hj (bB st).1 (bB st).2).1 2002 ((hj (bB st).1 (bB st).2).2.map tp))) (ac.dH 2002 rfl)) <| av (Fn.aT [(1001,2001)] (amm (hj (bB st).1 (bB st).2).1)) ⟨fun h=>?_,fun h=>?_⟩
    .have h:(!decide ((kj st).1.2=0))=true:=h;have zF:=AR (k+1) cd (Wo jw (fun bd=>by rw[bd.1] at h;cases h))
     first
      |(have Wr:=H.symm.trans zF;contradiction)
      |exact bb
    have h:(!decide ((kj st).1.2=0))=false:=h;have U:(kj st).1.2=0:=aE6
    have qW:=N5 (l.map jY) (jY (kj st).2) aD7 (show(E st).2.length<=4294967296 by omega) (by
     show((hj (bB st).1 (bB st).2).2.map tp).length<=1000000
     rw[au3,b2];omega) (fun p ag=>by
     obtain⟨q,a2,rfl⟩:=av7.1 ag;have:=b3 q a2;show(EG q).length<=4294967296;omega)
    refine av qW ⟨fun h=>?_,fun h=>?_⟩
    .have h:(!decide (gJ (l.map jY) (jY (kj st).2)=0))=true:=h;have zF:=AR (k+1) cd (Wo jw (fun bd=>by rw[bd.2] at h;cases h))
     first
      |(have Wr:=H.symm.trans zF;contradiction)
      |exact bb
    .have h:(!decide (gJ (l.map jY) (jY (kj st).2)=0))=false:=h;have dO:gJ (l.map jY) (jY (kj st).2)=0:=aE6
     have amz:(l++[(kj st).2]).map jY=g5 (l.map jY) (jY (kj st).2):=by
      unfold g5;rw[vj dO,ay6];rfl
     refine⟨aD7,(k+1,l++[(kj st).2],(kj st).1),⟨cd,Wp jw U dO,?_,?_⟩,?_,?_⟩
     .show(hj (bB st).1 (bB st).2).1.1.length<=100000000;omega
     .have:=(N9 dO).2.2.1;simp only[au3,as9,List.length_singleton] at this⊢;omega
     .simp only;omega
     .refine ac.trans (ac.sub (K':=Wq n (k+1)) (B':=Om (kj st).1::N' 1003 ((l++[(kj st).2]).map jY)) aA ⟨rfl,rfl,?_,trivial⟩) (ac.aT 1003 1002 rfl);rw[amz];rfl
  .have cd:k=n:=by
    have h: ¬(k:Int) < (n:Int):=oj h;omega
   subst cd;have aj:=amx l st jw;refine av (Fn.aT [(1001,2001)] (amn st)) ⟨fun h=>?_,fun h=>?_⟩
   .have h:(!decide (sd st=0))=true:=h;rw[mu aE6] at aj
    first
     |(have Wr:=H.symm.trans aj;contradiction)
     |exact bb
   .have h:(!decide (sd st=0))=false:=h;rw[vj aE6] at aj
    first
     |(rw[H] at aj;injection aj with aj;subst aj;exact⟨_,_,_,bn,rfl,aA,aA,rfl⟩)
     |(rw[H] at aj;cases aj)
end
section
end
section
section
variable {P:aI0} {ids:aH4} {K:aW} {B:ay}
end
def qc (es:aH5) (aH:Int):Bool:=zo ((bX (aF:=aq) (aJ:=aq) es aH).getD (cO aq))
def Oq (es:aH5) (aH:Int):Nat->Nat
 |0=>0
 |k+1=>if qc es (aH+(k:Int))=true then Oq es aH k ||| 2 ^k else Oq es aH k
def Ws (es:aH5):Nat->aH3
 |0=>[]
 |n+1=>Ws es n++[UInt8.ofNat (Oq es (8*(n:Int)) 8)]
def wd (s g:Int):Nat:=((pr s g+7)/8).toNat
def amA {s g:Int} (aw:0<=s/\s<=4096) (aV:1<=g/\g<=64):pr s g<=8*(wd s g:Int)/\(8*(wd s g:Int) < pr s g+8)/\wd s g<=521:=by have h:=Ez aw aV;unfold wd;omega
def amB (s g:Int):aH3:=h4 2 [s.toNat]++h4 1 [g.toNat]
def encZ (s g:Int) (es:aH5):aH3:=amB s g++Ws es (wd s g)
def xG (es:aH5):Nat->List (aa aq×aa aq)
 |0=>[]
 |n+1=>if qc es (n:Int)=true then dp (aF:=aq) (aJ:=aq) (xG es n) (n:Int) (1:Int) else xG es n
def mg (s g:Int) (es:aH5):Prop:= ∀aH,qc es aH=true->0<=aH/\aH < pr s g
end
section
def Wt (es:aH5): ∀(n:Nat) (aH:Int),bX (aF:=aq) (aJ:=aq) (xG es n) aH=if(0<=aH/\aH < (n:Int))/\qc es aH=true then some (1:Int) else none
 |0,aH=>by
  rw[mu aD7];rfl
 |n+1,aH=>by
  have h:=Wt es n aH;unfold xG
  by_cases ag:qc es (n:Int)=true
  .rw[vj ag];obtain⟨d3,cX⟩:=yR (aF:=aq) (aJ:=aq) rL (n:Int) (1:Int) (xG es n)
   by_cases e:aH=(n:Int)
   .subst e;rw[vj ⟨aD7,ag⟩];exact d3
   .rw[cX aH e,h]
    by_cases q:(0<=aH/\aH < (n:Int))/\qc es aH=true
    .rw[vj q,vj ⟨aD7,q.2⟩]
    .rw[mu q,mu (fun bd=>q ⟨aD7,bd.2⟩)]
  .rw[mu ag,h]
   by_cases q:(0<=aH/\aH < (n:Int))/\qc es aH=true
   .rw[vj q,vj ⟨aD7,q.2⟩]
   .rw[mu q,mu (fun bd=>by
     by_cases e:aH=(n:Int)
     .subst e;exact ag bd.2
     .exact q ⟨aD7,bd.2⟩)]
def amC {s g:Int} (aw:0<=s/\s<=4096) (aV:1<=g/\g<=64) {es:aH5} (a7:mg s g es) (aH:Int):qc (xG es (8*wd s g)) aH=qc es aH:=by
 have eM:=amA aw aV;have h:=Wt es (8*wd s g) aH;have aM:=a7 aH;show zo ((bX (aF:=aq) (aJ:=aq) (xG es (8*wd s g)) aH).getD (cO aq))=_;rw[h]
 cases ag:qc es aH
 .rw[mu (fun bd=>by cases bd.2)];rfl
 .have aM:=aM ag;rw[vj ⟨aD7,rfl⟩];rfl
end
section
def Ot (l:aI1):List bh:=(nQ l).filterMap (dE l)
def amD {l:aI1} {e:bh} (h:e∈Ot l):e∈l:=by obtain⟨nm,_,G⟩:=List.mem_filterMap.1 h;exact(lR G).1
abbrev Wu:Type:=aH3×Bool×Bool×Int×Int×List (aa aq×aa aq)
def B1 (e:bh):Wu:=(e.nm,e.on,e.us,e.s,e.g,e.es)
def Ix (e:bh):Wu:=(e.nm,e.on,false,e.s,e.g,xG e.es (8*wd e.s e.g))
end
section
abbrev g6:bz:=.arr 16 .u8
abbrev uH:bz:=.bV (.int .i64) g6
structure cN where
 n:Int
 R:Int
 we:List (aa aq×aa g6)
 ca:List (aa aq×aa g6)
 jy:List (aa uH)
abbrev jF (c d e f:Nat) (m:cN):ay:=[(c,.cells [.d (.int .i64 m.n),.d (.int .i64 m.R),.mp d,.mp e,.own f]),(d,.map aq g6 m.we),(e,.map aq g6 m.ca),(f,.row 303 uH m.jy)]
def hP (m:cN):bc:=.iQ 1001 (jF 1001 1002 1003 1004 m)
def se (n:Int):Bool:=decide (0<=n)&&decide (n<=4096)
def amE (n:Int):Fn prog 275 [ab n] [] [] (gb (se n)) []:=by
 refine aP [] func275 ?_;refine⟨fun h=>?_,fun h=>?_⟩
 .exact ea bn rfl (show decide (n<=4096)=se n by simp at h;simp[se,h])
 .exact ea bn rfl (show false=se n by simp at h;simp[se];omega)
def amF (n r:Int) (h:(se n&&decide (0<=r))=true):Fn prog 250 [ab n,ab r] [] [1001] (.b4 [.one (.ptr 1001 0),dw 0]) [(1001,.az (hP ⟨n,r,[],[],[]⟩))]:=by
 refine aP [] func250 ?_;refine av (amE n) ?_;simp only[as8,aw0] at h;refine⟨fun E=>?_,fun E=>?_⟩
 .exfalso;simp[h.1] at E
 refine⟨fun G=>?_,fun G=>?_⟩
 .exfalso;simp at G;omega
 exact⟨rfl,rfl,rfl,_,_,_,(ac.AC 18 4 1004 303 uH rfl rfl rfl).trans ((ac.aT 18 1001 rfl).trans ((ac.aT 15 1002 rfl).trans ((ac.aT 16 1003 rfl).trans (ac.close 1001 (jF 1001 1002 1003 1004 ⟨n,r,[],[],[]⟩) (o:=hP ⟨n,r,[],[],[]⟩) aA rfl fun _ _ _ _ h=>h)))),rfl,aA,aA,rfl⟩
end
section
def amG (es:List (aa aq×aa g6)):Fn prog 208 [.c (.one (.mp 1001))] [(1001,.map aq g6 es)] [2001] (.c (.one (.mp 2001))) [(1001,.map aq g6 es),(2001,.map aq g6 es)]:=
 Vg aeY aE0 es
end
section
abbrev B2:aH4:=[1002,1003,1004]
def EN {f:aI9} {args:List aN} {m hm:cN} {aK aO:ay} {res:aN} {ba:aH4} (h:Fn prog f args (jF 1001 1002 1003 1004 m++aK) ba res (jF 1001 1002 1003 1004 hm++aO))
  (E:om 1001 B2 args (jF 1001 1002 1003 1004 m) aK ba []=true) (G:oo 1001 (m8 B2 ba []) res (jF 1001 1002 1003 1004 hm) aO=true):
  Fn prog f args ((1001,.az (hP m))::aK) [] res ((1001,.az (hP hm))::aO):=
 (cD.close (bq:=jF 1001 1002 1003 1004 m) (dI:=fun _:Unit=>jF 1001 1002 1003 1004 hm) (aO:=fun _=>aO) (o:=hP m) (o':=fun _=>hP hm) B2 h.x (fun _ _ _ _ h=>h) (fun _ _ _ _ _ h=>h) E (fun _=>G)).fn
def cN.lv (m:cN) (at_ aX:Int):Bool:=decide (0<=at_)&&decide (aX<=m.n)&&decide (at_<=m.n - aX)
def amH (m:cN):Fn prog 272 [ap 1001] [(1001,.az (hP m))] [] (ab m.n) [(1001,.az (hP m))]:=by refine EN (aK:=[]) (aO:=[]) (ba:=[]) ?_ rfl rfl;refine aP [] func272 ?_;exact bb
def Wv (m:cN):Fn prog 296 [ap 1001] (jF 1001 1002 1003 1004 m) [] (ab (m.ca.length:Nat)) (jF 1001 1002 1003 1004 m):=by refine aP [] func296 ?_;exact bb
def Ou (m:cN) (at_ aX:Int) (ar:0<=aX) (E:0<=m.n) (G:m.n<=4096):Fn prog 294 [ap 1001,ab at_,ab aX] (jF 1001 1002 1003 1004 m) [] (gb (m.lv at_ aX)) (jF 1001 1002 1003 1004 m):=by
 refine aP [] func294 ?_;refine⟨fun h=>?_,fun h=>?_⟩
 .have h:decide (0<=at_)=true:=h;refine⟨fun ah=>?_,fun ah=>?_⟩
  .have ah:decide (aX<=m.n)=true:=ah;have aS:aX<=m.n:=by simpa using ah
   refine⟨aD7,?_⟩;exact ea bn rfl (show decide (at_<=m.n - aX)=m.lv at_ aX by rw[cN.lv,h,ah];rfl)
  .have ah:decide (aX<=m.n)=false:=ah;exact ea bn rfl (show false=m.lv at_ aX by rw[cN.lv,h,ah];rfl)
 .have h:decide (0<=at_)=false:=h;exact ea bn rfl (show false=m.lv at_ aX by rw[cN.lv,h];rfl)
def cN.qd (m:cN):cN:={m with we:=m.ca,jy:=[]}
def amI (m:cN):Fn prog 277 [ap 1001] (jF 1001 1002 1003 1004 m) [2001,2002] g' (jF 1001 2001 1003 2002 m.qd):=by refine aP [] func277 ?_;exact av (Fn.aT [(1001,1003)] (amG m.ca)) ⟨_,_,_,ac.AC 1001 4 2002 303 uH rfl rfl rfl,rfl,trivial,aA,rfl⟩
end
section
def Ww {f:aI9} {args:List aN} {m hm:cN} {aK aO:ay} {res:aN} {ba:aH4} {d e g:Nat} (l:aK0) (h:Fn prog f args (jF 1001 1002 1003 1004 m++aK) ba res (jF 1001 d e g hm++aO))
  (al:eD (ms l []) 1001=1001/\eD (ms l []) d=1002/\eD (ms l []) e=1003/\eD (ms l []) g=1004)
  (E:om 1001 B2 args (jF 1001 1002 1003 1004 m) aK ba []=true) (G:oo 1001 (m8 B2 ba []) res (jF 1001 d e g hm) aO=true):
  Fn prog f args ((1001,.az (hP m))::aK) [] res ((1001,.az (hP hm))::aO):=
 (cD.close (bq:=jF 1001 1002 1003 1004 m) (dI:=fun _:Unit=>jF 1001 d e g hm) (aO:=fun _=>aO) (o:=hP m) (o':=fun _=>hP hm) B2 h.x (fun _ _ _ _ h=>h) (fun _ I F w p bd=>by
  have:=j8.aT l bd;obtain⟨af,ao,br,c0⟩:=al;simp only[jF,lk,af,ao,br,c0,a8.eD,AL,bA.eD] at this;exact this) E (fun _=>G)).fn
def amJ (m:cN):Fn prog 277 [ap 1001] [(1001,.az (hP m))] [] g' [(1001,.az (hP m.qd))]:=
 Ww (aK:=[]) (aO:=[]) [(2001,1002),(2002,1004)] (amI m) ⟨rfl,rfl,rfl,rfl⟩ rfl rfl
end
section
abbrev amK (x y:aH3) (i:Nat):aW:=[(0,bE .u8 x),(1,bE .u8 y),(12,ab (x.length:Nat)),(13,ab (i:Nat))]
def amL {x y:aH3} {i:Nat} (hx:i < x.length) (aD:i < y.length) (h:x.take i=y.take i) (U:x[i]=y[i]):x.take (i+1)=y.take (i+1):=by rw[ay2 hx,ay2 aD,h,U]
def amM (x y:aH3) (hx:x.length<=4294967296) (aD:y.length<=4294967296):Fn prog 152 [bE .u8 x,bE .u8 y] [] [] (gb (decide (x=y))) []:=by
 refine aP [] func152 ?_;refine⟨fun h=>?_,fun h=>?_⟩
 .have h:(!decide ((x.length:Int)=(y.length:Nat)))=true:=h;have a6:x≠y:=fun e=>by rw[e] at h;simp at h
  rw[ax2 a6];exact bb
 have h:(!decide ((x.length:Int)=(y.length:Nat)))=false:=h;have al:x.length=y.length:=aH1
 refine dZ [] (X:=Nat) (amK x y) (fun _=>[]) (fun i=>i<=x.length/\x.take i=y.take i) (fun i=>x.length - i) 0 ⟨at6 _,rfl⟩ ?_ ?_
 .exact ac.sub aA trivial
 rintro i ⟨hi,cq⟩;refine⟨fun G=>?_,fun G=>?_⟩
 .have G:decide ((i:Int) < (x.length:Int))=true:=G;have dc:i < x.length:=by simpa using G
  have oF:i < y.length:=aE5
  refine⟨aD7,x[i],lE (n:=i) dc,aD7,y[i],lE (n:=i) oF,rfl,fun ah=>?_,fun ah=>?_⟩
  .have ah:(!decide ((UInt8.toNat x[i]:Int)=(UInt8.toNat y[i]:Nat)))=true:=ah
   have a6:x≠y:=fun e=>by
    subst e;simp at ah
   rw[ax2 a6];exact bb
  .have ah:(!decide ((UInt8.toNat x[i]:Int)=(UInt8.toNat y[i]:Nat)))=false:=ah
   have U:x[i]=y[i]:=by
    have aS:(UInt8.toNat x[i]:Int)=(UInt8.toNat y[i]:Nat):=by simpa using ah
    exact UInt8.toNat_inj.1 aD7
   exact⟨aD7,i+1,⟨aD7,amL dc oF cq U⟩,aD7,ac.sub aA trivial⟩
 .have G:decide ((i:Int) < (x.length:Int))=false:=G;have dc:i=x.length:=by simp at G;omega
  subst dc
  have U:x=y:=by
   rw[av0] at cq;rw[cq,al,av0]
  rw[au1 U];exact bb
end
section
structure xH (e:bh):Prop where
 ok:nh e.s e.g=true
 gh:mg e.s e.g e.es
 nm:gZ e.nm=true
end
section
def zG (c:UInt8) (p:Int×Int):Int×Int:=((p.1+(UInt8.toNat c:Int)) % 65521,(p.2+(p.1+(UInt8.toNat c:Int)) % 65521) % 65521)
def oO (x:aH3) (p:Int×Int):Int×Int:=x.foldl (fun p c=>zG c p) p
def B3 (p:Int×Int):Prop:=(0<=p.1/\p.1 < 65521)/\(0<=p.2/\p.2 < 65521)
def amN {c:UInt8} {p:Int×Int} (h:B3 p):B3 (zG c p):=by unfold B3 zG;simp only;have:=h.1;have:=h.2;omega
def Iy: ∀{x:aH3} {p:Int×Int},B3 p->B3 (oO x p)
 | [],_,h=>h
 |c::x,p,h=>Iy (x:=x) (amN h)
def amO (x:aH3) (c:UInt8) (p:Int×Int):oO (x++[c]) p=zG c (oO x p):=by unfold oO;rw[aB9];rfl
def lS (x:aH3):Int:=65536*(oO x (1,0)).2+(oO x (1,0)).1
def Wx (x:aH3):0<=lS x/\lS x < 4294967296:=by have h:=Iy (x:=x) (p:=(1,0)) ⟨aD8,aD8⟩;unfold lS;have:=h.1;have:=h.2;omega
def amP (c:UInt8) (p:Int×Int) (h:B3 p):Fn prog 295 [nw (.d (.int .u8 (UInt8.toNat c:Int))),ap 1001,ap 1002] [(1001,.cells [.d (.int .i64 p.1)]),(1002,.cells [.d (.int .i64 p.2)])] [] (.b4 [.one (.d (.int .i64 (zG c p).1)),.one (.d (.int .i64 (zG c p).2))]) [(1001,.cells [.d (.int .i64 p.1)]),(1002,.cells [.d (.int .i64 p.2)])]:=by
 have J:UInt8.toNat c < 256:=UInt8.toNat_lt c;obtain⟨⟨E,G⟩,ah,aS⟩:=h;refine aP [] func295 ?_;have cr: -9223372036854775808<=(UInt8.toNat c:Int)/\(UInt8.toNat c:Int)<=9223372036854775807:=aE5
 refine⟨cr,?_⟩;have cv: -9223372036854775808<=p.1+(UInt8.toNat c:Int)/\p.1+(UInt8.toNat c:Int)<=9223372036854775807:=aE5
 refine⟨cv,?_⟩;have dm:0<=p.1+(UInt8.toNat c:Int)/\(0:Int) < 65521:=aE5
 have eu: -9223372036854775808<=(p.1+(UInt8.toNat c:Int)) % 65521/\(p.1+(UInt8.toNat c:Int)) % 65521<=9223372036854775807:=aE5
 refine⟨dm,eu,?_⟩;have ou: -9223372036854775808<=p.2+(p.1+(UInt8.toNat c:Int)) % 65521/\p.2+(p.1+(UInt8.toNat c:Int)) % 65521<=9223372036854775807:=aE5
 refine⟨ou,?_⟩;have mw:0<=p.2+(p.1+(UInt8.toNat c:Int)) % 65521/\(0:Int) < 65521:=aE5
 have yO: -9223372036854775808<=(p.2+(p.1+(UInt8.toNat c:Int)) % 65521) % 65521/\(p.2+(p.1+(UInt8.toNat c:Int)) % 65521) % 65521<=9223372036854775807:=aE5
 exact⟨mw,yO,rfl,bb⟩
abbrev Wy (p:Int×Int):ay:=[(3,.cells [.d (.int .i64 p.1)]),(4,.cells [.d (.int .i64 p.2)])]
abbrev amQ (bF:aJ5) (i:Nat):aW:=[(3,ap 3),(4,ap 4),(5,.c (.one (.c2 295 [.p 3 0,.p 4 0]))),(11,bE (.ci .u8) bF),(12,ab (bF.length:Nat)),(13,ab (i:Nat))]
abbrev amR (bF:aJ5) (i:Nat) (x:aH3) (j:Nat):aW:=[(3,ap 3),(4,ap 4),(5,.c (.one (.c2 295 [.p 3 0,.p 4 0]))),(11,bE (.ci .u8) bF),(12,ab (bF.length:Nat)),(13,ab (i:Nat)),(17,bE .u8 x),(18,ab (x.length:Nat)),(19,ab (j:Nat))]
def Wz {bF:aJ5} {i:Nat} (h:i < bF.length):(bF.take (i+1)).flatten=(bF.take i).flatten++bF[i]:=by rw[ay2 h,List.flatten_append];simp
def Ov (bF:aJ5) (al:bF.length<=1000000) (ag: ∀x∈bF,x.length<=4294967296):Fn prog 274 [bE (.ci .u8) bF] [] [] (ab (lS bF.flatten)) []:=by
 refine aP [] func274 ?_;refine⟨rfl,rfl,dZ [] (X:=Nat) (amQ bF) (fun i=>Wy (oO (bF.take i).flatten (1,0))) (fun i=>i<=bF.length) (fun i=>bF.length - i) 0 (at6 _) ?_ ?_⟩
 .exact ac.sub aA aA
 intro i hi;refine⟨fun h=>?_,fun h=>?_⟩
 .have h:decide ((i:Int) < (bF.length:Int))=true:=h;have dc:i < bF.length:=aE6
  have hx:=ag _ (av5 dc);refine⟨aD7,bF[i],lE (n:=i) dc,dZ [] (X:=Nat) (fun j=>amR bF i bF[i] j) (fun j=>Wy (oO ((bF.take i).flatten++bF[i].take j) (1,0))) (fun j=>j<=bF[i].length) (fun j=>bF[i].length - j) 0 (at6 _) ?_ ?_⟩
  .refine ac.sub aA ⟨?_,?_,trivial⟩
   .rw[List.take_zero,av2];rfl
   .rw[List.take_zero,av2];rfl
  intro j V;refine⟨fun G=>?_,fun G=>?_⟩
  .have G:decide ((j:Int) < (bF[i].length:Int))=true:=G;have fb:j < bF[i].length:=by simpa using G
   have aw:oO ((bF.take i).flatten++bF[i].take (j+1)) (1,0)=zG bF[i][j] (oO ((bF.take i).flatten++bF[i].take j) (1,0)):=by
    rw[ay2 fb,<-aw8,amO]
   have bu:=Iy (x:=(bF.take i).flatten++bF[i].take j) (p:=(1,0)) ⟨aD8,aD8⟩;refine⟨aD7,bF[i][j],lE (n:=j) fb,av (Fn.aT [(1001,3),(1002,4)] (amP bF[i][j] _ bu)) ⟨aD7,j+1,aD7,aD7,ac.sub aA ⟨?_,?_,trivial⟩⟩⟩
   .rw[aw];rfl
   .rw[aw];rfl
  .have G:decide ((j:Int) < (bF[i].length:Int))=false:=G;have fb:j=bF[i].length:=by simp at G;omega
   subst fb;refine⟨aD7,i+1,aD7,aD7,ac.sub aA ⟨?_,?_,trivial⟩⟩
   .rw[Wz dc,av0];rfl
   .rw[Wz dc,av0];rfl
 .have h:decide ((i:Int) < (bF.length:Int))=false:=h;have dc:i=bF.length:=aH1
  subst dc;rw[av0];obtain⟨⟨E,G⟩,ah,aS⟩:=Iy (x:=bF.flatten) (p:=(1,0)) ⟨aD8,aD8⟩;have cr: -9223372036854775808<=65536*(oO bF.flatten (1,0)).2/\65536*(oO bF.flatten (1,0)).2<=9223372036854775807:=aE5
  refine⟨cr,?_⟩;have cv: -9223372036854775808<=65536*(oO bF.flatten (1,0)).2+(oO bF.flatten (1,0)).1/\65536*(oO bF.flatten (1,0)).2+(oO bF.flatten (1,0)).1<=9223372036854775807:=aE5
  exact⟨cv,bb⟩
end
section
abbrev wg (c d:Nat) (R:Int) (es:List (aa .str×aa .aL)):ay:=[(c,.cells [.d (.int .i64 R),.mp d]),(d,.map .str .aL es)]
def iY (es:List (aa .str×aa .aL)) (k:aH3):Option Nat:=(bX es (k:aa .str)).getD (cO .aL)
def WA (R:Int) (es:List (aa .str×aa .aL)) (name:aH3) (b:Nat) (h:iY es name=some b):Fn prog 157 [ap 1001,bN name] (wg 1001 1002 R es) [] (.b4 [R4 (some b),dw 0]) (wg 1001 1002 R es):=by
 refine aP [] func157 ?_;refine⟨fun d5 h'=>?_,fun h'=>?_⟩
 .exact ea bn rfl ⟨h,rfl,trivial⟩
 .exfalso;have:iY es name=none:=h';rw[h] at this
  cases this
def amS (R:Int) (es:List (aa .str×aa .aL)) (name:aH3) (h:iY es name=none):Fn prog 157 [ap 1001,bN name] (wg 1001 1002 R es) [] (.b4 [pL,dw 40]) (wg 1001 1002 R es):=by
 refine aP [] func157 ?_;refine⟨fun d5 h'=>?_,fun h'=>?_⟩
 .exfalso;have:iY es name=some d5:=h';rw[h] at this
  cases this
 .exact bb
def amT (R:Int) (h:0<=R):Fn prog 63 [ab R] [] [1001,1002] (.b4 [.one (.ptr 1001 0),dw 0]) (wg 1001 1002 R []):=by
 refine aP [] func63 ?_;refine⟨fun E=>?_,fun E=>?_⟩
 .simp at E;omega
 exact⟨rfl,rfl,_,_,_,(ac.aT 9 1001 rfl).trans (ac.aT 7 1002 rfl),rfl,aA,aA,rfl⟩
def amU (R:Int) (es:List (aa .str×aa .aL)) (fr to:aH3) (b:Nat) (al:to.length<=4294967296) (h:gZ to=true) (hn:iY es fr=some b):Fn prog 215 [ap 1001,bN fr,bN to] (wg 1001 1002 R es) [] (ab 0) (wg 1001 1002 R (dp (gN es (fr:aa .str)) (to:aa .str) (some b:aI4))):=by
 refine aP [] func215 ?_;refine av (qO _ al) ⟨fun E=>?_,fun E=>?_⟩
 .rw[h] at E;cases E
 refine av (WA R es fr b hn) ⟨fun G=>?_,fun G=>?_⟩
 .exact at1 G aD8
 exact⟨trivial,bb⟩
end
section
abbrev Ow (c d q:Nat) (R:Int) (es:List (aa .str×aa .aL)) (L:List (Nat×bc)):ay:=[(c,.cells [.d (.int .i64 R),.mp d]),(d,.map .str .aL es),(q,.az (.bt L))]
def amV (R:Int) (es:List (aa .str×aa .aL)) (L:List (Nat×bc)) (name:aH3) (n:Int) (al:name.length<=4294967296) (E:gZ name=true) (G:(se n&&decide (0<=R))=true) (aS:iY es name=none) (bB:es.length < 16):
  cD prog 213 [ap 1001,bN name,ab n] (Ow 1001 1002 1003 R es L) [] (fun b:Nat=>.b4 [R4 (some b),dw 0]) (fun b=>Ow 1001 1002 1003 R (dp es (name:aa .str) (some b:aI4)) ((b,hP ⟨n,R,[],[],[]⟩)::L)):=by
 refine ia [8] func213 ?_;refine av (Fn.aT [(1001,2001)] (amF n R G)) <| av (qO _ al) ⟨fun af=>?_,fun af=>?_⟩
 .rw[E] at af;cases af
 refine⟨fun ao=>?_,fun ao=>?_⟩
 .exact at1 ao aD8
 refine⟨fun d5 br=>?_,fun br=>?_⟩
 .exfalso;have:iY es name=some d5:=br;rw[aS] at this
  cases this
 refine⟨fun c0=>?_,fun c0=>?_⟩
 .exfalso;simp at c0;omega
 exact bG.fW (dF.name 8 2001 rfl rfl) fun b=>bw [] (bn) ⟨trivial,b,_,_,_,ac.put 1003 2001 aD8 rfl rfl,rfl,aA,aA,rfl⟩
end
section
abbrev ji:=List (aa aq×aa g6)
def wh (x:aa g6):Prop:=List.length (α:=UInt8) x=16
def wh.wf {x:aa g6} (h:wh x):oV g6 x:=⟨h,fun _ _=>trivial⟩
end
section
def amW (a b:Int):(fT aq (a:aa aq) (b:aa aq)=true)↔a=b:=by show z2 a b=true↔a=b;unfold z2;exact decide_eq_true_iff
end
section
def sf {aJ:bz} (es:List (aa aq×aa aJ)):List Int:=es.map fun p=>(show Int from p.1)
def EO (s:ji) (a:Int):aa g6:=(bX s (a:aa aq)).getD (cO g6)
def iJ (s:ji) (a:Int):aH3:=EO s a
def q0 (s:ji) (a:Int) (k:Nat):aH3:=(List.range k).flatMap fun i=>iJ s (a+(i:Nat))
def xI (s:ji):Prop:= ∀p∈s,wh p.2
def WB {aF aJ:bz} {k:aa aF} {x:aa aJ}: ∀{l:List (aa aF×aa aJ)},bX l k=some x-> ∃p∈l,p.2=x
 | [],h=>by cases h
 |p::l,h=>by
  unfold bX at h
  split at h
  .injection h with h
   exact⟨p,au7 ..,h⟩
  .obtain⟨q,a2,e⟩:=WB h;exact⟨q,at4 _ a2,e⟩
def WC {s:ji} (h:xI s) (a:Int):wh (EO s a):=by
 unfold EO
 cases e:bX s (a:aa aq) with
 |none=>exact au2
 |some x=>
  obtain⟨p,ag,e⟩:=WB e;rw[<-e];exact h p ag
def WD (s:ji) (a:Int) (k:Nat):q0 s a (k+1)=q0 s a k++iJ s (a+(k:Nat)):=by unfold q0;rw[List.range_succ,List.flatMap_append];simp
def Iz {s:ji} (h:xI s) (a:Int): ∀k,(q0 s a k).length=16*k
 |0=>rfl
 |k+1=>by
  have e:(iJ s (a+(k:Nat))).length=16:=WC h _;rw[WD,as9,Iz h a k];omega
abbrev WE (at_ aX:Int) (k r:Nat):aW:=[(0,ap 1001),(1,ab at_),(2,ab aX),(8,dY r),(20,ab aX),(21,ab (k:Nat))]
abbrev WF (m:cN) (r:Nat) (x:aH3):ay:=jF 1001 1002 1003 1004 m++[(r,.row 5 .u8 x)]
def amX (m:cN) (at_ aX:Int) (h:0<=aX) (hi:m.lv at_ aX=true) (E:0<=m.n) (G:m.n<=4096) (hw:xI m.ca):Fn prog 269 [ap 1001,ab at_,ab aX] [(1001,.az (hP m))] [] (.b4 [.one (.d (.b' .u8 (q0 m.ca at_ aX.toNat))),dw 0]) [(1001,.az (hP m))]:=by
 refine EN (aK:=[]) (aO:=[]) (ba:=[]) ?_ rfl rfl;refine aP [] func269 ?_;refine⟨fun E=>?_,fun _=>?_⟩
 .have E:aX < 0:=gd E;omega
 refine av (Ou m at_ aX h E G) ?_;rw[hi];refine dh ?_;simp only[cN.lv,as8,aw0] at hi;obtain⟨⟨i1,i2⟩,i3⟩:=hi;refine dZ [] (X:=Nat) (fun k=>WE at_ aX k 2003) (fun k=>WF m 2003 (q0 m.ca at_ k)) (fun k=>(k:Int)<=aX) (fun k=>aX.toNat - k) 0 h ?_ ?_
 .exact ac.trans (ac.nil 8 2003 5 .u8 rfl rfl) (ac.sub aA aA)
 intro k Z;refine⟨fun J=>?_,fun J=>?_⟩
 .have cd:(k:Int) < aX:=gd J;have ph:=WC hw (at_+(k:Nat));have bW:=Iz hw at_ k;refine⟨aD7,rfl,EO m.ca (at_+(k:Nat)),⟨ph.wf,rfl⟩,?_⟩
  have af:(q0 m.ca at_ k).length+(iJ m.ca (at_+(k:Nat))).length<=4294967296:=by
   have:(iJ m.ca (at_+(k:Nat))).length=16:=ph;omega
  refine⟨af,rfl,aD7,k+1,aD7,aD7,ac.trans (ac.sub (K':=WE at_ aX (k+1) 34) (B':=WF m 34 (q0 m.ca at_ (k+1))) aA ⟨rfl,rfl,rfl,rfl,?_,trivial⟩) (ac.aT 34 2003 rfl)⟩;rw[WD];rfl
 .have cd:k=aX.toNat:=by
   have: ¬(k:Int) < aX:=oj J;omega
  subst cd;exact⟨_,_,_,ac.dH 2003 rfl,rfl,aA,aA,rfl⟩
end
section
def IA (b:aH3) (k:Nat):aH3:=List.take 16 ((b.take ((((k:Nat):Int)+1)*16).toNat).drop (((k:Nat):Int)*16).toNat)
def tr (b:aH3) (k:Nat):aa g6:=IA b k
def Ox {b:aH3} {k:Nat} (h:16*(k+1)<=b.length):wh (tr b k):=by show(List.take 16 ((b.take _).drop _)).length=16;rw[at9,ax8,at9];omega
def amY (b:aH3) (k:Nat):IA b k=(b.drop (16*k)).take 16:=by
 unfold IA;rw[show((((k:Nat):Int)+1)*16).toNat=16*k+16 by omega,show(((k:Nat):Int)*16).toNat=16*k by omega,List.drop_take,List.take_take]
 congr 1
 omega
abbrev IB (a:Int) (x:aa g6):aa uH:=(a,x)
def zH (at_:Int) (b:aH3) (s:ji):Nat->ji
 |0=>s
 |k+1=>dp (zH at_ b s k) (at_+(k:Nat):Int) (tr b k)
def xJ (at_:Int) (b:aH3) (l:List (aa uH)):Nat->List (aa uH)
 |0=>l
 |k+1=>xJ at_ b l k++[IB (at_+(k:Nat)) (tr b k)]
def Oy (at_:Int) (b:aH3) (l:List (aa uH)): ∀k,(xJ at_ b l k).length=l.length+k
 |0=>rfl
 |k+1=>by rw[xJ,as9,Oy];simp;omega
def mh (s:ji) (at_:Int):Nat->Nat
 |0=>0
 |k+1=>match(bX s (at_+(k:Nat):Int)).isSome with
  |true=>mh s at_ k
  |false=>mh s at_ k+1
def WG (s:ji) (at_:Int): ∀k,mh s at_ k<=k
 |0=>at0 _
 |k+1=>by
  have:=WG s at_ k;unfold mh
  split <;>omega
def cN.sg (m:cN) (at_:Int) (k:Nat):Bool:=decide (m.R < (m.ca.length+mh m.ca at_ k:Nat))&&decide (0 < mh m.ca at_ k)
def cN.IC (m:cN) (at_:Int) (b:aH3):cN:={m with ca:=zH at_ b m.ca (b.length/16),jy:=xJ at_ b m.jy (b.length/16)}
def wi (b:aH3):Bool:=decide (b.length=0)|| !decide (b.length % 16=0)
abbrev amZ (m:cN) (at_:Int) (b:aH3) (k:Nat):aW:=[(0,ap 1001),(1,ab at_),(2,bE .u8 b),(7,ab (b.length/16:Nat)),(8,ab (m.ca.length+mh m.ca at_ k:Nat)),(35,ab (b.length/16:Nat)),(36,ab (k:Nat))]
abbrev Oz (m:cN) (at_:Int) (b:aH3) (k:Nat):aW:=[(0,ap 1001),(1,ab at_),(2,bE .u8 b),(7,ab (b.length/16:Nat)),(67,ab (b.length/16:Nat)),(68,ab (k:Nat))]
abbrev OA (m:cN) (at_:Int) (b:aH3) (k r:Nat):ay:=jF 1001 1002 1003 r {m with ca:=zH at_ b m.ca k,jy:=xJ at_ b m.jy k}
def OB (b:aH3):wi b=(decide ((b.length:Int)=0)|| !decide ((b.length:Int) % 16=0)):=by
 have af:decide (b.length=0)=decide ((b.length:Int)=0):=by rw[Bool.eq_iff_iff,decide_eq_true_iff,decide_eq_true_iff];omega
 have ao:decide (b.length % 16=0)=decide ((b.length:Int) % 16=0):=by rw[Bool.eq_iff_iff,decide_eq_true_iff,decide_eq_true_iff];omega
 rw[wi,af,ao]
def OC {b:aH3} (al:b.length<=4294967296):(0<=(b.length:Int)/\(0:Int) < 16)/\(-9223372036854775808<=(b.length:Int)/16/\(b.length:Int)/16<=9223372036854775807)/\(-9223372036854775808<=(b.length:Int) % 16/\(b.length:Int) % 16<=9223372036854775807):=aE5
def am0 (m:cN) (at_:Int) (b:aH3) (al:b.length<=4294967296) (h:wi b=true):Fn prog 280 [ap 1001,ab at_,bE .u8 b] [(1001,.az (hP m))] [] (ab 1) [(1001,.az (hP m))]:=by
 refine EN (aK:=[]) (aO:=[]) (ba:=[]) ?_ rfl rfl;rw[OB] at h;obtain⟨bM,bU,a3⟩:=OC al;refine aP [] func280 ?_;refine⟨bM,bU,fun _=>?_,fun E=>?_⟩
 .exact bb
 refine⟨bM,a3,fun _=>?_,fun G=>?_⟩
 .exact bb
 .have E:decide ((b.length:Int)=0)=false:=E;have G:(!decide ((b.length:Int) % 16=0))=false:=G;rw[E,G] at h
  cases h
def am1 (m:cN) (at_:Int) (b:aH3) (al:b.length<=4294967296) (h:wi b=false) (hi:m.lv at_ (b.length/16:Nat)=false) (E:0<=m.n) (G:m.n<=4096):Fn prog 280 [ap 1001,ab at_,bE .u8 b] [(1001,.az (hP m))] [] (ab 31) [(1001,.az (hP m))]:=by refine EN (aK:=[]) (aO:=[]) (ba:=[]) ?_ rfl rfl;rw[OB,ax5] at h;obtain⟨bM,bU,a3⟩:=OC al;refine aP [] func280 ?_;refine⟨bM,bU,fun ah=>at1 (h.1.symm.trans ah) aD8,fun _=>⟨bM,a3,fun ah=>at1 (h.2.symm.trans ah) aD8,fun _=>av (Ou m at_ (b.length/16:Nat) aD7 E G) ?_⟩⟩;rw[hi];exact fR bb
def am2 (m:cN) (at_:Int) (b:aH3) (al:b.length<=4294967296) (h:wi b=false) (hi:m.lv at_ (b.length/16:Nat)=true) (E:0<=m.n) (G:m.n<=4096) (ah:m.ca.length<=4096) (hw:xI m.ca) (ID:m.jy.length+b.length<=4294967296):
  Fn prog 280 [ap 1001,ab at_,bE .u8 b] (jF 1001 1002 1003 1004 m) [2004] (ab (match m.sg at_ (b.length/16) with |true=>30 |false=>0)) (match m.sg at_ (b.length/16) with |true=>jF 1001 1002 1003 1004 m |false=>jF 1001 1002 1003 2004 (m.IC at_ b)):=by
 rw[OB,ax5] at h;obtain⟨bM,bU,a3⟩:=OC al;refine aP [] func280 ?_;refine⟨bM,bU,fun ah=>at1 (h.1.symm.trans ah) aD8,fun _=>⟨bM,a3,fun ah=>at1 (h.2.symm.trans ah) aD8,fun _=>av (Ou m at_ (b.length/16:Nat) aD7 E G) ?_⟩⟩;rw[hi];refine dh ?_;simp only[cN.lv,as8,aw0] at hi;obtain⟨⟨i1,i2⟩,i3⟩:=hi;refine av (Wv m) ?_;show bG _ _ _ _ _ _ _;have bC:((b.length:Int)/16)=((b.length/16:Nat):Int):=aE5
 have Mt:=WG m.ca at_;refine dZ [] (X:=Nat) (amZ m at_ b) (fun k=>jF 1001 1002 1003 1004 m) (fun k=>k<=b.length/16) (fun k=>b.length/16 - k) 0 (at6 _) ?_ ?_
 .exact ac.sub ⟨rfl,rfl,rfl,bC,rfl,bC,rfl,trivial⟩ aA
 intro k Z;refine⟨fun J=>?_,fun J=>?_⟩
 .have cd:(k:Int) < (b.length/16:Nat):=gd J;have qX:=Mt k;refine⟨aD7,rfl,?_⟩
  have aw:mh m.ca at_ (k+1)=match(bX m.ca (at_+(k:Nat):Int)).isSome with
    |true=>mh m.ca at_ k
    |false=>mh m.ca at_ k+1:=rfl
  refine⟨fun aS=>?_,fun aS=>?_⟩
  .have aS:(bX m.ca (at_+(k:Nat):Int)).isSome=false:=by
    have aS:(!(bX m.ca (at_+(k:Nat):Int)).isSome)=true:=aS;simpa using aS
   rw[aS] at aw;have aw:mh m.ca at_ (k+1)=mh m.ca at_ k+1:=aw;refine⟨aD7,aD7,k+1,aD7,aD7,ac.sub ⟨rfl,rfl,rfl,rfl,?_,rfl,rfl,trivial⟩ aA⟩;show _=_;rw[aw];omega
  .have aS:(bX m.ca (at_+(k:Nat):Int)).isSome=true:=by
    have aS:(!(bX m.ca (at_+(k:Nat):Int)).isSome)=false:=aS;simpa using aS
   rw[aS] at aw;refine⟨aD7,k+1,aD7,aD7,ac.sub ⟨rfl,rfl,rfl,rfl,?_,rfl,rfl,trivial⟩ aA⟩;show _=_;rw[aw]
 .have cd:k=b.length/16:=by
   have: ¬(k:Int) < (b.length/16:Nat):=oj J;omega
  subst cd;have qX:=Mt (b.length/16);refine⟨fun cu=>?OD,fun cu=>?OE⟩
  case' OD=>
   have cu:decide (m.R < (m.ca.length+mh m.ca at_ (b.length/16):Nat))=true:=cu;refine av (Wv m) ?_;refine⟨fun cp=>?am3,fun cp=>?am4⟩
  case am3=>
   have cp:decide (((m.ca.length:Nat):Int) < (m.ca.length+mh m.ca at_ (b.length/16):Nat))=true:=cp
   have hf:m.sg at_ (b.length/16)=true:=by
    have ar:0 < mh m.ca at_ (b.length/16):=by have:=gd cp;omega
    rw[cN.sg,cu,au1 ar];rfl
   rw[hf];exact bb
  case' am4=>
   have cp:decide (((m.ca.length:Nat):Int) < (m.ca.length+mh m.ca at_ (b.length/16):Nat))=false:=cp
   have hf:m.sg at_ (b.length/16)=false:=by
    have ar: ¬0 < mh m.ca at_ (b.length/16):=by have:=oj cp;omega
    rw[cN.sg,cu,ax2 ar];rfl
   clear cu cp
  case' OE=>
   have cu:decide (m.R < (m.ca.length+mh m.ca at_ (b.length/16):Nat))=false:=cu
   have hf:m.sg at_ (b.length/16)=false:=by
    rw[cN.sg,cu];rfl
   clear cu
  all_goals
   rw[hf];refine dZ [] (X:=Nat) (Oz m at_ b) (fun k=>OA m at_ b k 2004) (fun k=>k<=b.length/16) (fun k=>b.length/16 - k) 0 (at6 _) ?_ ?_
   .exact ac.trans (cz (Oz m at_ b 0) (OA m at_ b 0 1004)) (ac.aT 1004 2004 rfl)
   intro k Z;refine⟨fun J=>?_,fun J=>?_⟩
   .have cd:(k:Int) < (b.length/16:Nat):=gd J;have ph:wh (tr b k):=Ox aD7;have ll:=Oy at_ b m.jy k;have cr: -9223372036854775808<=(k:Int)*16/\(k:Int)*16<=9223372036854775807:=aE5
    have cv: -9223372036854775808<=(k:Int)+1/\(k:Int)+1<=9223372036854775807:=aE5
    have dm: -9223372036854775808<=((k:Int)+1)*16/\((k:Int)+1)*16<=9223372036854775807:=aE5
    have eu:0<=(k:Int)*16/\(k:Int)*16<=((k:Int)+1)*16/\((k:Int)+1)*16<=(b.length:Nat):=aE5
    refine⟨cr,cv,dm,eu,?_⟩
    have ou:0 < 16/\16<=((b.take (((k:Int)+1)*16).toNat).drop ((k:Int)*16).toNat).length:=by
     rw[ax8,at9];omega
    refine⟨ou,rfl,?_⟩;have mw: -9223372036854775808<=at_+(k:Nat)/\at_+(k:Nat)<=9223372036854775807:=aE5
    refine⟨mw,tr b k,⟨ph.wf,rfl⟩,rfl,mw,rfl,IB (at_+(k:Nat)) (tr b k),⟨⟨trivial,ph.wf⟩,rfl⟩,?_⟩
    have yO:(xJ at_ b m.jy k).length+ [IB (at_+(k:Nat)) (tr b k)].length<=4294967296:=by
     rw[ll];simp only[aw7,List.length_nil];omega
    exact⟨yO,rfl,rfl,aD7,k+1,aD7,aD7,ac.trans (cz (Oz m at_ b (k+1)) (OA m at_ b (k+1) 99)) (ac.aT 99 2004 rfl)⟩
   .have cd:k=b.length/16:=by
     have: ¬(k:Int) < (b.length/16:Nat):=oj J;omega
    subst cd;exact bb
def cN.write (m:cN) (at_:Int) (b:aH3):cN×Int:=match wi b with
 |true=>(m,1)
 |false=>match m.lv at_ (b.length/16:Nat) with
  |false=>(m,31)
  |true=>match m.sg at_ (b.length/16) with
   |true=>(m,30)
   |false=>(m.IC at_ b,0)
def am5 (m:cN) (at_:Int) (b:aH3) (al:b.length<=1073741824) (E:0<=m.n) (G:m.n<=4096) (ah:m.ca.length<=4096) (hw:xI m.ca) (ID:m.jy.length<=1073741824):
  Fn prog 280 [ap 1001,ab at_,bE .u8 b] [(1001,.az (hP m))] [] (ab (m.write at_ b).2) [(1001,.az (hP (m.write at_ b).1))]:=by
 unfold cN.write
 cases af:wi b with
 |true=>exact am0 m at_ b aD7 af
 |false=>
  simp only
  cases ao:m.lv at_ (b.length/16:Nat) with
  |false=>exact am1 m at_ b aD7 af ao E G
  |true=>
   simp only;have h:=am2 m at_ b aD7 af ao E G ah hw aD7
   cases br:m.sg at_ (b.length/16) with
   |true=>rw[br] at h;exact EN (aK:=[]) (aO:=[]) (ba:=[2004]) h rfl rfl
   |false=>rw[br] at h;exact Ww (aK:=[]) (aO:=[]) (ba:=[2004]) [(2004,1004)] h ⟨rfl,rfl,rfl,rfl⟩ rfl rfl
end
section
abbrev fo:=List (Nat×cN)
def fy (L:fo):List (Nat×bc):=L.map fun p=>(p.1,hP p.2)
def jZ:fo->Nat->Option cN
 | [],_=>none
 |p::L,b=>if p.1=b then some p.2 else jZ L b
def jG:fo->Nat->cN->fo
 | [],_,_=>[]
 |p::L,b,m=>if p.1=b then(p.1,m)::L else p::jG L b m
def WH (b:Nat): ∀L:fo,eZ (fy L) b=(jZ L b).map hP
 | []=>rfl
 |p::L=>by
  show(if p.1=b then some (hP p.2) else eZ (fy L) b)=_;unfold jZ
  split
  .rfl
  .exact WH b L
def WI (b:Nat) (m:cN): ∀L:fo,fX (fy L) b (hP m)=fy (jG L b m)
 | []=>rfl
 |p::L=>by
  show(if p.1=b then(p.1,hP m)::fy L else(p.1,hP p.2)::fX (fy L) b (hP m))=_;unfold jG
  split
  .rfl
  .rw[WI b m L];rfl
abbrev EP (c d q:Nat) (R:Int) (es:List (aa .str×aa .aL)) (L:fo):ay:=Ow c d q R es (fy L)
def IE {f:aI9} {args:List aN} {res:aN} {m hm:cN} {L:fo} {b:Nat} (h:Fn prog f (ap 1001::args) [(1001,.az (hP m))] [] res [(1001,.az (hP hm))]) (cG:jZ L b=some m)
  (E:(args.all fun v=> !v.has 1001)=true) (G:(!res.has 1001)=true):Fn prog f (dd b::args) [(1003,.az (.bt (fy L)))] [] res [(1003,.az (.bt (fy (jG L b hm))))]:=by
 have:=(cD.bt (c:=1001) (q:=1003) (b:=b) (args:=args) (aK:=[]) (ba:=[]) (X:=Unit) (res:=fun _=>res) (aO:=fun _=>[]) (o:=hP m) (o':=fun _=>hP hm) (L:=fy L) h.x (by rw[WH,cG];rfl) E ⟨rfl,rfl⟩ rfl (fun _=>G)).fn;rw[WI] at this;exact this
def am6 (R:Int) (es:List (aa .str×aa .aL)) (name:aH3):Fn prog 212 [ap 1001,bN name] (wg 1001 1002 R es) [] (ab (match iY es name with |some _=>0 |none=>40)) (wg 1001 1002 R (gN es (name:aa .str))):=by
 cases h:iY es name with
 |some b=>
  refine aP [] func212 ?_;exact av (WA R es name b h) bb
 |none=>
  refine aP [] func212 ?_;exact av (amS R es name h) bb
structure ps (n:Int) (s:ji):Prop where
 hY:(sf s).Nodup
 rg: ∀k∈sf s,0<=k/\k < n
 wf:xI s
structure hQ (m:cN):Prop where
 ts:0<=m.n
 cC:m.n<=4096
 ca:ps m.n m.ca
 we:ps m.n m.we
 am7: ∀w∈m.jy,0<=(show Int from w.1)/\(show Int from w.1) < m.n
 am8: ∀w∈m.jy,wh w.2
def nk (k:Int) (p:aa aq×aa g6):Bool:=fT aq (k:aa aq) p.1
def zI (k:Int) (x:aa g6):aa aq×aa g6:=(k,x)
def EQ (p:aa aq×aa g6):Int:=p.1
def tt (s:ji) (k:Int) (x:aa g6):ji:=dp s (k:aa aq) x
def IF (k:Int) (x:aa g6):tt [] k x=[zI k x]:=rfl
def B4 (p:aa aq×aa g6) (l:ji) (k:Int) (x:aa g6):tt (p::l) k x=match nk k p with |true=>zI k x::l |false=>p::tt l k x:=rfl
def tu {k:Int} {p:aa aq×aa g6}:nk k p=true↔k=EQ p:=amW _ _
def wj (p:aa aq×aa g6) (l:ji):sf (p::l)=EQ p::sf l:=rfl
def OF (k:Int) (x:aa g6):EQ (zI k x)=k:=rfl
def OG {k:Int} {x:aa g6} {j:Int}: ∀{s:ji},j∈sf (tt s k x)↔j=k\/j∈sf s
 | []=>by rw[IF,wj,OF,at7]
 |p::s=>by
  rw[B4]
  cases e:nk k p with
  |true=>
   rw[wj,wj,OF,<-tu.1 e];simp
  |false=>
   simp only;rw[wj,wj,at7,at7,OG];constructor
   .rintro(h |h |h)
    .exact .inr (.inl h)
    .exact .inl h
    .exact .inr (.inr h)
   .rintro(h |h |h)
    .exact .inr (.inl h)
    .exact .inl h
    .exact .inr (.inr h)
def WJ {k:Int} {x:aa g6}: ∀{s:ji},(sf s).Nodup->(sf (tt s k x)).Nodup
 | [],_=>by rw[IF,wj];exact aw6.2 ⟨fun h=>aE7,az4⟩
 |p::s,h=>by
  rw[wj,aw6] at h;rw[B4]
  cases e:nk k p with
  |true=>
   simp only;rw[wj,OF,tu.1 e];exact aw6.2 h
  |false=>
   have e:k≠EQ p:=fun bd=>by rw[tu.2 bd] at e;cases e
   simp only;rw[wj];refine aw6.2 ⟨fun aC=>?_,WJ h.2⟩;rcases OG.1 aC with bd |bd
   .exact e bd.symm
   .exact h.1 bd
def WK {k:Int} {x:aa g6} (hx:wh x): ∀{s:ji},xI s->xI (tt s k x)
 | [],_=>fun p ag=>by
  rw[IF] at ag;rcases at7.1 ag with e |e
  .rw[e];exact hx
  .cases e
 |q::s,h=>fun p ag=>by
  rw[B4] at ag
  split at ag
  .rcases at7.1 ag with rfl |ag
   .exact hx
   .exact h p (at4 _ ag)
  .rcases at7.1 ag with rfl |ag
   .exact h _ (au7 ..)
   .exact WK hx (fun p ag=>h p (at4 _ ag)) p ag
def ps.put {n:Int} {s:ji} (h:ps n s) {k:Int} {x:aa g6} (ar:0<=k) (E:k < n) (hx:wh x):ps n (dp s (k:aa aq) x):=
 ⟨WJ h.hY,fun j V=>by
  rcases OG.1 V with rfl |V
  .exact⟨ar,E⟩
  .exact h.rg j V,WK hx h.wf⟩
def ps.nil (n:Int):ps n []:=⟨az4,fun k h=>aE7,fun p h=>aE7⟩
def IG: ∀(n:Nat) (l:aI7),l.Nodup->(∀k∈l,0<=k/\k < n)->l.length<=n
 |0,[],_,_=>at0 _
 |0,k::l,_,h=>by have:=h k (au7 ..);omega
 |n+1,l,hn,h=>by
  by_cases aC:(n:Int)∈l
  .have E:=IG n (l.erase (n:Int)) (hn.erase _) fun k Z=>by
    have ey:=(List.Nodup.mem_erase_iff hn).1 Z;have:=h k ey.2;have:=ey.1;omega
   rw[List.length_erase_of_mem aC] at E;omega
  .have:=IG n l hn fun k Z=>by
    have:=h k Z;have:k≠n:=fun e=>aC (e▸Z)
    omega
   omega
def ps.len {n:Int} {s:ji} (h:ps n s) (E:n<=4096):s.length<=4096:=by
 have:=IG 4096 (sf s) h.hY fun k Z=>by have:=h.rg k Z;omega
 rwa[show(sf s).length=s.length from au3 _] at this
def hQ.new {n R:Int} (h:se n=true):hQ ⟨n,R,[],[],[]⟩:=by simp[se] at h;exact⟨h.1,h.2,ps.nil _,ps.nil _,fun w hw=>(by cases hw),fun w hw=>(by cases hw)⟩
def hQ.qd {m:cN} (h:hQ m):hQ m.qd:=⟨h.ts,h.cC,h.ca,h.ca,fun w hw=>(by cases hw),fun w hw=>(by cases hw)⟩
def OH {n at_:Int} {b:aH3} (ar:0<=at_) {s:ji} (h:ps n s): ∀k:Nat,at_+k<=n->16*k<=b.length->ps n (zH at_ b s k)
 |0,_,_=>h
 |k+1,E,G=>(OH ar h k aD7 aD7).put aD7 aD7 (Ox G)
def OI {at_:Int} {b:aH3} {l:List (aa uH)} {w:aa uH}: ∀k:Nat,w∈xJ at_ b l k->w∈l\/ ∃i,i < k/\w=IB (at_+(i:Nat)) (tr b i)
 |0,h=>.inl h
 |k+1,h=>by
  rcases av9.1 h with h |h
  .rcases OI k h with h |⟨i,hi,e⟩
   .exact .inl h
   .exact .inr ⟨i,aD7,e⟩
  .rw[au5] at h;exact .inr ⟨k,aD7,h⟩
def hQ.write {m:cN} (h:hQ m) (at_:Int) (b:aH3):hQ (m.write at_ b).1:=by
 unfold cN.write
 split
 .exact h
 .split
  .exact h
  .rename_i hi;simp only[cN.lv,as8,aw0] at hi;obtain⟨⟨i1,i2⟩,i3⟩:=hi
   split
   .exact h
   .refine⟨h.ts,h.cC,OH i1 h.ca _ (by show at_+_<=m.n;omega) aD7,h.we,fun w hw=>?_,fun w hw=>?_⟩
    .rcases OI _ hw with hw |⟨i,hi,rfl⟩
     .exact h.am7 w hw
     .show 0<=at_+(i:Nat)/\at_+(i:Nat) < m.n;omega
    .rcases OI _ hw with hw |⟨i,hi,rfl⟩
     .exact h.am8 w hw
     .exact Ox aD7
end
section
abbrev q1 (bD:Nat):aa .fn:=((276,[bD]):Nat×aH4)
abbrev oP (bD a b:Nat):aa .fn:=((279,[bD,a,b]):Nat×aH4)
abbrev OJ (d:Nat) (e:Int) (eQ:List (aa .fn)) (L:List (Nat×bc)):ay:=[(1001,.cells [.ptr 1002 0]),(1002,.cells [.own d,.d (.int .i64 e)]),(d,.row 121 .fn eQ),(1005,.az (.bt L))]
abbrev am9 (e:Int) (eQ:List (aa .fn)) (L:List (Nat×bc)):ay:=OJ 1006 e eQ L
def WL (at_:Int) (x:aH3) (bD:Nat) (e:Int) (eQ:List (aa .fn)) (L:List (Nat×bc)) (al:eQ.length<=1000000):
  cD prog 278 [ab at_,bE .u8 x,ap 1001,dd bD] (am9 e eQ L) [2006] (X:=Nat×Nat) (fun _=>g') (fun g=>OJ 2006 e (eQ++[oP bD g.1 g.2]) ((g.2,ho (.b' .u8 x))::(g.1,ho (.int .i64 at_))::L)):=by
 refine ia [1] func278 ?_;refine⟨rfl,rfl,bG.fW (dF.box 4 4 1005 rfl rfl aD8 rfl) fun d7=>bG.fW (dF.box 5 5 1005 rfl rfl aD8 rfl) fun fe=>bw [] (bn) ?_⟩;have O:eQ.length+1<=4294967296:=aE5
 exact⟨O,rfl,rfl,(d7,fe),_,_,_,(cz [] (OJ 13 e (eQ++[oP bD d7 fe]) ((fe,ho (.b' .u8 x))::(d7,ho (.int .i64 at_))::L))).trans (ac.aT 13 2006 rfl),rfl,trivial,aA,rfl⟩
def am' {bD s:Nat} {m:cN} {L:List (Nat×bc)} {M:fo} (cG:eZ L bD=some (ho (.aL (some s)))) (ak:jZ M s=some m):
  Fn prog 276 [dd bD] [(1005,.az (.bt L)),(1003,.az (.bt (fy M)))] [] (ab 0) [(1005,.az (.bt L)),(1003,.az (.bt (fy (jG M s m.qd))))]:=by
 refine aP [] func276 ?_;refine bm (Dz (q:=1005) rfl underlying231 rfl rfl rfl cG) ?_;exact av (IE (amJ m) ak rfl rfl) bb
def ana {bD s d7 fe:Nat} {at_:Int} {x:aH3} {m:cN} {L:List (Nat×bc)} {M:fo} (G:eZ L bD=some (ho (.aL (some s)))) (aS:eZ L d7=some (ho (.int .i64 at_))) (bB:eZ L fe=some (ho (.b' .u8 x)))
  (ak:jZ M s=some m) (ai:hQ m) (hx:x.length<=1073741824) (al:m.jy.length<=1073741824):
  Fn prog 279 [dd bD,dd d7,dd fe] [(1005,.az (.bt L)),(1003,.az (.bt (fy M)))] [] (ab (m.write at_ x).2) [(1005,.az (.bt L)),(1003,.az (.bt (fy (jG M s (m.write at_ x).1))))]:=by
 refine aP [] func279 ?_;refine bm (Dz (q:=1005) rfl underlying231 rfl rfl rfl G) ?_;refine bm (Dz (q:=1005) rfl underlying3 rfl rfl rfl aS) ?_;refine bm (Dz (q:=1005) rfl underlying27 rfl rfl rfl bB) ?_;exact av (IE (am5 m at_ x hx ai.ts ai.cC (ai.ca.len ai.cC) ai.ca.wf al) ak rfl rfl) bb
end
section
def anb (x:aH3) (hx:x.length<=4294967296):Fn prog 199 [bE .u8 x] [] [2001] (dY 2001) (qa 2001 x):=by
 refine aP [1] func199 ?_;refine bG.iF eY aE0 ⟨_,Sb rfl rfl underlying27,fun v e h=>?_⟩;obtain⟨b,O,rfl,rfl⟩:=h
 cases b
 .refine⟨rfl,?_⟩;have al:0+x.length<=4294967296:=aE5
  exact⟨al,rfl,_,_,_,ac.aT 7 2001 rfl,rfl,rfl,aA,rfl⟩
 .have O:=O rfl;subst O;exact⟨_,_,_,ac.nil 2 2001 5 .u8 rfl rfl,rfl,rfl,aA,rfl⟩
def tv (x:aH3):aH3:=x++f' (lS x).toNat 4
def WM (x:aH3) (hx:x.length<=1000000):Fn prog 281 [bE .u8 x] [] [] (bE .u8 (tv x)) []:=by
 have h:=Wx x;refine aP [2] func281 ?_;refine av (anb x aD7) ?_;refine av (Ov [x] aD9 (fun y aD=>by rw[au5] at aD;rw[aD];omega)) ?_;have af:([x]:aJ5).flatten=x:=by simp
 rw[af];refine av (Fn.arg (Fn.aT [(1001,2001),(1002,3002)] (EI x 4 [(lS x).toNat] (by unfold W;omega) (fun n hn=>by rw[au5] at hn;rw[hn];omega) aD9 aD7)) ⟨rfl,rfl,Od h.1,trivial⟩) <| bw [] (ac.dH 3002 rfl) ?_;exact ea bn rfl (show x++h4 4 [(lS x).toNat]=tv x by unfold tv h4;simp)
def dU (n:Int):Int:=max (n - 2) 0/2
def IH (n:Int) (ar:0<=n) (E:n<=4096):Fn prog 273 [ab n] [] [] (ab (dU n)) []:=by
 refine aP [] func273 ?_;have cr: -9223372036854775808<=n - 2/\n - 2<=9223372036854775807:=aE5
 refine⟨cr,?_⟩;have cv:0<=max (n - 2) 0/\(0:Int) < 2:=aE5
 have dm: -9223372036854775808<=max (n - 2) 0/2/\max (n - 2) 0/2<=9223372036854775807:=aE5
 exact⟨cv,dm,bb⟩
def OK (n:Int) (ar:0<=n) (E:n<=4096):Fn prog 271 [ab n] [] [] (ab (dU n*16)) []:=by
 refine aP [] func271 ?_;refine av (IH n ar E) ?_;have dm: -9223372036854775808<=dU n*16/\dU n*16<=9223372036854775807:=by unfold dU;omega
 exact⟨dm,bb⟩
end
section
abbrev WN:bz:=.bV .str (.ci aq)
abbrev WO:=aa WN
abbrev anc (k:WO):List Int:=k.2
def zJ (p:Nat×cN) (L:fo) (b:Nat):jZ (p::L) b=if p.1=b then some p.2 else jZ L b:=rfl
abbrev ane:=Nat×(aa .str×aa .aL)
def As (e:ane):Option Nat:=e.2.2
def wk (p:aa .str×aa .aL):aH3:=p.1
def sh (p:aa .str×aa .aL):Option Nat:=p.2
structure uI (es:List (aa .str×aa .aL)) (L:fo) (W:Nat):Prop where
 ex: ∀p∈es,∃a,sh p=some a/\a∈L.map (·.1)
 hY:(es.map sh).Nodup
 OL:(L.map (·.1)).Nodup
 ok: ∀p∈L,hQ p.2
 OM: ∀p∈L,p.2.jy.length<=W
def WP {a:Nat} {m:cN}: ∀{L:fo},jZ L a=some m->(a,m)∈L
 | [],h=>by cases h
 |p::L,h=>by
  rw[zJ] at h
  split at h
  .rename_i e;injection h with h
   rw[<-e,<-h];exact au7 ..
  .exact at4 _ (WP h)
end
section
def II {b:Nat} {m:cN}: ∀{L:fo},jZ L b=some m->jG L b m=L
 | [],h=>by cases h
 |p::L,h=>by
  rw[zJ] at h;show(if p.1=b then(p.1,m)::L else p::jG L b m)=_
  split at h
  .rename_i e;injection h with h
   rw[vj e,<-h]
  .rename_i e;rw[mu e,II h]
def anf (a b:aH3):(fT .str (a:aa .str) (b:aa .str)=true)↔a=b:=by show z6 a b=true↔a=b;unfold z6;exact decide_eq_true_iff
end
section
def nS (b:aH3):aH3×Bool:=if b.length < 4 then([],false) else if tv (b.take (b.length - 4))=b then(b.take (b.length - 4),true) else([],false)
def ang (b:aH3) (O:b.length<=1000000):Fn prog 270 [bE .u8 b] [] [] (.b4 [.one (.d (.b' .u8 (nS b).1)),.one (.d (.bool (nS b).2))]) []:=by
 unfold nS;refine aP [] func270 ?_;refine⟨fun c=>?_,fun c=>?_⟩
 .have c:(b.length:Int) < 4:=gd c;rw[vj (show b.length < 4 by omega)];exact bb
 have c: ¬(b.length:Int) < 4:=oj c;rw[mu (show¬b.length < 4 by omega)];have q: -9223372036854775808<=(b.length:Int) - 4/\(b.length:Int) - 4<=9223372036854775807:=aE5
 have cv:0<=(b.length:Int) - 4/\(b.length:Int) - 4<=(b.length:Nat):=aE5
 have e:((b.length:Int) - 4).toNat=b.length - 4:=aE5
 have al:(b.take (b.length - 4)).length<=1000000:=aF0
 have aw:(tv (b.take (b.length - 4))).length<=4294967296:=by
  unfold tv;rw[as9,qY];omega
 have br:List.drop 0 (List.take ((b.length:Int) - 4).toNat b)=b.take (b.length - 4):=by rw[e,List.drop_zero]
 refine⟨q,cv,av (Fn.arg (WM (b.take (b.length - 4)) al) ⟨br,trivial⟩) <| av (amM (tv (b.take (b.length - 4))) b aw aD7) ⟨fun d=>?_,fun d=>?_⟩⟩
 .have d: ¬tv (b.take (b.length - 4))=b:=by simpa using d
  rw[mu d];exact bb
 .have d:tv (b.take (b.length - 4))=b:=by simpa using d
  rw[vj d];exact⟨q,cv,av (Fn.arg (My (b.take (b.length - 4)) aD7) ⟨br,trivial⟩) bb⟩
def B5 {m:cN} {L:fo} {b:Nat} (cG:jZ L b=some m):Fn prog 272 [dd b] [(1003,.az (.bt (fy L)))] [] (ab m.n) [(1003,.az (.bt (fy L)))]:=by
 have:=IE (amH m) cG rfl rfl
 rwa[II cG] at this
def WQ {m:cN} {L:fo} {b:Nat} (cG:jZ L b=some m) (h:hQ m) (at_ aX:Int) (ar:0<=aX) (hi:m.lv at_ aX=true):Fn prog 269 [dd b,ab at_,ab aX] [(1003,.az (.bt (fy L)))] [] (.b4 [.one (.d (.b' .u8 (q0 m.ca at_ aX.toNat))),dw 0]) [(1003,.az (.bt (fy L)))]:=by
 have:=IE (amX m at_ aX ar hi h.ts h.cC h.ca.wf) cG rfl rfl
 rwa[II cG] at this
def nT (m:cN) (k:Int):aH3:=q0 m.ca k 1
def iZ (x:aH3):Nat×Nat×Nat:=((fx 4 (x,0)).2,(fx 4 (fx 4 (x,0)).1).2,(fx 4 (fx 4 (fx 4 (x,0)).1).1).2)
def qe (m:cN) (k:Int):aH3:=q0 m.ca (2+k*dU m.n) (dU m.n).toNat
def qf (m:cN) (k:Int):aH3×Int:=match(nS (nT m k)).2 with
 |false=>([],0)
 |true=>match decide (((iZ (nS (nT m k)).1).1:Int) < 1)||decide ((1073741824:Int) < ((iZ (nS (nT m k)).1).1:Int))||decide (dU m.n*16 < ((iZ (nS (nT m k)).1).2.1:Int)) with
  |true=>([],0)
  |false=>match decide (lS ((qe m k).take (iZ (nS (nT m k)).1).2.1)=((iZ (nS (nT m k)).1).2.2:Int)) with
   |false=>([],0)
   |true=>((qe m k).take (iZ (nS (nT m k)).1).2.1,((iZ (nS (nT m k)).1).1:Int))
def ER {n:Int} (G:2<=n) (E:n<=4096):0<=dU n/\2+dU n+dU n<=n:=by unfold dU;omega
def anh {m:cN} (ai:hQ m) (G:2<=m.n) (k:Int):(qe m k).length=16*(dU m.n).toNat:=Iz ai.ca.wf _ _
def ani {m:cN} (ai:hQ m) (G:2<=m.n) (k:Int) (Z:k=0\/k=1) {s:Nat} {M:fo} (ak:jZ M s=some m):Fn prog 249 [dd s,ab k] [(1003,.az (.bt (fy M)))] [] (.b4 [.one (.d (.b' .u8 (qf m k).1)),.one (.d (.int .i64 (qf m k).2))]) [(1003,.az (.bt (fy M)))]:=by
 have kT:=ai.cC;have dc:m.lv k 1=true:=by simp only[cN.lv,as8,aw0];omega
 obtain⟨a0,bM⟩:=ER G kT;unfold qf;refine aP [] func249 ?_;refine av (WQ ak ai k 1 aD8 dc) ?_
 have bd:(nT m k).length<=1000000:=by
  have:=Iz ai.ca.wf k 1;unfold nT;omega
 refine av (ang (nT m k) bd) <| dh ?_
 cases wT:(nS (nT m k)).2 with
 |false=>
  exact fR bb
 |true=>
  refine dh ?_
  have hx:(nS (nT m k)).1.length<=4294967296:=by
   unfold nS
   split
   .simp
   .split
    .show((nT m k).take _).length<=_;rw[at9];omega
    .simp
  generalize(nS (nT m k)).1=x at hx⊢;refine av (Wh x hx) ?_;refine av (wb (x,0) 4 (by unfold W;omega)) ?_;refine av (wb (fx 4 (x,0)).1 4 (by unfold W;omega)) ?_;refine av (wb (fx 4 (fx 4 (x,0)).1).1 4 (by unfold W;omega)) ⟨fun cu=>?_,fun cu=>?_⟩
  .have cu:decide (((iZ x).1:Int) < 1)=true:=cu;rw[cu];exact bb
  have cu:decide (((iZ x).1:Int) < 1)=false:=cu;rw[cu];refine⟨fun cp=>?_,fun cp=>?_⟩
  .have cp:decide ((1073741824:Int) < ((iZ x).1:Int))=true:=cp;rw[cp];exact bb
  have cp:decide ((1073741824:Int) < ((iZ x).1:Int))=false:=cp;rw[cp];refine av (B5 ak) <| av (OK m.n ai.ts ai.cC) ⟨fun fD=>?_,fun fD=>?_⟩
  .have fD:decide (dU m.n*16 < ((iZ x).2.1:Int))=true:=fD;rw[fD];exact bb
  have fD:decide (dU m.n*16 < ((iZ x).2.1:Int))=false:=fD;rw[fD];have bW:=anh ai G k
  have ll:(iZ x).2.1<=(qe m k).length:=by
   have:=oj fD;omega
  refine av (B5 ak) <| av (IH m.n ai.ts ai.cC) ?_;have cr: -9223372036854775808<=k*dU m.n/\k*dU m.n<=9223372036854775807:=by rcases Z with rfl |rfl <;>omega
  have cv: -9223372036854775808<=2+k*dU m.n/\2+k*dU m.n<=9223372036854775807:=by rcases Z with rfl |rfl <;>omega
  have oF:m.lv (2+k*dU m.n) (dU m.n)=true:=by
   simp only[cN.lv,as8,aw0];rcases Z with rfl |rfl <;>omega
  refine⟨cr,cv,av (B5 ak) <| av (IH m.n ai.ts ai.cC) <| av (WQ ak ai (2+k*dU m.n) (dU m.n) a0 oF) ?_⟩;have dm:0<=((iZ x).2.1:Int)/\((iZ x).2.1:Int)<=((qe m k).length:Nat):=aE5
  refine⟨dm,?_⟩;have c0:([List.drop 0 (List.take (((iZ x).2.1:Nat):Int).toNat (qe m k))]:List aH3)=[(qe m k).take (iZ x).2.1]:=rfl;refine av (Fn.arg (Ov [(qe m k).take (iZ x).2.1] aD9 (fun y aD=>by rw[au5] at aD;rw[aD,at9];omega)) ⟨c0,trivial⟩) ?_;have ft:([(qe m k).take (iZ x).2.1]:List aH3).flatten=(qe m k).take (iZ x).2.1:=by simp
  rw[ft];refine⟨fun uz=>?_,fun uz=>?_⟩
  .have uz:(!decide (lS ((qe m k).take (iZ x).2.1)=((iZ x).2.2:Int)))=true:=uz;have D1:decide (lS ((qe m k).take (iZ x).2.1)=((iZ x).2.2:Int))=false:=by simpa using uz
   rw[D1];exact bb
  .have uz:(!decide (lS ((qe m k).take (iZ x).2.1)=((iZ x).2.2:Int)))=false:=uz;have D1:decide (lS ((qe m k).take (iZ x).2.1)=((iZ x).2.2:Int))=true:=by simpa using uz
   rw[D1];refine bm (aee eY rfl rfl rfl rfl rfl rfl dm.1 dm.2) ?_;exact bb
def hy (m:cN):Nat->Int×aH3×Int
 |0=>(-1,[],0)
 |j+1=>if(hy m j).2.2 < (qf m (j:Nat)).2 then((j:Nat),(qf m (j:Nat)).1,(qf m (j:Nat)).2) else hy m j
abbrev anj (m:cN) (s j:Nat):aW:=[(0,dd s),(5,ab (hy m j).1),(6,ab (hy m j).2.2),(7,bE .u8 (hy m j).2.1),(11,ab (j:Nat))]
def WR {m:cN} (ai:hQ m) (G:2<=m.n) {s:Nat} {M:fo} (ak:jZ M s=some m):Fn prog 211 [dd s] [(1003,.az (.bt (fy M)))] [] (.b4 [.one (.d (.int .i64 (hy m 2).1)),.one (.d (.b' .u8 (hy m 2).2.1)),.one (.d (.int .i64 (hy m 2).2.2))]) [(1003,.az (.bt (fy M)))]:=by
 refine aP [] func211 ?_;refine dZ [] (X:=Nat) (anj m s) (fun _=>[(1003,.az (.bt (fy M)))]) (fun j=>j<=2) (fun j=>2 - j) 0 aD8 ?_ ?_
 .exact ac.sub aA aA
 intro j V;refine⟨fun h=>?_,fun h=>?_⟩
 .have h:(j:Int) < 2:=gd h;refine av (ani ai G (j:Nat) aD7 ak) ⟨fun c=>?_,fun c=>?_⟩
  .have c:(hy m j).2.2 < (qf m (j:Nat)).2:=gd c;have e:hy m (j+1)=(((j:Nat):Int),(qf m (j:Nat)).1,(qf m (j:Nat)).2):=vj c;refine⟨aD7,j+1,aD7,aD7,ac.sub ⟨rfl,?_,?_,?_,rfl,trivial⟩ aA⟩
   .rw[e];rfl
   .rw[e];rfl
   .rw[e];rfl
  .have c: ¬(hy m j).2.2 < (qf m (j:Nat)).2:=oj c;have e:hy m (j+1)=hy m j:=mu c;refine⟨aD7,j+1,aD7,aD7,ac.sub ⟨rfl,?_,?_,?_,rfl,trivial⟩ aA⟩
   .rw[e];rfl
   .rw[e];rfl
   .rw[e];rfl
 .have h: ¬(j:Int) < 2:=oj h;have fE:j=2:=aE5
  subst fE;exact bb
end
section
abbrev jj:=Option (Int×aH3)
inductive zK (L:List (Nat×bc)) (bD:Nat):aa .fn->jj->Prop
 |f:zK L bD (q1 bD) none
 |w {a b:Nat} {at_:Int} {x:aH3}:eZ L a=some (ho (.int .i64 at_))->eZ L b=some (ho (.b' .u8 x))->zK L bD (oP bD a b) (some (at_,x))
def qg (L:List (Nat×bc)) (bD:Nat):List (aa .fn)->List jj->Prop
 | [],[]=>True
 |f::l,t::m=>zK L bD f t/\qg L bD l m
 |_,_=>False
def WS {a:Nat} {o:bc}: ∀{L:List (Nat×bc)},eZ L a=some o->a∈L.map (·.1)
 | [],h=>by cases h
 |(b,q)::L,h=>by
  unfold eZ at h
  split at h
  .rename_i e;rw[au9];exact at7.2 (.inl e.symm)
  .rw[au9];exact at4 _ (WS h)
def ES {a b:Nat} {o q:bc} {L:List (Nat×bc)} (h:eZ L a=some o) (hn:b∉L.map (·.1)):eZ ((b,q)::L) a=some o:=by
 have a6: ¬b=a:=fun e=>hn (e▸WS h)
 unfold eZ;rw[mu a6];exact h
def zK.qI {L:List (Nat×bc)} {bD b:Nat} {q:bc} (hn:b∉L.map (·.1)) {f:aa .fn} {t:jj} (h:zK L bD f t):zK ((b,q)::L) bD f t:=by
 cases h with
 |f=>exact .f
 |w E G=>exact .w (ES E hn) (ES G hn)
def qg.qI {L:List (Nat×bc)} {bD b:Nat} {q:bc} (hn:b∉L.map (·.1)): ∀{l:List (aa .fn)} {m:List jj},qg L bD l m->qg ((b,q)::L) bD l m
 | [],[],_=>trivial
 |f::l,t::m,h=>⟨h.1.qI hn,qg.qI hn h.2⟩
 | [],_::_,h=>h.elim
 |_::_,[],h=>h.elim
def qg.B6 {L:List (Nat×bc)} {bD:Nat} {f:aa .fn} {t:jj} (G:zK L bD f t): ∀{l:List (aa .fn)} {m:List jj},qg L bD l m->qg L bD (l++[f]) (m++[t])
 | [],[],_=>⟨G,trivial⟩
 |f::l,t::m,h=>⟨h.1,qg.B6 G h.2⟩
 | [],_::_,h=>h.elim
 |_::_,[],h=>h.elim
def qg.len {L:List (Nat×bc)} {bD:Nat}: ∀{l:List (aa .fn)} {m:List jj},qg L bD l m->l.length=m.length
 | [],[],_=>rfl
 |f::l,t::m,h=>by rw[aw7,aw7,qg.len h.2]
 | [],_::_,h=>h.elim
 |_::_,[],h=>h.elim
def zL (x:D):(ho x).pc:=fun I F w p h=>(h.1 _).2 rfl
structure q2 (L:List (Nat×bc)) (bD s:Nat) (eQ:List (aa .fn)) (gp:List jj):Prop where
 an: ∀p∈L,p.2.pc
 ag:eZ L bD=some (ho (.aL (some s)))
 aj:qg L bD eQ gp
def q2.write {L:List (Nat×bc)} {bD s a b:Nat} {eQ:List (aa .fn)} {gp:List jj} {at_:Int} {x:aH3} (h:q2 L bD s eQ gp) (hn:(((b,ho (.b' .u8 x))::(a,ho (.int .i64 at_))::L).map (·.1)).Nodup):
  q2 ((b,ho (.b' .u8 x))::(a,ho (.int .i64 at_))::L) bD s (eQ++[oP bD a b]) (gp++[some (at_,x)]):=by
 rw[au9,aw6,au9,aw6] at hn;obtain⟨cC,dg,jd⟩:=hn;rw[at7,not_or] at cC
 have O:b∉((a,ho (.int .i64 at_))::L).map (·.1):=by
  rw[au9,at7,not_or];exact cC
 refine⟨fun p ag=>?_,ES (ES h.ag dg) O,qg.B6 (.w (ES ?_ O) ?_) ((h.aj.qI dg).qI O)⟩
 .rcases at7.1 ag with rfl |ag
  .exact zL _
  .rcases at7.1 ag with rfl |ag
   .exact zL _
   .exact h.an p ag
 .unfold eZ;rw[vj rfl]
 .unfold eZ;rw[vj rfl]
def q2.qd {L:List (Nat×bc)} {bD s:Nat} {eQ:List (aa .fn)} {gp:List jj} (h:q2 L bD s eQ gp):q2 L bD s (eQ++[q1 bD]) (gp++[none]):=⟨h.an,h.ag,h.aj.B6 .f⟩
abbrev uJ (e:Int) (eQ:List (aa .fn)) (L:List (Nat×bc)):ay:=[(1001,.cells [.d (.b' .fn eQ),.d (.int .i64 e)]),(1005,.az (.bt L))]
def si (s:Nat) (gp:List jj) (e:Int):bc where
 bo:=fun I F w p=> ∃(bD:Nat) (eQ:List (aa .fn)) (L:List (Nat×bc)),q2 L bD s eQ gp/\j8 1001 (uJ e eQ L) I F w p
 cj:=fun I F w I' w' p ⟨bD,eQ,L,Z,h⟩ U bg aM=>⟨bD,eQ,L,Z,(bc.iQ 1001 (uJ e eQ L)).cj I F w I' w' p h U bg aM⟩
def pt (b:aH3) (j:Nat):aH3:=laid (List.replicate 16 0) 0 16 (b.drop (16*j))
def lw (b:aH3) (k k5:Int):Nat->List jj
 |0=>[]
 |j+1=>lw b k k5 j++[some (2+k*k5+(j:Nat),pt b j)]
def zM (b:aH3) (k k5:Int): ∀j,(lw b k k5 j).length=j
 |0=>rfl
 |j+1=>by rw[lw,as9,zM];rfl
def jH (b:aH3):Nat:=(b.length+15)/16
def wl (b:aH3) (n:Int):aH3:=tv (h4 4 [(n+1).toNat,b.length,(lS b).toNat])
def tw (b:aH3) (k k5 n:Int):List jj:=lw b k k5 (jH b)++[none]++[some (k,wl b n)]++[none]
abbrev WT (b:aH3) (bD:Nat) (n k:Int) (j:Nat):aW:=[(1,bE .u8 b),(2,dd bD),(8,ab n),(9,ab k),(10,ap 10),(11,.c (.one (.c2 276 [.d (.aL (some bD))]))),(12,.c (.one (.c2 278 [.p 10 0,.d (.aL (some bD))]))),(13,ab (16*(j:Nat)))]
abbrev WU (M:fo) (d:Nat) (eQ:List (aa .fn)) (L:List (Nat×bc)):ay:=[(10,.cells [.ptr 37 0]),(37,.cells [.own d,.d (.int .i64 0)]),(d,.row 121 .fn eQ),(1005,.az (.bt L)),(1003,.az (.bt (fy M)))]
def ank {m:cN} (ai:hQ m) (G:2<=m.n) {s:Nat} {M:fo} (ak:jZ M s=some m) (b:aH3) (O:(b.length:Int)<=dU m.n*16) (IJ:(hy m 2).2.2 < 1073741824) (IK:0<=(hy m 2).2.2) (jB: -1<=(hy m 2).1/\(hy m 2).1<=1):
  Fn prog 251 [dd s,bE .u8 b] [(1003,.az (.bt (fy M)))] [2001] (.b4 [.one (.ptr 2001 0),dw 0]) [(1003,.az (.bt (fy M))),(2001,.az (si s (tw b (((hy m 2).1+1) % 2) (dU m.n) (hy m 2).2.2) 0))]:=by
 obtain⟨a0,bM⟩:=ER G ai.cC;have kT:=ai.cC;have fO:b.length<=1000000:=aE5
 refine aP [8,18,20] func251 ?_;refine⟨rfl,av (WR ai G ak) ?_⟩;generalize hy m 2=ba at IJ IK jB⊢;obtain⟨xK,asU,n⟩:=ba;simp only at IJ IK jB⊢;refine av (B5 ak) <| av (OK m.n ai.ts ai.cC) ⟨fun c=>?_,fun _=>?_⟩
 .have c:dU m.n*16 < (b.length:Int):=gd c;omega
 refine⟨fun c=>at1 (gd c) aD7,fun _=>?_⟩;have cr: -9223372036854775808<=xK+1/\xK+1<=9223372036854775807:=aE5
 have cv:0<=xK+1/\(0:Int) < 2:=aE5
 have dm: -9223372036854775808<=(xK+1) % 2/\(xK+1) % 2<=9223372036854775807:=aE5
 refine⟨cr,cv,dm,?_⟩;have Z:(xK+1) % 2=0\/(xK+1) % 2=1:=aE5
 generalize(xK+1) % 2=k at Z⊢;refine⟨rfl,rfl,bG.le (ac.vy 1005 rfl) <| bG.le (ac.AC 37 0 3006 121 .fn rfl rfl rfl) <| bG.fW (dF.box 2 2 1005 rfl rfl aD8 rfl) fun bD=>bw [] (bn) ?_⟩;refine dZ [12,15] (X:=Nat×List (aa .fn)×List (Nat×bc)) (fun x=>WT b bD n k x.1) (fun x=>WU M 3006 x.2.1 x.2.2) (fun x=>x.1<=jH b/\q2 x.2.2 bD s x.2.1 (lw b k (dU m.n) x.1)) (fun x=>jH b - x.1) (0,[],[(bD,ho (.aL (some s)))]) ⟨at6 _,fun p ag=>(by rw[au5] at ag;rw[ag];exact zL _),by unfold eZ;rw[vj rfl],trivial⟩ ?_ ?_
 .exact ac.sub aA aA
 rintro⟨j,eQ,L⟩ ⟨V,cR⟩;have V:j<=jH b:=V;have cR:q2 L bD s eQ (lw b k (dU m.n) j):=cR;have bW:=cR.aj.len;rw[zM] at bW;refine⟨fun J=>?_,fun J=>?_⟩
 .have J:(16*(j:Nat):Int) < (b.length:Nat):=gd J;have fb:j < jH b:=by unfold jH;omega
  refine⟨⟨rfl,aD8,aD8⟩,rfl,?_⟩;have ou:0<=(16*(j:Nat):Int)/\(16*(j:Nat):Int)<=(b.length:Nat):=aE5
  refine⟨ou,aD8,bG.le (ac.dH 46 rfl) <| bG.iF eY aE0 <| bm (Dz (q:=1005) rfl underlying231 rfl rfl rfl cR.ag) ?_⟩;refine ov ((B5 ak).x) fun _=>ov ((IH m.n ai.ts ai.cC).x) fun _=>?_
  have mw: -9223372036854775808<=k*dU m.n/\k*dU m.n<=9223372036854775807:=by rcases Z with rfl |rfl <;>omega
  have yO: -9223372036854775808<=2+k*dU m.n/\2+k*dU m.n<=9223372036854775807:=by rcases Z with rfl |rfl <;>omega
  have K9:0<=(16*(j:Nat):Int)/\(0:Int) < 16:=aE5
  have anl: -9223372036854775808<=(16*(j:Nat):Int)/16/\(16*(j:Nat):Int)/16<=9223372036854775807:=aE5
  have ET:(16*(j:Nat):Int)/16=(j:Nat):=aE5
  have anm: -9223372036854775808<=2+k*dU m.n+(16*(j:Nat):Int)/16/\2+k*dU m.n+(16*(j:Nat):Int)/16<=9223372036854775807:=by rcases Z with rfl |rfl <;>omega
  refine⟨mw,yO,K9,anl,anm,ov (cD.aT [(1001,10),(1002,37),(1006,3006),(2006,4006)] (WL (2+k*dU m.n+(16*(j:Nat):Int)/16) _ bD 0 eQ L aD7)) fun g=>bG.fW (dF.Dw 1005 ?_ rfl) fun dL=>?_⟩
  .intro p ag;rcases at7.1 ag with rfl |ag
   .exact zL _
   .rcases at7.1 ag with rfl |ag
    .exact zL _
    .exact cR.an p ag
  have lN:laid (List.replicate (Int.toNat 16) 0) 0 (List.replicate (Int.toNat 16) (0:UInt8)).length (List.drop (16*(j:Nat):Int).toNat (List.take b.length b))=pt b j:=by
   unfold pt;rw[av0,show(16*(j:Nat):Int).toNat=16*j by omega];rfl
  have ann:q2 ((g.2,ho (.b' .u8 (pt b j)))::(g.1,ho (.int .i64 (2+k*dU m.n+(16*(j:Nat):Int)/16)))::L) bD s (eQ++[oP bD g.1 g.2]) (lw b k (dU m.n) (j+1)):=by
   have bB:=cR.write (a:=g.1) (b:=g.2) (at_:=2+k*dU m.n+(16*(j:Nat):Int)/16) (x:=pt b j) (by rw[<-lN];exact dL.down);have ano:(some (2+k*dU m.n+(16*(j:Nat):Int)/16,pt b j):jj)=some (2+k*dU m.n+(j:Nat),pt b j):=by rw[ET]
   rw[ano] at bB;exact bB
  have anp: -9223372036854775808<=(16*(j:Nat):Int)+16/\(16*(j:Nat):Int)+16<=9223372036854775807:=aE5
  refine bw [] (bn) ⟨anp,?_⟩;refine⟨(j+1,eQ++[oP bD g.1 g.2],(g.2,ho (.b' .u8 (pt b j)))::(g.1,ho (.int .i64 (2+k*dU m.n+(16*(j:Nat):Int)/16)))::L),⟨fb,ann⟩,by show jH b - (j+1) < jH b - j;omega,ac.trans (ac.sub (K':=WT b bD n k (j+1)) (B':=WU M 4006 (eQ++[oP bD g.1 g.2]) ((g.2,ho (.b' .u8 (pt b j)))::(g.1,ho (.int .i64 (2+k*dU m.n+(16*(j:Nat):Int)/16)))::L)) ⟨rfl,rfl,rfl,rfl,rfl,rfl,rfl,?_,trivial⟩ ⟨rfl,rfl,rfl,?_,rfl,trivial⟩) (ac.aT 4006 3006 rfl)⟩
  .show(16*(j:Nat):Int)+16=16*((j+1:Nat):Int);omega
  .rw[<-lN];rfl
 .have J: ¬(16*(j:Nat):Int) < (b.length:Nat):=oj J;have fb:j=jH b:=by unfold jH at V⊢;omega
  subst fb;have aw:=Wx b;have l2:jH b<=100000:=by unfold jH;omega
  have r1: -9223372036854775808<=n+1/\n+1<=9223372036854775807:=aE5
  refine⟨r1,?_⟩;refine av (Ov [b] aD9 (fun y aD=>by rw[au5] at aD;rw[aD];omega)) ?_;have af:([b]:aJ5).flatten=b:=by simp
  rw[af]
  have ao:([n+1,((b.length:Nat):Int),lS b]:List Int)=uG [(n+1).toNat,b.length,(lS b).toNat]:=by
   show _=[(((n+1).toNat:Nat):Int),((b.length:Nat):Int),(((lS b).toNat:Nat):Int)];rw[show(((n+1).toNat:Nat):Int)=n+1 by omega,show(((lS b).toNat:Nat):Int)=lS b by omega]
  refine⟨_,_,_,_,Fn.arg (Fn.aT [(1002,5002)] (V8 4 [(n+1).toNat,b.length,(lS b).toNat] (by unfold W;omega) (fun x hx=>by
   simp only[at7,List.not_mem_nil,or_false] at hx;rcases hx with rfl |rfl |rfl <;>omega) aD9)) ⟨rfl,rfl,ao,trivial⟩,trivial,rfl,?_⟩
  have jx:eQ.length+1<=4294967296:=aE5
  refine⟨jx,rfl,rfl,bG.le (ac.dH 5002 rfl) <| bG.iF eY aE0 ?_⟩;have anq:(h4 4 [(n+1).toNat,b.length,(lS b).toNat]).length<=1000000:=by rw[xE];simp
  refine ov ((WM (h4 4 [(n+1).toNat,b.length,(lS b).toNat]) anq).x) fun _=>?_
  refine ov (cD.aT [(1001,10),(1002,37),(1006,83),(2006,4006)] (WL k (wl b n) bD 0 (eQ++[q1 bD]) L (by rw[as9];simp;omega))) fun g=>?_
  have iq:(eQ++[q1 bD]++[oP bD g.1 g.2]).length+1<=4294967296:=aF5
  refine⟨iq,rfl,rfl,bG.fW (dF.Dw 1005 ?_ rfl) fun dL=>?_⟩
  .intro p ag;rcases at7.1 ag with rfl |ag
   .exact zL _
   .rcases at7.1 ag with rfl |ag
    .exact zL _
    .exact cR.an p ag
  have anr:=(cR.qd.write (a:=g.1) (b:=g.2) (at_:=k) (x:=wl b n) dL.down).qd;exact bw [] (ac.dH 98 rfl) ⟨_,_,_,(ac.aT 37 2001 rfl).trans (ac.close 2001 [(2001,.cells [.d (.b' .fn (eQ++[q1 bD]++[oP bD g.1 g.2]++[q1 bD])),.d (.int .i64 0)]),(1005,.az (.bt ((g.2,ho (.b' .u8 (wl b n)))::(g.1,ho (.int .i64 k))::L)))] (o:=si s (tw b k (dU m.n) n) 0) aA rfl fun I F w p h=>⟨bD,_,_,anr,j8.aT [(2001,1001)] h⟩),rfl,aA,aA,rfl⟩
end
section
def WV {f:aI9} {args:List aN} {s:Nat} {gp ON:List jj} {e cc:Int} {aK aO:ay} {res:aN} (J:jp prog f=true)
  (h: ∀(bD:Nat) (eQ:List (aa .fn)) (L:List (Nat×bc)),q2 L bD s eQ gp-> ∃(B7:List (aa .fn)),q2 L bD s B7 ON/\Fn prog f args (uJ e eQ L++aK) [] res (uJ cc B7 L++aO))
  (E: ∀(eQ:List (aa .fn)) (L:List (Nat×bc)),om 1001 [1005] args (uJ e eQ L) aK [] []=true) (G: ∀(eQ:List (aa .fn)) (L:List (Nat×bc)),oo 1001 [1005] res (uJ cc eQ L) aO=true):
  Fn prog f args ((1001,.az (si s gp e))::aK) [] res ((1001,.az (si s ON cc))::aO):=by
 refine Fn.Gz (Y:={y:Nat×List (aa .fn)×List (Nat×bc)//q2 y.2.2 y.1 s y.2.1 gp}) (s1:=fun y=>bc.iQ 1001 (uJ e y.1.2.1 y.1.2.2)) J (fun I F w p ⟨bD,eQ,L,Z,aV⟩=>⟨⟨(bD,eQ,L),Z⟩,aV⟩) fun⟨⟨bD,eQ,L⟩,Z⟩=>?_
 obtain⟨B7,ans,hf⟩:=h bD eQ L Z;exact(cD.close (bq:=uJ e eQ L) (dI:=fun _:Unit=>uJ cc B7 L) (aO:=fun _=>aO) (o:=bc.iQ 1001 (uJ e eQ L)) (o':=fun _=>si s ON cc) [1005] hf.x (fun _ _ _ _ h=>h) (fun _ I F w p aV=>⟨bD,B7,L,ans,aV⟩) (E eQ L) (fun _=>G B7 L)).fn
def ant (s:Nat) (gp:List jj) (e:Int):Fn prog 252 [ap 1001] [(1001,.az (si s gp e))] [] (ab (gp.length:Nat)) [(1001,.az (si s gp e))]:=by
 refine WV (aK:=[]) (aO:=[]) aE0 (fun bD eQ L Z=>⟨eQ,Z,?_⟩) (fun _ _=>rfl) fun _ _=>rfl
 refine aP [] func252 ?_;exact ea bn rfl (at2 (fun n:Nat=>(n:Int)) Z.aj.len)
def wm (m:cN):jj->cN×Int
 |none=>(m.qd,0)
 |some (a,x)=>m.write a x
def IL {α:Type} (f:α) (l:List α):List.drop 1 (List.take (f::l).length (f::l))=l:=by rw[av0];rfl
def anu {s:Nat} {st:jj} {rest:List jj} {M:fo} {m:cN} (ak:jZ M s=some m) (ai:hQ m) (al:m.jy.length<=1073741824) (hx: ∀a x,st=some (a,x)->x.length<=1073741824) (U:(wm m st).2=0):
  Fn prog 253 [ap 1001] [(1001,.az (si s (st::rest) 0)),(1003,.az (.bt (fy M)))] [] (.b4 [.one (.d (.bool (decide ((rest.length:Int)=0)))),dw 0]) [(1001,.az (si s rest 0)),(1003,.az (.bt (fy (jG M s (wm m st).1))))]:=by
 refine WV (aK:=[(1003,.az (.bt (fy M)))]) (aO:=[(1003,.az (.bt (fy (jG M s (wm m st).1))))]) aE0 (fun bD eQ L Z=>?_) (fun _ _=>rfl) fun _ _=>rfl
 match eQ,Z with
 | [],Z=>exact Z.aj.elim
 |f::l,Z=>
  refine⟨l,⟨Z.an,Z.ag,Z.aj.2⟩,?_⟩;have bW:=Z.aj.2.len;have ed:=Z.aj.1
  cases ed with
  |f=>
   refine aP [] func253 ?_;refine⟨fun c=>?_,fun _=>?_⟩
   .have c:(((q1 bD::l).length:Nat):Int)=0:=gd c;simp at c;omega
   refine⟨aD8,q1 bD,rfl,av (am' Z.ag ak) ?_⟩;have q:0<=(1:Int)/\(1:Int)<=(((q1 bD::l).length:Nat):Int):=by rw[aw7];omega
   refine⟨q,dh <| fR ⟨rfl,_,_,_,bn,rfl,⟨?_,rfl,trivial⟩,⟨?_,rfl,rfl,trivial⟩,rfl⟩⟩
   .show decide (((List.drop 1 (List.take (q1 bD::l).length (q1 bD::l))).length:Int)=0)=_;rw[IL,bW]
   .show some (a8.cells [.d (.b' .fn (List.drop 1 (List.take (q1 bD::l).length (q1 bD::l)))),.d (.int .i64 0)])=_;rw[IL]
  | @w a b at_ x aS bB=>
   have U:(m.write at_ x).2=0:=U;have hw:=ana Z.ag aS bB ak ai (hx at_ x rfl) al;rw[U] at hw;refine aP [] func253 ?_;refine⟨fun c=>?_,fun _=>?_⟩
   .have c:(((oP bD a b::l).length:Nat):Int)=0:=gd c;simp at c;omega
   refine⟨aD8,oP bD a b,rfl,av hw ?_⟩;have q:0<=(1:Int)/\(1:Int)<=(((oP bD a b::l).length:Nat):Int):=by rw[aw7];omega
   refine⟨q,dh <| fR ⟨rfl,_,_,_,bn,rfl,⟨?_,rfl,trivial⟩,⟨?_,rfl,rfl,trivial⟩,rfl⟩⟩
   .show decide (((List.drop 1 (List.take (oP bD a b::l).length (oP bD a b::l))).length:Int)=0)=_;rw[IL,bW]
   .show some (a8.cells [.d (.b' .fn (List.drop 1 (List.take (oP bD a b::l).length (oP bD a b::l)))),.d (.int .i64 0)])=_;rw[IL]
end
section
def tx (n:Int):jj->Prop
 |none=>True
 |some (a,x)=>0<=a/\a < n/\x.length=16
def anv {n:Int} {s:ji} (h:ps n s):(s.length:Int)<=max n 0:=by
 have:=IG n.toNat (sf s) h.hY fun k Z=>by have:=h.rg k Z;omega
 rw[show(sf s).length=s.length from au3 _] at this;omega
def WW {k:Int} {x:aa g6}: ∀{s:ji},(bX s (k:aa aq)).isSome=true->(tt s k x).length=s.length
 | [],h=>by cases h
 |p::s,h=>by
  rw[B4]
  cases e:nk k p with
  |true=>rfl
  |false=>
   have G:(bX s (k:aa aq)).isSome=true:=by
    have h:(match nk k p with |true=>some p.2 |false=>bX s (k:aa aq)).isSome=true:=h;rw[e] at h;exact h
   simp only[aw7];rw[WW G]
def WX {k:Int} {x:aa g6}: ∀{s:ji},(bX s (k:aa aq)).isSome=false->(tt s k x).length=s.length+1
 | [],_=>rfl
 |p::s,h=>by
  rw[B4];have h:(match nk k p with |true=>some p.2 |false=>bX s (k:aa aq)).isSome=false:=h
  cases e:nk k p with
  |true=>rw[e] at h;cases h
  |false=>
   rw[e] at h;simp only[aw7];rw[WX h]
def WY {m:cN} (ai:hQ m) (aj:m.n<=m.R) {a:Int} {x:aH3} (h:tx m.n (some (a,x))):m.write a x=(m.IC a x,0):=by
 obtain⟨E,G,ah⟩:=h;have af:wi x=false:=by unfold wi;rw[ah];rfl
 have ao:m.lv a (x.length/16:Nat)=true:=by
  rw[ah];simp only[cN.lv,as8,aw0];omega
 have Z:(ps m.n (zH a x m.ca 1)):=OH E ai.ca 1 aD7 aD7
 have bW:((zH a x m.ca 1).length:Nat)=m.ca.length+mh m.ca a 1:=by
  show(tt m.ca (a+(0:Nat)) (tr x 0)).length=m.ca.length+(match(bX m.ca (a+(0:Nat):Int)).isSome with |true=>0 |false=>0+1)
  cases e:(bX m.ca (a+(0:Nat):Int)).isSome with
  |true=>exact WW e
  |false=>exact WX e
 have br:m.sg a (x.length/16)=false:=by
  rw[ah];unfold cN.sg;rw[Bool.and_eq_false_iff];left;refine ax2 fun bv=>?_
  have bB:=anv Z;have:=ai.ts;have bv:m.R < ((m.ca.length+mh m.ca a 1:Nat):Int):=bv;rw[<-bW] at bv;omega
 unfold cN.write;rw[af];simp only;rw[ao];simp only;rw[br]
def nU (m:cN) (l:List jj):cN:=l.foldl (fun m st=>(wm m st).1) m
def B8 (m:cN) (l:List jj) (st:jj):nU m (l++[st])=(wm (nU m l) st).1:=by unfold nU;rw[aB9];rfl
structure OO (m hm:cN) (i:Nat):Prop where
 ok:hQ hm
 n:hm.n=m.n
 R:hm.R=m.R
 lo:hm.jy.length<=m.jy.length+i
def WZ {m:cN} (ai:hQ m) (aj:m.n<=m.R) {st:jj} (h:tx m.n st):(wm m st).2=0/\OO m (wm m st).1 1:=by
 match st,h with
 |none,_=>exact⟨rfl,ai.qd,rfl,rfl,at6 _⟩
 |some (a,x),h=>
  have e:=WY ai aj h;have hw:=ai.write a x;show(m.write a x).2=0/\OO m (m.write a x).1 1;rw[e] at hw⊢;refine⟨rfl,hw,rfl,rfl,?_⟩;show(xJ a x m.jy (x.length/16)).length<=_;rw[Oy,h.2.2];exact at0 _
def EU {m:cN} (ai:hQ m) (aj:m.n<=m.R): ∀(i:Nat) (l:List jj),(∀st∈l,tx m.n st)->i<=l.length->OO m (nU m (l.take i)) i
 |0,l,_,_=>⟨ai,rfl,rfl,at0 _⟩
 |i+1,l,h,hi=>by
  have bk:=EU ai aj i l h aD7;rw[ay2 hi,B8];have G:=(WZ bk.ok (by rw[bk.n,bk.R];exact aj) (st:=l[i]) (by rw[bk.n];exact h _ (av5 hi))).2;exact⟨G.ok,G.n.trans bk.n,G.R.trans bk.R,by have:=G.lo;have:=bk.lo;omega⟩
def W0 {a:Nat} {m1 m2:cN}: ∀L:fo,jG (jG L a m1) a m2=jG L a m2
 | []=>rfl
 |p::L=>by
  show jG (if p.1=a then(p.1,m1)::L else p::jG L a m1) a m2=if p.1=a then(p.1,m2)::L else p::jG L a m2
  by_cases e:p.1=a
  .rw[vj e,vj e];show(if p.1=a then(p.1,m2)::L else _)=_;rw[vj e]
  .rw[mu e,mu e];show(if p.1=a then _ else p::jG (jG L a m1) a m2)=_;rw[mu e,W0]
def W1 {a:Nat} {m hm:cN}: ∀{L:fo},jZ L a=some m->jZ (jG L a hm) a=some hm
 | [],h=>by cases h
 |p::L,h=>by
  rw[zJ] at h;show jZ (if p.1=a then(p.1,hm)::L else p::jG L a hm) a=_
  by_cases e:p.1=a
  .rw[vj e,zJ,vj e]
  .rw[mu e] at h⊢;rw[zJ,mu e];exact W1 h
def anw (b:aH3) (j:Nat):(pt b j).length=16:=by unfold pt laid;simp only[as9,at9,ax8,au2];omega
def W2 (b:aH3) (n:Int):(wl b n).length=16:=by unfold wl tv;rw[as9,qY,xE];rfl
def W3 {b:aH3} {k k5:Int} {st:jj}: ∀{j:Nat},st∈lw b k k5 j-> ∃i:Nat,i < j/\st=some (2+k*k5+(i:Nat),pt b i)
 |0,h=>by cases h
 |j+1,h=>by
  rw[lw,av9,au5] at h;rcases h with h |h
  .obtain⟨i,E,G⟩:=W3 h;exact⟨i,aD7,G⟩
  .exact⟨j,aD7,h⟩
def W4 {m:cN} (ai:hQ m) (G:2<=m.n) {b:aH3} (O:(b.length:Int)<=dU m.n*16) {k:Int} (Z:k=0\/k=1) (n:Int): ∀st∈tw b k (dU m.n) n,tx m.n st:=by
 obtain⟨a0,bM⟩:=ER G ai.cC;intro st ed;unfold tw at ed;simp only[av9,au5] at ed;rcases ed with((h |h) |h) |h
 .obtain⟨i,E,rfl⟩:=W3 h;have:(i:Int) < dU m.n:=by unfold jH at E;omega
  refine⟨?_,?_,anw b i⟩
  .rcases Z with rfl |rfl <;>omega
  .rcases Z with rfl |rfl <;>omega
 .rw[h];trivial
 .rw[h];exact⟨aD7,aD7,W2 b n⟩
 .rw[h];trivial
def anx (b:aH3) (k k5 n:Int):(tw b k k5 n).length=jH b+3:=by unfold tw;simp[zM]
abbrev anz (N i:Nat):aW:=[(5,ap 3001),(6,ab 0),(17,ab (N:Nat)),(18,ab (i:Nat))]
abbrev anA (s:Nat) (gp:List jj) (M:fo):ay:=[(3001,.az (si s gp 0)),(1003,.az (.bt (fy M)))]
def anB {m:cN} (ai:hQ m) (aj:m.n<=m.R) {s:Nat} {M:fo} (ak:jZ M s=some m) {gp:List jj} (aw: ∀st∈gp,tx m.n st) (al:m.jy.length+gp.length<=1000000) {i:Nat} (hi:i < gp.length):
  Fn prog 253 [ap 1001] [(1001,.az (si s (gp.drop i) 0)),(1003,.az (.bt (fy (jG M s (nU m (gp.take i))))))] [] (.b4 [.one (.d (.bool (decide (((gp.drop (i+1)).length:Int)=0)))),dw 0])
   [(1001,.az (si s (gp.drop (i+1)) 0)),(1003,.az (.bt (fy (jG M s (nU m (gp.take (i+1)))))))]:=by
 have E:=EU ai aj i gp aw aD7;have ed:=aw _ (av5 hi)
 have G:=anu (s:=s) (st:=gp[i]) (rest:=gp.drop (i+1)) (M:=jG M s (nU m (gp.take i))) (W1 ak) E.ok (by have:=E.lo;omega) (fun a x e=>by
  rw[e] at ed;have:=ed.2.2;omega) (WZ E.ok (by rw[E.n,E.R];exact aj) (by rw[E.n];exact ed)).1
 rw[W0,<-B8,<-ay2 hi,<-aA4 hi] at G;exact G
def anC {m:cN} (ai:hQ m) (G:2<=m.n) (aj:m.n<=m.R) (al:m.jy.length<=10000) {s:Nat} {M:fo} (ak:jZ M s=some m) (b:aH3) (O:(b.length:Int)<=dU m.n*16) (IJ:(hy m 2).2.2 < 1073741824) (IK:0<=(hy m 2).2.2) (jB: -1<=(hy m 2).1/\(hy m 2).1<=1):
  Fn prog 214 [dd s,bE .u8 b] [(1003,.az (.bt (fy M)))] [] (ab 0) [(1003,.az (.bt (fy (jG M s (nU m (tw b (((hy m 2).1+1) % 2) (dU m.n) (hy m 2).2.2))))))]:=by
 have Ap:=ank ai G ak b O IJ IK jB;have bu:=W4 ai G O (k:=((hy m 2).1+1) % 2) aD7 (hy m 2).2.2;have ir:=anx b (((hy m 2).1+1) % 2) (dU m.n) (hy m 2).2.2;obtain⟨a0,bM⟩:=ER G ai.cC;have kT:=ai.cC;have l2:jH b<=100000:=by unfold jH;omega
 generalize tw b (((hy m 2).1+1) % 2) (dU m.n) (hy m 2).2.2=gp at Ap bu ir⊢;refine aP [] func214 ?_;refine av (Fn.aT [(2001,3001)] Ap) <| dh <| av (Fn.aT [(1001,3001)] (ant s gp 0)) <| dZ [] (X:=Nat) (fun i=>anz gp.length i) (fun i=>anA s (gp.drop i) (jG M s (nU m (gp.take i)))) (fun i=>i<=gp.length) (fun i=>gp.length - i) 0 (at6 _) ?_ ?_
 .refine ac.sub aA ⟨rfl,?_,trivial⟩;show _=some (a8.az (.bt (fy (jG M s m))));rw[II ak];rfl
 intro i hi;refine⟨fun h=>?_,fun h=>?_⟩
 .have h:decide ((i:Int) < (gp.length:Nat))=true:=h;have dc:i < gp.length:=aE6
  exact av (Fn.aT [(1001,3001)] (anB ai aj ak bu aD7 dc)) ⟨aD7,i+1,aD7,aD7,ac.sub aA aA⟩
 .have h:decide ((i:Int) < (gp.length:Nat))=false:=h;have dc:i=gp.length:=aH1
  subst dc;rw[av0];exact bb
end
section
def OP (x:aa g6):aH3:=x
def B9:aH3:=List.replicate 16 0
def anD (a:Int):iJ [] a=B9:=rfl
def EV (p:aa aq×aa g6) (s:ji) (a:Int):iJ (p::s) a=match nk a p with |true=>OP p.2 |false=>iJ s a:=by
 unfold iJ EO;show(match nk a p with |true=>some p.2 |false=>bX s (a:aa aq)).getD (cO g6)=_
 cases nk a p <;>rfl
def W5 (k:Int) (x:aa g6) (a:Int): ∀s:ji,iJ (tt s k x) a=if k=a then OP x else iJ s a
 | []=>by
  rw[IF,EV,anD]
  by_cases h:k=a
  .rw[vj h,show nk a (zI k x)=true from tu.2 h.symm];rfl
  .rw[mu h,show nk a (zI k x)=false from aA7.2 fun e=>h (tu.1 e).symm]
 |p::s=>by
  rw[B4]
  cases e:nk k p with
  |true=>
   have e:=tu.1 e;simp only;rw[EV,EV]
   by_cases h:k=a
   .rw[vj h,show nk a (zI k x)=true from tu.2 h.symm];rfl
   .rw[mu h,show nk a (zI k x)=false from aA7.2 fun ao=>h (tu.1 ao).symm,show nk a p=false from aA7.2 fun ao=>h (e.trans (tu.1 ao).symm)]
  |false=>
   have e: ¬k=EQ p:=fun h=>by rw[tu.2 h] at e;cases e
   simp only;rw[EV,EV,W5 k x a s]
   by_cases h:k=a
   .simp only[vj h,show nk a p=false from aA7.2 fun ao=>e (h.trans (tu.1 ao))]
   .simp only[mu h]
def anE (m:cN) {a:Int} {x:aH3} (hx:x.length=16) (i:Int):iJ (m.IC a x).ca i=if a=i then x else iJ m.ca i:=by
 show iJ (zH a x m.ca (x.length/16)) i=_;rw[hx];show iJ (tt m.ca (a+(0:Nat)) (tr x 0)) i=_;rw[W5,show a+((0:Nat):Int)=a by omega]
 have e:OP (tr x 0)=x:=by
  show IA x 0=x;rw[amY];show(x.drop 0).take 16=x;rw[List.drop_zero,<-hx,av0]
 rw[e]
def W6 {m:cN} (ai:hQ m) (aj:m.n<=m.R) {a:Int} {x:aH3} (h:tx m.n (some (a,x))) (i:Int):iJ (wm m (some (a,x))).1.ca i=if a=i then x else iJ m.ca i:=by show iJ (m.write a x).1.ca i=_;rw[WY ai aj h];exact anE m h.2.2 i
def OQ {m:cN} (ai:hQ m) (aj:m.n<=m.R) {b:aH3} {k k5:Int} (i:Int): ∀j:Nat,(∀st∈lw b k k5 j,tx m.n st)->
  iJ (nU m (lw b k k5 j)).ca i=if 2+k*k5<=i/\i < 2+k*k5+(j:Nat) then pt b (i - (2+k*k5)).toNat else iJ m.ca i
 |0,_=>by
  show iJ m.ca i=_;rw[mu aD7]
 |j+1,h=>by
  have E: ∀st∈lw b k k5 j,tx m.n st:=fun st aw=>h st (av9.2 (.inl aw))
  have G:tx m.n (some (2+k*k5+(j:Nat),pt b j)):=h _ (av9.2 (.inr (au5.2 rfl)));have bk:=OQ ai aj i j E;have Z:=EU ai aj j (lw b k k5 j) E (by rw[zM];exact at0 _);rw[ax3 (by rw[zM];exact at0 _)] at Z;rw[lw,B8,W6 Z.ok (by rw[Z.n,Z.R];exact aj) (by rw[Z.n];exact G),bk]
  by_cases e:2+k*k5+(j:Nat)=i
  .rw[vj e,vj aD7]
   congr 1
   omega
  .rw[mu e]
   by_cases ao:2+k*k5<=i/\i < 2+k*k5+(j:Nat)
   .rw[vj ao,vj aD7]
   .rw[mu ao,mu aD7]
def k6 (n R:Int):cN:=⟨n,R,[],[],[]⟩
def wn (n R:Int) (b:aH3):cN:=nU (k6 n R) (tw b 0 (dU n) 0)
structure W7 (m:cN) (n R:Int) (b:aH3):Prop where
 ok:hQ m
 n:m.n=n
 R:m.R=R
 lo:m.jy=[]
 anF:m.we=m.ca
 b9:iJ m.ca 0=wl b 0
 kr:iJ m.ca 1=B9
 asV: ∀i:Nat,iJ m.ca (2+(i:Nat))=if i < jH b then pt b i else B9
def anG {n R:Int} (hn:se n=true) (G:2<=n) (aj:n<=R) {b:aH3} (O:(b.length:Int)<=dU n*16):W7 (wn n R b) n R b:=by
 have ai:hQ (k6 n R):=hQ.new hn;have aw:=W4 (m:=k6 n R) ai G O (k:=0) (.inl rfl) 0;obtain⟨a0,bM⟩:=ER G ai.cC;have dM:=EU ai aj _ _ aw (at0 _);rw[av0] at dM;have E: ∀st∈lw b 0 (dU n) (jH b),tx n st:=fun st h=>aw st (by unfold tw;simp only[av9];exact .inl (.inl (.inl h)))
 have hw:=EU ai aj (jH b) (lw b 0 (dU n) (jH b)) E (by rw[zM];exact at0 _);rw[ax3 (by rw[zM];exact at0 _)] at hw;have ph:hQ (nU (k6 n R) (lw b 0 (dU n) (jH b))).qd:=hw.ok.qd
 have e:wn n R b=(wm (nU (k6 n R) (lw b 0 (dU n) (jH b))).qd (some (0,wl b 0))).1.qd:=by
  unfold wn tw;rw[B8,B8,B8];rfl
 have EW: ∀i,iJ (wn n R b).ca i=if 0=i then wl b 0 else iJ (nU (k6 n R) (lw b 0 (dU n) (jH b))).ca i:=fun i=>by
  rw[e]
  exact W6 ph (by show(nU (k6 n R) (lw b 0 (dU n) (jH b))).n<=(nU (k6 n R) (lw b 0 (dU n) (jH b))).R;rw[hw.n,hw.R];exact aj) (by
   show tx (nU (k6 n R) (lw b 0 (dU n) (jH b))).n _;rw[hw.n];exact⟨aD8,by show(0:Int) < n;omega,W2 b 0⟩) i
 have aM: ∀i,iJ (k6 n R).ca i=B9:=fun i=>rfl
 refine⟨dM.ok,dM.n,dM.R,by rw[e];rfl,by rw[e];rfl,?_,?_,fun i=>?_⟩
 .rw[EW,vj rfl]
 .rw[EW,mu aD8,OQ ai aj 1 _ E,mu aD7,aM]
 .rw[EW,mu aD7,OQ ai aj _ _ E,aM]
  by_cases hi:i < jH b
  .rw[vj aD7,vj hi]
   congr 1
   omega
  .rw[mu aD7,mu hi]
def anH:(nS B9).2=false:=by kernel_rfl
def anI (s:ji) (a:Int):q0 s a 1=iJ s a:=by unfold q0;rw[show List.range 1=[0] from rfl,aD0,List.flatMap_nil,av2];show iJ s (a+((0:Nat):Int))=_;rw[show a+((0:Nat):Int)=a by omega]
def W8 {m:cN} {k:Int} (h:iJ m.ca k=B9):qf m k=([],0):=by
 unfold qf
 have e:(nS (nT m k)).2=false:=by
  unfold nT;rw[anI,h];exact anH
 rw[e]
def IM (n R:Int):hy (k6 n R) 2=(-1,[],0):=by
 have ar:qf (k6 n R) ((0:Nat):Int)=([],0):=W8 rfl;have E:qf (k6 n R) ((1:Nat):Int)=([],0):=W8 rfl
 have af:hy (k6 n R) 1=(-1,[],0):=by
  unfold hy;rw[ar];exact mu (show¬(0:Int) < 0 by decide)
 unfold hy;rw[af,E];exact mu (show¬(0:Int) < 0 by decide)
end
section
def W9 {L:aI5} {b:cb}:gJ L b=0↔hv b=true/\L.find? (fun y=>decide (er y=er b))=none/\L.length < 64/\(dx b≠[]-> ∃x,L.find? (fun y=>decide (er y=dx b))=some x/\c7 x=c7 b):=by
 constructor
 .intro h;obtain⟨bM,bU,a3,a4⟩:=N9 h;refine⟨bM,(Ip _ _).1 bU,a3,fun ag=>?_⟩;have ar:=a4 (by simpa using ag);obtain⟨x,hx⟩:=Iq ar;refine⟨x,hx,?_⟩
  by_cases O:c7 x=c7 b
  .exact O
  .exfalso;have dq:=hx;rw[<-BY] at dq;unfold p' at dq;rw[vj ar] at dq;unfold gJ at h;rw[dq] at h
   split at h
   .cases h
   split at h
   .cases h
   rw[vj (by simp[ag,O])] at h
   cases h
 .rintro⟨bM,bU,a3,a4⟩;have R3:=(Ip _ _).2 bU;unfold gJ;rw[mu (by rw[bM];simp;omega)]
  by_cases ag:dx b=[]
  .rw[mu (by simp[ag]),mu (by simp[ag])]
  .obtain⟨x,hx,O⟩:=a4 ag
   have ar:0<=e5 L (dx b):=by
    rcases Int.lt_or_le (e5 L (dx b)) 0 with h |h
    .rw[(Ip _ _).1 h] at hx;cases hx
    .exact h
   have dq:=hx;rw[<-BY] at dq;unfold p' at dq;rw[vj ar] at dq;rw[mu aF5,dq,mu (by simp[O])]
def sj (L:aI5):Prop:= ∀(k:Nat) (b:cb),L[k]? =some b->gJ (L.take k) b=0
def sj.nil:sj []:=fun k b h=>by simp at h
def sj.add {L:aI5} (h:sj L) (b:cb):sj (g5 L b):=by
 unfold g5
 split
 .rename_i aY;intro k c J;rcases VV k c J with E |⟨rfl,rfl⟩
  .have Z:=(au0.1 E).1;rw[List.take_append_of_le_length aD7];exact h k c E
  .rw[List.take_left];exact aY
 .exact h
def anJ {α:Type} (L:List α) {k j:Nat} (h:k<=j):(L.eraseIdx k).take j=(L.take (j+1)).eraseIdx k:=by
 refine aB2 fun i=>?_
 rw[ay5,aC6,aC6,ay5,ay5]
 by_cases G:i < k
 .have a:i < j:=aE5
  have b:i < j+1:=aE5
  simp[G,a,b]
 .by_cases E:i < j
  .simp[E,G]
  .simp[E,G]
def sj.drop {L:aI5} (h:sj L) (nm:aH3):sj (BX L nm):=by
 unfold BX
 split
 .rename_i aY;obtain⟨E,G⟩:=VZ aY;obtain⟨x,hx⟩:=Iq E;have b1:=List.find?_some hx;simp only[aw0] at b1
  have H6:L[(e5 L nm).toNat]? =some x:=by
   have bU:=BY L nm;unfold p' at bU;rw[vj E,hx] at bU;exact bU
  generalize(e5 L nm).toNat=q at*;have a2:=(au0.1 H6).1;intro j b O;have anK:b∈L:=List.mem_of_mem_eraseIdx (ay0 O);rw[aC6] at O
  split at O
  .rename_i anL
   have:(L.eraseIdx q).take j=L.take j:=by
    refine aB2 fun i=>?_
    rw[ay5,ay5,aC6]
    by_cases ah:i < j
    .rw[vj ah,vj ah,vj aD7]
    .rw[mu ah,mu ah]
   rw[this];exact h j b O
  .rename_i anL;rw[anJ L aD7];have ak:=W9.1 (h (j+1) b O);have OR:(L.take (j+1))[q]? =some x:=by rw[ay5,vj aD7];exact H6
   generalize L.take (j+1)=M at*;obtain⟨bM,bU,a3,a4⟩:=ak;have anM:dx b≠nm:=VY G anK;refine W9.2 ⟨bM,?_,Nat.lt_of_le_of_lt (List.length_eraseIdx_le _ _) a3,fun ag=>?_⟩
   .rw[Oa _ M q x OR (by
     have:=List.find?_eq_none.1 bU x (ay0 OR);simpa using this)]
    exact bU
   .rw[Oa _ M q x OR (by rw[b1];simpa using fun e=>anM e.symm)];exact a4 ag
 .exact h
def Ca (p:kD):xD:=(gn p,mL p)
def xL (b:cb):nj:=(er b,dx b,c7 b,eB b,(cE b).map Ca)
def W' (b:cb):jY (xL b)=b:=by
 have h: ∀l:List kD,(l.map Ca).map tp=l:=fun l=>by rw[ax7];exact List.map_id l
 exact at2 (fun l:List kD=>((er b,dx b,c7 b,eB b,l):cb)) (h (cE b))
def Xa (L:aI5):(L.map xL).map jY=L:=by rw[ax7,show(jY∘xL)=id from funext W',List.map_id]
def anN {p:kD} (h:0<=gn p/\gn p<=65535/\(mL p).length<=128) (t:aH3):wc (k4 p++t,0)=((t,0),Ca p):=by
 have af:fx 2 (k4 p++t,0)=((ki (mL p) 2++t,0),(gn p).toNat):=by
  unfold k4;rw[aw8];exact B0 aD7 _
 have ao:qZ 2 (ki (mL p) 2++t,0)=((t,0),mL p):=Ok aD7 t;unfold wc;rw[af];simp only;rw[ao];refine Prod.ext rfl (Prod.ext ?_ rfl);show(((gn p).toNat:Nat):Int)=gn p;omega
def Xb {bF:List kD} (h: ∀p,p∈bF->0<=gn p/\gn p<=65535/\(mL p).length<=128) (t:aH3): ∀k,k<=bF.length->hj (bF.flatMap k4++t,0) k=(((bF.drop k).flatMap k4++t,0),(bF.take k).map Ca)
 |0,_=>by simp[hj]
 |k+1,Z=>by
  have cd:k < bF.length:=aE5
  have bk:=Xb h t k aD7;unfold hj;rw[bk];simp only;rw[aA4 cd,aD0,aw8,anN (h _ (av5 cd))];simp only;rw[<-v' cd,ay6];rfl
def anO {b:cb} (h:xF b) (t:aH3):kj (kE b++t,0)=((t,0),xL b):=by
 obtain⟨cJ,eH,lm,iT,asW,anP⟩:=h
 have af:E (kE b++t,0)=((ki (dx b) 1++(f' (c7 b).toNat 1++(f' (eB b).toNat 2++(f' (cE b).length 2++((cE b).flatMap k4++t)))),0),er b):=by
  unfold kE E;simp only[aw8];exact Ok aD7 _
 have ao:G (kE b++t,0)=((f' (c7 b).toNat 1++(f' (eB b).toNat 2++(f' (cE b).length 2++((cE b).flatMap k4++t))),0),dx b):=by
  unfold G;rw[af];exact Ok aD7 _
 have br:ah (kE b++t,0)=((f' (eB b).toNat 2++(f' (cE b).length 2++((cE b).flatMap k4++t)),0),(c7 b).toNat):=by
  unfold ah;rw[ao];exact B0 aD7 _
 have c0:aS (kE b++t,0)=((f' (cE b).length 2++((cE b).flatMap k4++t),0),(eB b).toNat):=by
  unfold aS;rw[br];exact B0 aD7 _
 have ft:bB (kE b++t,0)=(((cE b).flatMap k4++t,0),(cE b).length):=by
  unfold bB;rw[c0];exact B0 aD7 _
 have hl:=Xb anP t (cE b).length (at0 _);rw[List.drop_length,av0] at hl;unfold kj Wl;rw[ft];simp only;rw[hl,af,ao,br,c0];refine Prod.ext rfl ?_;show(er b,dx b,(((c7 b).toNat:Nat):Int),(((eB b).toNat:Nat):Int),(cE b).map Ca)=(er b,dx b,c7 b,eB b,(cE b).map Ca);rw[show(((c7 b).toNat:Nat):Int)=c7 b by omega,show(((eB b).toNat:Nat):Int)=eB b by omega]
def Xc {L:aI5} (dO:sj L) (hw: ∀b,b∈L->xF b): ∀k,k<=L.length->oN (L.flatMap kE,0) k=some ((L.take k).map xL,((L.drop k).flatMap kE,0))
 |0,_=>by simp[oN]
 |k+1,Z=>by
  have cd:k < L.length:=aE5
  have bk:=Xc dO hw k aD7;rw[aA4 cd,aD0] at bk;have O:=anO (hw _ (av5 cd)) ((L.drop (k+1)).flatMap kE)
  have:=Wp bk (by rw[O]) (by
   rw[O,Xa];show gJ (L.take k) (jY (xL L[k]))=0;rw[W'];exact dO k _ (as7 cd))
  rw[O] at this;rw[this,<-v' cd,ay6];rfl
def anQ {L:aI5} (dO:sj L) (hw: ∀b,b∈L->xF b) (al:L.length<=64):zE (kF L)=some (L.map xL):=by have af:fx 1 (kF L,0)=((L.flatMap kE,0),L.length):=B0 aD7 _;have ao:=Xc dO hw L.length (at0 _);rw[av0,List.drop_length] at ao;unfold zE;rw[af];simp only;rw[ao];simp[sd]
end
section
end
section
abbrev Xd:aH3:=[97]
abbrev anR:aH3:=[98]
abbrev anS (b:Nat):List (aa .str×aa .aL):=dp [] (Xd:aa .str) (some b:aI4)
abbrev ei (b:Nat):List (aa .str×aa .aL):=dp (gN (anS b) (Xd:aa .str)) (anR:aa .str) (some b:aI4)
end
section
abbrev gR:=List (aa .str×aa .aL)
def mN (es:gR) (k:aH3) (a:aI4):gR:=dp es (k:aa .str) (a:aa .aL)
def j0 (es:gR) (k:aH3):gR:=gN es (k:aa .str)
def IN (k:aH3) (a:aI4):aa .str×aa .aL:=(k,a)
def zN (k:aH3) (p:aa .str×aa .aL):Bool:=fT .str (k:aa .str) p.1
def anT {k:aH3} {p:aa .str×aa .aL}:zN k p=true↔k=wk p:=anf _ _
def OS (k:aH3) (a:aI4):mN [] k a=[IN k a]:=rfl
def OT (p:aa .str×aa .aL) (l:gR) (k:aH3) (a:aI4):mN (p::l) k a=match zN k p with |true=>IN k a::l |false=>p::mN l k a:=rfl
def Xe (p:aa .str×aa .aL) (l:gR) (k:aH3):j0 (p::l) k=match zN k p with |true=>l |false=>p::j0 l k:=rfl
def Xf (p:aa .str×aa .aL) (l:gR) (k:aH3):iY (p::l) k=match zN k p with |true=>sh p |false=>iY l k:=by
 unfold iY;show(match zN k p with |true=>some p.2 |false=>bX l (k:aa .str)).getD (cO .aL)=_
 cases zN k p <;>rfl
def OU (k:aH3): ∀l:gR,(j0 l k).Sublist l
 | []=>List.Sublist.refl _
 |p::l=>by
  rw[Xe]
  split
  .exact List.sublist_cons_self _ _
  .exact(OU k l).cons_cons p
def Xg {k:aH3} {a:aI4} {x:aI4}: ∀{l:gR},x∈(mN l k a).map sh->x=a\/x∈l.map sh
 | [],h=>by
  rw[OS,List.map_singleton,au5] at h;exact .inl h
 |p::l,h=>by
  rw[OT] at h
  split at h
  .rcases at7.1 h with h |h
   .exact .inl h
   .exact .inr (at4 _ h)
  .rcases at7.1 h with h |h
   .exact .inr (h▸au7 ..)
   .rcases Xg h with h |h
    .exact .inl h
    .exact .inr (at4 _ h)
def OV {k:aH3} {a:aI4}: ∀{l:gR},(l.map sh).Nodup->a∉l.map sh->((mN l k a).map sh).Nodup
 | [],_,_=>by rw[OS];simp
 |p::l,h,hn=>by
  rw[au9,aw6] at h;rw[au9,at7,not_or] at hn;rw[OT]
  split
  .rw[au9];exact aw6.2 ⟨hn.2,h.2⟩
  .rw[au9];refine aw6.2 ⟨fun aC=>?_,OV h.2 hn.2⟩;rcases Xg aC with e |e
   .exact hn.1 e.symm
   .exact h.1 e
def OW {k:aH3} {a:Nat}: ∀{l:gR},iY l k=some a->IN k (some a)∈l
 | [],h=>by cases h
 |p::l,h=>by
  rw[Xf] at h
  split at h
  .rename_i e;have e:=anT.1 e;refine at7.2 (.inl ?_);show(k,(some a:aI4))=p;rw[<-h,e];rfl
  .exact at4 _ (OW h)
def EX {k:aH3} {a:aI4} {p:aa .str×aa .aL}: ∀{l:gR},p∈mN l k a->p=IN k a\/p∈l
 | [],h=>by rw[OS,au5] at h;exact .inl h
 |q::l,h=>by
  rw[OT] at h
  split at h
  .rcases at7.1 h with h |h
   .exact .inl h
   .exact .inr (at4 _ h)
  .rcases at7.1 h with h |h
   .exact .inr (h▸au7 ..)
   .rcases EX h with h |h
    .exact .inl h
    .exact .inr (at4 _ h)
def Xh {k:aH3} {a:Nat}: ∀{l:gR},iY l k=some a->(l.map sh).Nodup->(some a:aI4)∉(j0 l k).map sh/\(j0 l k).length+1=l.length
 | [],h,_=>by cases h
 |p::l,h,hn=>by
  rw[au9,aw6] at hn;rw[Xf] at h;rw[Xe]
  cases e:zN k p with
  |true=>
   rw[e] at h;have h:sh p=some a:=h;exact⟨h▸hn.1,rfl⟩
  |false=>
   rw[e] at h;obtain⟨E,G⟩:=Xh h hn.2;refine⟨?_,by simp only[aw7];omega⟩;simp only;rw[au9,at7,not_or];exact⟨fun ao=>hn.1 (ao▸aw1 (f:=sh) (OW h)),E⟩
def uI.nC {es:gR} {L:fo} {W:Nat} (h:uI es L W) (k:aH3):uI (j0 es k) L W:=
 ⟨fun p ag=>h.ex p ((OU k es).subset ag),h.hY.sublist ((OU k es).map _),h.OL,h.ok,h.OM⟩
def uI.add {es:gR} {L:fo} {W:Nat} (h:uI es L W) {k:aH3} {b:Nat} {m:cN} (O:b∉L.map (·.1)) (aC:hQ m) (al:m.jy.length<=W):uI (mN es k (some b)) ((b,m)::L) W:=by
 refine⟨fun p ag=>?_,OV h.hY fun hx=>?_,aw6.2 ⟨O,h.OL⟩,fun p ag=>?_,fun p ag=>?_⟩
 .rcases EX ag with rfl |ag
  .exact⟨b,rfl,au7 ..⟩
  .obtain⟨a,E,G⟩:=h.ex p ag;exact⟨a,E,at4 _ G⟩
 .obtain⟨p,ag,e⟩:=av7.1 hx;obtain⟨a,E,G⟩:=h.ex p ag;rw[e] at E;injection E with E
  exact O (E▸G)
 .rcases at7.1 ag with rfl |ag
  .exact aC
  .exact h.ok p ag
 .rcases at7.1 ag with rfl |ag
  .exact al
  .exact h.OM p ag
def uI.aT {es:gR} {L:fo} {W:Nat} (h:uI es L W) {fr to:aH3} {a:Nat} (hf:iY es fr=some a):uI (mN (j0 es fr) to (some a)) L W:=by
 refine⟨fun p ag=>?_,OV (h.nC fr).hY (Xh hf h.hY).1,h.OL,h.ok,h.OM⟩;rcases EX ag with rfl |ag
 .obtain⟨a',E,G⟩:=h.ex _ (OW hf);exact⟨a',E,G⟩
 .exact(h.nC fr).ex p ag
end
section
def Xi {m:cN} {I F:Nat->Prop} {w:aH9} {p:bp} (h:(hP m).bo I F w p):F p.bf:=by obtain⟨ρ,cg,E,G,ah,aS⟩:=h;obtain⟨bg,_⟩:=G 1001 _ rfl;exact(aS _).2 ⟨1001,_,rfl,(bg _).2 (by rw[E])⟩
def Xj {I:Nat->Prop} {w:aH9} {b:Nat}: ∀{L:fo} {F:Nat->Prop},fJ I w (fy L) F->b∈L.map (·.1)->F b
 | [],_,_,h=>by cases h
 |p::L,F,⟨cI,cS,q,E,G,ah,aS,bB⟩,h=>by
  rcases at7.1 h with h |h
  .exact(E b).2 (.inl (by rw[h];have:=Xi aS;rwa[ah] at this))
  .exact(E b).2 (.inr (Xj bB h))
def dF.anU {ids:aH4} {K:aW} {B:ay} (q:Nat) {L:fo} {b:Nat} {m:cN} (a2:ae B q=some (.az (.bt (fy ((b,m)::L))))):dF ids K B (X:=PLift (b∉L.map (·.1))) (fun _=>K) (fun _=>B):=by rintro N C a w ⟨hn,H,ρ,F,ak,au⟩;have bl:fJ (bZ C B F w) w (fy ((b,m)::L)) (F q):=ak.holds q _ a2;obtain⟨cI,cS,p,E,G,ah,aS,bB⟩:=bl;refine⟨⟨fun O=>?_⟩,hn,H,ρ,F,ak,au⟩;have af:=Xi aS;rw[ah] at af;exact G _ af (Xj bB O)
end
section
abbrev uK:aH3:=[108,105,115,116]
abbrev gB:aH3:=[108,105,115,116,46,110,101,119]
abbrev pw (c d:Nat) (L:aI5):ay:=[(c,.cells [.own d]),(d,.row 84 tm L)]
end
section
def anV {m:cN} (ai:hQ m) (G:2<=m.n) {s:Nat} {M:fo} (ak:jZ M s=some m) (b:aH3) (O:dU m.n*16 < (b.length:Int)):
  Fn prog 251 [dd s,bE .u8 b] [(1003,.az (.bt (fy M)))] [] (.b4 [pL,dw 1]) [(1003,.az (.bt (fy M)))]:=by
 refine aP [] func251 ?_;exact⟨rfl,av (WR ai G ak) <| av (B5 ak) <| av (OK m.n ai.ts ai.cC) ⟨fun _=>bb,fun c=>at1 O (oj c)⟩⟩
def anW {m:cN} (ai:hQ m) (G:2<=m.n) {s:Nat} {M:fo} (ak:jZ M s=some m) (b:aH3) (O:dU m.n*16 < (b.length:Int)):
  Fn prog 214 [dd s,bE .u8 b] [(1003,.az (.bt (fy M)))] [] (ab 1) [(1003,.az (.bt (fy M)))]:=by
 refine aP [] func214 ?_;exact av (anV ai G ak b O) <| fR bb
def xM (n:Int) (Q:aI5):Int:=if((kF Q).length:Int)<=dU n*16 then 0 else 1
def wo (n:Int) (es:gR) (Q:aI5) (b:Nat):gR:=if((kF Q).length:Int)<=dU n*16 then mN (j0 (mN (j0 es gB) gB (some b)) gB) uK (some b) else mN (j0 es gB) gB (some b)
def uL (n R:Int) (Q:aI5) (b:Nat):cN:=if((kF Q).length:Int)<=dU n*16 then wn n R (kF Q) else k6 n R
def anX (R n:Int) (iOz:2<=n) (hn:se n=true) (aj:n<=R) (es:gR) {M:fo} (E:iY (j0 es gB) gB=none) (G:(j0 es gB).length < 16) (ah: ∀b,iY (mN (j0 es gB) gB (some b)) gB=some b) {Q:aI5} (a2:Q.length<=255) (hw: ∀b,b∈Q->xF b):
  cD prog 163 [ap 3001,ap 1001,ab n] (EP 1001 1002 1003 R es M++pw 3001 3002 Q) [] (X:={b:Nat//b∉M.map (·.1)}) (fun _=>ab (xM n Q))
   (fun g=>EP 1001 1002 1003 R (wo n es Q g.1) ((g.1,uL n R Q g.1)::M)++pw 3001 3002 Q):=by
 have vd: ∀b,jZ ((b,k6 n R)::M) b=some (k6 n R):=fun b=>by rw[zJ,vj rfl]
 refine ia [2,3] func163 ?_;refine av (am6 R es gB) <| bG.iF eY aE0 ?_;refine⟨Nat,_,_,fun b=>_,fun b=>_,amV R (j0 es gB) (fy M) gB n aD8 rfl (by rw[hn,au1 (show 0<=R by omega)];rfl) E G,aA,rfl,fun _=>rfl,fun b=>bG.fW (dF.anU 1003 (L:=M) (b:=b) (m:=k6 n R) rfl) fun O=>bw [] (bn) <| dh <| av (Fn.aT [(1001,3001),(1002,3002)] (We Q a2 hw)) ?_⟩
 by_cases J:((kF Q).length:Int)<=dU n*16
 .have qs:=anC (m:=k6 n R) (hQ.new (n:=n) (R:=R) hn) iOz aj (at6 _) (vd b) (kF Q) J (by rw[IM];decide) (by rw[IM];decide) (by rw[IM];decide);rw[IM] at qs;have hG:jG ((b,k6 n R)::M) b (wn n R (kF Q))=(b,wn n R (kF Q))::M:=vj rfl
  have qs:Fn prog 214 [dd b,bE .u8 (kF Q)] [(1003,.az (.bt (fy ((b,k6 n R)::M))))] [] (ab 0) [(1003,.az (.bt (fy ((b,wn n R (kF Q))::M))))]:=by
   rw[<-hG];exact qs
  refine av qs <| dh <| av (amU R (mN (j0 es gB) gB (some b)) gB uK b aD8 rfl (ah b)) ?_;have af:xM n Q=0:=vj J;have ao:wo n es Q b=_:=vj J;have br:uL n R Q b=_:=vj J;exact⟨⟨b,O.down⟩,_,_,_,bn,rfl,af.symm,⟨rfl,at2 (fun x=>some (a8.map .str .aL x)) ao.symm,at2 (fun x=>some (a8.az (.bt (fy ((b,x)::M))))) br.symm,rfl,rfl,trivial⟩,rfl⟩
 .have qs:=anW (m:=k6 n R) (hQ.new (n:=n) (R:=R) hn) iOz (vd b) (kF Q) (by show dU n*16 < _;omega);refine av qs <| fR ?_;have af:xM n Q=1:=mu J;have ao:wo n es Q b=_:=mu J;have br:uL n R Q b=_:=mu J;exact⟨⟨b,O.down⟩,_,_,_,bn,rfl,af.symm,⟨rfl,at2 (fun x=>some (a8.map .str .aL x)) ao.symm,at2 (fun x=>some (a8.az (.bt (fy ((b,x)::M))))) br.symm,rfl,rfl,trivial⟩,rfl⟩
end
section
def lz (u:bh->bh) (fz:aH4) (l:aI1):List bh:=l.map fun x=>if x.ad∈fz then u x else x
def anY (u:bh->bh) (l:aI1):lz u [] l=l:=by unfold lz;refine(aw2 fun x _=>?_).trans (List.map_id' l);rw[mu aD9]
def Xk {u:bh->bh} {fz:aH4} {l:aI1} (h: ∀e,e∈l->e.ad∈fz):lz u fz l=l.map u:=by unfold lz;exact aw2 fun x hx=>vj (h x hx)
def anZ {u:bh->bh} (aZ: ∀e,(u e).ad=e.ad) {fz:aH4} {a:Nat} (ha:a∉fz) (l:aI1):nP (lz u fz l) a u=lz u (fz++[a]) l:=by
 unfold nP lz;rw[ax7];refine aw2 fun x _=>?_
 show(if(if x.ad∈fz then u x else x).ad=a then u (if x.ad∈fz then u x else x) else(if x.ad∈fz then u x else x))=if x.ad∈fz++[a] then u x else x
 by_cases E:x.ad∈fz
 .have G: ¬(u x).ad=a:=by rw[aZ];exact fun e=>ha (e▸E)
  rw[vj E,mu G,vj (List.mem_append_left _ E)]
 .rw[mu E]
  by_cases G:x.ad=a
  .rw[vj G,vj (by rw[G];simp)]
  .rw[mu G,mu (by simp[E,G])]
structure q3 (u:bh->bh):Prop where
 nm: ∀e,(u e).nm=e.nm
 ad: ∀e,(u e).ad=e.ad
 eP: ∀e,(u e).eP=e.eP
 on: ∀e,(u e).on=e.on
 us: ∀e,(u e).us=e.us
 ok: ∀e,(0<=e.s/\e.s<=4096)/\(1<=e.g/\e.g<=64)/\ff e.es->(0<=(u e).s/\(u e).s<=4096)/\(1<=(u e).g/\(u e).g<=64)/\ff (u e).es
def q3.OX {u:bh->bh} (aZ:q3 u) {l:aI1} (h:eA l) (fz:aH4):eA (lz u fz l):=by
 have key: ∀{m':Type} (f:bh->m'),(∀e,f (u e)=f e)->(lz u fz l).map f=l.map f:=fun f hf=>by
  unfold lz;rw[ax7];refine aw2 fun x _=>?_
  show f (if x.ad∈fz then u x else x)=f x
  split
  .exact hf x
  .rfl
 refine⟨by rw[key _ aZ.nm];exact h.kb,by rw[key _ aZ.ad];exact h.nH,by rw[key _ aZ.eP];exact h.xB,fun e U=>?_,by unfold lz;rw[au3];exact h.len⟩;obtain⟨x,hx,rfl⟩:=av7.1 U;obtain⟨cl,cY,ek,eL⟩:=h.ok x hx
 by_cases J:x.ad∈fz
 .rw[vj J];obtain⟨kG,px,q4⟩:=aZ.ok x ⟨cl,cY,ek⟩;exact⟨kG,px,q4,by rw[aZ.nm];exact eL⟩
 .rw[mu J];exact⟨cl,cY,ek,eL⟩
def q3.yp {u:bh->bh} (aZ:q3 u) (fz:aH4) (l:aI1):eb (lz u fz l)=eb l:=by
 unfold eb lz;rw[ax7];refine aw2 fun x _=>?_
 show jX (if x.ad∈fz then u x else x)=jX x
 split
 .unfold jX;rw[aZ.nm,aZ.ad]
 .rfl
def q3.D {u:bh->bh} (aZ:q3 u) (fz:aH4) (l:aI1):mK (lz u fz l)=mK l:=by
 unfold mK lz;rw[ax7];refine aw2 fun x _=>?_
 show xz (if x.ad∈fz then u x else x)=xz x
 split
 .unfold xz;rw[aZ.nm,aZ.ad,aZ.eP,aZ.on,aZ.us]
 .rfl
def q3.M {u:bh->bh} (aZ:q3 u) {l:aI1} (h:eA l) {fz:aH4} {e:bh} (U:e∈l) (ha:e.ad∉fz):fX (kC (lz u fz l)) e.eP (fi (u e).s (u e).g (u e).es)=kC (lz u (fz++[e.ad]) l):=by have aC:e∈lz u fz l:=av7.2 ⟨e,U,mu ha⟩;rw[<-anZ aZ.ad ha,<-Vr (aZ.OX h fz) aC (aZ.eP e)]
def q3.get {u:bh->bh} (aZ:q3 u) {l:aI1} (h:eA l) {fz:aH4} {e:bh} (U:e∈l) (ha:e.ad∉fz):eZ (kC (lz u fz l)) e.eP=some (fi e.s e.g e.es):=
 (aZ.OX h fz).M (av7.2 ⟨e,U,mu ha⟩)
def q3.map {u:bh->bh} (aZ:q3 u) {l:aI1} (h:eA l):eA (l.map u):=by have:=aZ.OX h (l.map (·.ad));rw[Xk fun e U=>aw1 U] at this;exact this
abbrev q5:=Nat×(aa .str×aa .aL)
def wq (p:q5):Option Nat:=p.2.2
structure xN (l:aI1) (lx:List q5) (ca fz:aH4):Prop where
 OY: ∀p,p∈lx-> ∀a,wq p=some a->(p.1∈ca↔a∈fz)
def an0 {l:aI1} {lx:List q5} (aw:lx.map (·.2)=eb l) {p:q5} (ag:p∈lx): ∃e,e∈l/\p.2=jX e:=by
 have:p.2∈eb l:=by rw[<-aw];exact aw1 ag
 obtain⟨e,U,ao⟩:=av7.1 this;exact⟨e,U,ao.symm⟩
def an1 {l:aI1} (h:eA l) {lx:List q5} (aw:lx.map (·.2)=eb l):(lx.map wq).Nodup:=by
 have:lx.map wq=(l.map (·.ad)).map some:=by
  have e:lx.map wq=(lx.map (·.2)).map (fun q:aa .str×aa .aL=>(show Option Nat from q.2)):=by rw[ax7];rfl
  rw[e,aw];unfold eb;rw[ax7,ax7];rfl
 rw[this];exact List.Pairwise.map _ (fun a b an2 e=>an2 (by injection e)) h.nH
def xN.nil (l:aI1) (lx:List q5):xN l lx [] []:=⟨fun _ _ _ _=>by simp⟩
def xN.step {l:aI1} {lx:List q5} {ca fz:aH4} (h:xN l lx ca fz) (O:(lx.map (·.1)).Nodup) (ha:(lx.map wq).Nodup) {p:q5} (ag:p∈lx) {a:Nat} (e:wq p=some a):xN l lx (ca++[p.1]) (fz++[a]):=by
 refine⟨fun q a2 b c8=>?_⟩;have E:=h.OY q a2 b c8
 have G:q.1=p.1↔b=a:=⟨fun af=>by
  have:=zz O a2 ag af;subst this;rw[e] at c8;injection c8 with br
  exact br.symm,fun af=>by
  have:=zz ha a2 ag (c8.trans (by rw[af,e]));rw[this]⟩
 simp only[av9,au5,E,G]
def zO (ca:aH4) (l:List q5):List q5:=l.filter fun p=> !ca.contains p.1
def an3 {ca:aH4} {l:List q5} {p:q5} (ag:p∈l) (hn:p.1∉ca):(zO (ca++[p.1]) l).length < (zO ca l).length:=by
 have e:zO (ca++[p.1]) l=(zO ca l).filter fun q=> !decide (q.1=p.1):=by
  unfold zO;rw[List.filter_filter];refine List.filter_congr fun q _=>?_
  by_cases e:q.1=p.1 <;>simp[e]
 rw[e];have aC:p∈zO ca l:=aC1.2 ⟨ag,by simp[hn]⟩;exact List.length_filter_lt_length_iff_exists.2 ⟨p,aC,aD9⟩
abbrev an4 (s3:Nat) (u:bh->bh) (l:aI1) (b bY:Nat) (lx:List q5) (ca fz:aH4):ay:=[(1001,.cells [.mp 1002]),(1002,.az (.yP b .str .aL lx bY)),(1003,.az (.bt (mK l))),(1004,.az (.bt (kC (lz u fz l)))),(s3,.az (.yQ b bY ca bY))]
def j1 (fr bJ:Int) (e:bh):bh:={e with es:=if e.on=true then lP e.s e.g e.es fr bJ else e.es}
def Xl (fr bJ:Int):q3 (j1 fr bJ):=by
 refine⟨fun _=>rfl,fun _=>rfl,fun _=>rfl,fun _=>rfl,fun _=>rfl,fun e h=>⟨h.1,h.2.1,?_⟩⟩;show ff (if e.on=true then lP e.s e.g e.es fr bJ else e.es)
 split
 .exact NS h.2.2 fr bJ
 .exact h.2.2
def OZ {l:aI1} (h:eA l) (fr bJ:Int):Fn prog 121 [ap 1001,ab fr,ab bJ] (eT l) [] g' (eT (l.map (j1 fr bJ))):=by
 have aZ:=Xl fr bJ;obtain⟨pW,hd,he⟩:=lp NW;obtain⟨Vs,BP,BQ⟩:=lp NX;refine aP [0] func121 ?_;refine bG.fW (dF.ad4 1002 rfl) fun x=>?_
 obtain⟨b,lx,bY,IP,an5,bv⟩:=x;have O:(lx.map (·.1)).Nodup:=an5.imp fun h=>by omega
 have ha:=an1 h IP;refine bw [] (bn) <| bm (ad6 (d:=12) rfl underlying196 rfl rfl) ?_;refine dZ [1] (X:=aH4×aH4) (fun _=>[(1,ab fr),(2,ab bJ),(12,ap 12)]) (fun x=>an4 12 (j1 fr bJ) l b bY lx x.1 x.2) (fun x=>xN l lx x.1 x.2) (fun x=>(zO x.1 lx).length) ([],[]) (xN.nil l lx) ?_ ?_
 .exact ac.sub aA ⟨rfl,rfl,rfl,(by show _=some (a8.az (.bt (kC (lz (j1 fr bJ) [] l))));rw[anY];rfl),rfl,trivial⟩
 rintro⟨ca,fz⟩ EY;have EY:xN l lx ca fz:=EY;refine bG.iF eY aE0 ⟨_,ad8 (c:=1002) (r:=12) rfl rfl rfl rfl (fun p ag=>bv _ (aw1 ag)) (at0 _),fun v e aB=>?_⟩;rcases aB with⟨p,ag,hK,rfl,rfl⟩ |⟨dM,rfl,rfl⟩
 .obtain⟨e,U,IQ⟩:=an0 IP ag;have O0:wq p=some e.ad:=by unfold wq;rw[IQ]
  have Xm:e.ad∉fz:=fun aC=>hK ((EY.OY p ag e.ad O0).2 aC)
  have ed:=EY.step O ha ag O0;have rK:=an3 ag hK;have cw:=h.D U;have ak:=aZ.get h U Xm;have jr:=aZ.M h U Xm;obtain⟨cl,cY,ek,eL⟩:=h.ok e U;have hG:=NV (Nx e.s e.g e.es fr bJ cl cY) ak rfl rfl rfl rfl;have J:(if e.on=true then lP e.s e.g e.es fr bJ else e.es)=(j1 fr bJ e).es:=rfl;have hx:p.2.2=(some e.ad:aI4):=O0;refine bm (aea (c:=1002) (r:=12) (p:=p) rfl rfl rfl rfl ag) ?_;refine bm (fun N=>kx (b:=e.ad) rfl aG3 N) ?_;refine bm (fun N=>kY rfl underlying212 rfl rfl hd aF4 rfl N) ?_;refine bm (my (q:=1003) rfl underlying4 rfl rfl rfl cw rfl) ?_;refine⟨fun ws=>?_,fun ws=>?_⟩
  .have ws:e.on=true:=ws;rw[vj ws] at J;rw[J] at hG;change Fn _ _ _ _ _ _ [(1004,.az (.bt (fX (kC (lz (j1 fr bJ) fz l)) e.eP (fi (j1 fr bJ e).s (j1 fr bJ e).g (j1 fr bJ e).es))))] at hG;rw[jr] at hG;refine bm (fun N=>kx (b:=e.ad) rfl aG3 N) ?_;refine bm (fun N=>kY rfl underlying212 rfl rfl BP (by rw[BQ];decide) rfl N) ?_;refine bm (my (q:=1003) rfl underlying85 rfl rfl rfl cw rfl) ?_;exact av hG ⟨(ca++[p.1],fz++[e.ad]),ed,rK,ac.sub aA aA⟩
  .have ws:e.on=false:=ws;rw[mu (by rw[ws];decide)] at J;have af:fi (j1 fr bJ e).s (j1 fr bJ e).g (j1 fr bJ e).es=fi e.s e.g e.es:=by rw[<-J];rfl
   rw[af,AU ak] at jr;exact⟨(ca++[p.1],fz++[e.ad]),ed,rK,ac.sub aA ⟨rfl,rfl,rfl,at2 (fun aH=>some (a8.az (.bt aH))) jr,rfl,trivial⟩⟩
 .have tb: ∀e,e∈l->e.ad∈fz:=fun e U=>by
   have:jX e∈lx.map (·.2):=by rw[IP];exact aw1 U
   obtain⟨p,ag,ao⟩:=av7.1 this;exact(EY.OY p ag e.ad (by unfold wq;rw[ao])).1 (dM p ag)
  have As:=Xk (u:=j1 fr bJ) tb;have pn:lx.map (·.2)=eb (l.map (j1 fr bJ)):=by rw[IP,<-As,aZ.yp]
  have tc:mK l=mK (l.map (j1 fr bJ)):=by rw[<-As,aZ.D]
  exact⟨_,_,_,ac.ad5 1002 rfl,rfl,trivial,⟨rfl,at2 (fun aH=>some (a8.map .str .aL aH)) pn,at2 (fun aH=>some (a8.az (.bt aH))) tc,at2 (fun aH=>some (a8.az (.bt (kC aH)))) As,trivial⟩,rfl⟩
end
section
section
variable {ids:aH4} {K:aW} {B:ay}
def cf.set {ρ:Nat->bp} {I:Nat->Prop} {w:aH9} {s t:bA} (ed: ∀v,dW ρ I w s v->dW ρ I w t v): ∀{l:List bA} {aE:aH7} {j:Nat},l[j]? =some s->cf ρ I w l aE->cf ρ I w (l.set j t) aE
 | [],_,j,V,_=>by cases j <;>cases V
 |x::l,_,0,V,⟨v,r,e,E,G⟩=>by
  injection V with V
  subst V;exact⟨v,r,e,ed v E,G⟩
 |x::l,_,j+1,V,⟨v,r,e,E,G⟩=>⟨v,r,e,E,cf.set ed (l:=l) (j:=j) V G⟩
def ac.Cb (c j:Nat) {l:List bA} (J:ae B c=some (.cells l)) (V:l[j]? =some (.bK (.pointer none))):ac ids K B K ((c,.cells (l.set j (.d (.aL none))))::B):=by
 rintro N C a w ⟨hn,H,ρ,F,ak,au⟩
 obtain⟨bH,aY⟩:=ak.hT (w':=w) (ch:=.cells (l.set j (.d (.aL none)))) J (cU.refl _ _) fun I a7=>by
  obtain⟨E,aE,T,G,ah⟩:=ak.holds c _ J;exact⟨E,aE,T,G,cf.set (s:=.bK (.pointer none)) (t:=.d (.aL none)) (fun v h=>h) V (cf.mono a7 _ _ (fun _ _=>rfl) ah)⟩
 exact⟨hn,H,ρ,F,bH,au.mono aY fun _ _ _=>rfl⟩
def ac.an6 (q:Nat) {p:Nat×bc} {L:List (Nat×bc)} (a2:ae B q=some (.az (.bt (p::L)))):ac ids K B K ((q,.az (.bt [p]))::B):=by
 rintro N C a w ⟨hn,H,ρ,F,ak,au⟩;obtain⟨cI,cS,x,cl,cY,ek,eL,vv⟩:fJ _ w (p::L) (F q):=ak.holds q _ a2;obtain⟨bH,aY⟩:=ak.GI (w':=w) (ch:=.az (.bt [p])) a2 cI (fun b O=>(cl b).2 (.inl O)) (cU.refl _ _) fun I a7=>⟨cI,fun _=>False,x,fun b=>by simp,fun _ _ h=>h,ek,p.2.cj _ _ _ _ _ _ eL a7 (fun _ _=>rfl) (at0 _),fun _ h=>h⟩
 exact⟨hn,H,ρ,_,bH,au.mono aY fun _ _ _=>rfl⟩
def ac.Xn (q:Nat) {L:List (Nat×bc)} (a2:ae B q=some (.az (.bt L))):ac ids K B K ((q,.az (.bt []))::B):=by
 rintro N C a w ⟨hn,H,ρ,F,ak,au⟩;obtain⟨bH,aY⟩:=ak.GI (w':=w) (ch:=.az (.bt [])) a2 (fun _=>False) (fun b O=>O.elim) (cU.refl _ _) fun I a7=>fun _ h=>h
 exact⟨hn,H,ρ,_,bH,au.mono aY fun _ _ _=>rfl⟩
def EZ (_:bp):bc where
 bo:=fun _ F _ _=> ∀x,¬F x
 cj:=fun _ _ _ _ _ _ h _ _ _=>h
def ac.tz (q d:Nat) {ch:a8} (a2:ae B q=some ch):ac ids K B K ((q,.b5 d EZ)::B):=by
 rintro N C a w ⟨hn,H,ρ,F,ak,au⟩;obtain⟨bH,aY⟩:=ak.GI (w':=w) (ch:=.b5 d EZ) a2 (fun _=>False) (fun b O=>O.elim) (cU.refl _ _) fun I a7=>fun _ h=>h
 exact⟨hn,H,ρ,_,bH,au.mono aY fun _ _ _=>rfl⟩
def ac.an7 (q d:Nat) (a2:g7 ids K B q=true) (a6:d≠q):ac ids K B K ((q,.b5 d EZ)::B):=by rintro N C a w ⟨hn,H,ρ,F,ak,au⟩;have cF:=ld a2;obtain⟨bH,aY⟩:=ak.make (ch:=.b5 d EZ) (w':=w) a2 (Below.refl _ _) (ρ q) (fun _=>False) (fun _ h=>h.elim) (fun I _ _=>fun _ h=>h);exact⟨hn,H,_,_,bH,au.mono aY fun s c J=>dD _ _ (fun e=>by subst e;rw[cF.1 s] at J;cases J)⟩
def ac.IR (q c d m b:Nat) (bq:ay) {cB:a8} (a2:ae B q=some cB) (vw:(ck bq).contains q=false) (de:la B bq) (aC:ae B m=some (.b5 c (e7 b))):ac ids K B K ((q,.b5 d (ox b c d bq))::pK (ck bq) B):=by
 rintro N C a w ⟨hn,H,ρ,F,ak,au⟩;have vw:=w0 vw;have al: ∀{d ch},ae bq d=some ch->ae B d=some ch:=fun {d ch} h=>kU de h
 have w1: ∀{e ch},ae ((q,a8.b5 d (ox b c d bq))::pK (ck bq) B) e=some ch->e=q\/e∈ck bq->e=q/\ch= .b5 d (ox b c d bq):=fun {e ch} U aC=>by
  rw[co] at U
  split at U
  .rename_i ao;injection U with U;exact⟨ao.symm,U.symm⟩
  .rename_i ao;rcases aC with aC |aC
   .exact at1 aC.symm ao
   .rw[yN,vj aC] at U;cases U
 obtain⟨bH,aY⟩:=ak.step (B':=(q,.b5 d (ox b c d bq))::pK (ck bq) B) (ρ':=ρ) (F':=dv F q (fun x=> ∃e ch,ae bq e=some ch/\F e x)) (w':=w) (fun e=>e=q\/e∈ck bq) (fun _=>False) (cU.refl _ _)
  (fun e ch U aC=>by
   rw[co,mu (fun h=>aC (.inl h.symm)),yN,mu (fun h=>aC (.inr h))] at U;exact U)
  (fun _ _=>rfl) (fun e aC=>dD _ _ (fun h=>aC (.inl h))) (fun _ _ h=>h) (fun _ h=>h.elim) (fun _ _ _ _ _ _ h=>h)
  (fun e ch U aC aY=>by
   obtain⟨rfl,rfl⟩:=w1 U aC;rw[dB];exact⟨ρ,F,pN (N:=N) (a:=a) ak aE3,rfl,fun d ch h=>Holds.cj aY (fun _ _=>rfl) (at0 _) ch (fun _ _=>rfl) (ak.holds d ch (al h)),fun d cZ ch ch' b h h' a6=>ak.fd d cZ ch ch' b (al h) (al h') a6,fun b=>Iff.rfl⟩)
  (fun e ch U aC x hx=>by
   obtain⟨rfl,rfl⟩:=w1 U aC;rw[dB] at hx;obtain⟨cZ,ch',E,G⟩:=hx;exact⟨(ak.own cZ ch' (al E) x G).1,.inl ⟨cZ,ch',al E,.inr (gf.2 ⟨ch',E⟩),G⟩⟩)
  (fun e cc ch ch' x U hH aC fV a6=>at1 ((w1 U aC).1.trans (w1 hH fV).1.symm) a6)
 exact⟨hn,H,ρ,_,bH,au.mono aY fun _ _ _=>rfl⟩
end
inductive lA where
 |no
 |dt (top base:aH3) (l:aH4) (over:Bool)
 |pl (top base:aH3) (over:Bool)
 |pu (nm:aH3) (n rm:Int) (l:aH4) (g:aH8) (over done:Bool)
abbrev tA (top base:aH3) (l:aH4) (over:Bool):ay:=[(2001,.cells (No top base over)),(2002,.map aq aq (fZ l))]
abbrev wt (top base:aH3) (over:Bool):ay:=[(2001,.cells (H2 top base over))]
abbrev nV (z:Int) (nm:aH3) (n rm:Int) (l:aH4) (g:aH8) (over done:Bool):ay:=[(2001,.cells (Ep nm z n rm over done)),(2002,.map aq aq (fZ l)),(2003,.map aq jW (kB g))]
def Xo (z:Int) (b:Nat):lA->bp->bc
 | .no=>EZ
 | .dt top base l over=>ox b 2001 1001 (tA top base l over)
 | .pl top base over=>ox b 2001 1001 (wt top base over)
 | .pu nm n rm l g over done=>ox b 2001 1001 (nV z nm n rm l g over done)
abbrev IS (T b:Nat):Value:=.iface T (.pointer (some ⟨b,0,none⟩))
def sk (b:Nat):lA->Value
 | .no=>.nilIface
 | .dt .. =>IS 80 b
 | .pl .. =>IS 143 b
 | .pu .. =>IS 81 b
def Cc (b:Nat):lA->Option Nat
 | .dt .. =>some b
 |_=>none
def xO (b:Nat):lA->Option Nat
 | .pu .. =>some b
 |_=>none
def xP:lA->Int
 | .no=>0
 | .dt .. =>1
 | .pl .. =>2
 | .pu .. =>3
abbrev E0:=Int×Int×List (aa aq×aa aq)
structure Made where
 f0:cb
 eK:aH3
 en:Option (Nat×E0)
def an8:Option (Nat×E0)->List (Nat×bc)
 |none=>[]
 |some p=>[(p.1,fi p.2.1 p.2.2.1 p.2.2.2)]
abbrev i0 (l:aI1):bc:=.iQ 1001 (eT l)
abbrev uM (Q:aI5):bc:=.iQ 1001 (lu Q)
structure bQ where
 z:Nat
 R:Nat
 L:List aI
 aU:aH3
 db:Nat
 ds:List bh
 es:gR
 M:fo
 lb:Nat
 Q:List cb
 b:Nat
 bO:lA
 bS:Made
abbrev IT (z:Int) (aU:aH3) (db lb:Nat) (kd:Int) (gq:aI8) (dt pu:aI4) (m:Made):List bA:=[.d (.int .i64 z),.d (.str aU),.ptr 1001 0,.d (.aL (some db)),.ptr 1201 0,.d (.aL (some lb)),.d (.int .i64 kd),.bK gq,.d (.aL dt),.d (.aL pu),
 .d (.str (er m.f0)),.d (.str (dx m.f0)),.d (.int .i64 (c7 m.f0)),.d (.int .i64 (eB m.f0)),.d (.b' oI (cE m.f0)),.d (.str m.eK),.d (.aL (m.en.map (·.1)))]
abbrev an9 (w:bQ):List bA:=IT w.z w.aU w.db w.lb (xP w.bO) (sk w.b w.bO) (Cc w.b w.bO) (xO w.b w.bO) w.bS
abbrev Xp (w:bQ):Nat×a8:=(1401,.cells (an9 w))
abbrev Xq (w:bQ):Nat×a8:=(1501,.b5 1001 (Xo w.z w.b w.bO))
abbrev Xr (w:bQ):Nat×a8:=(1601,.az (.bt (an8 w.bS.en)))
abbrev an' (w:bQ):Nat×a8:=(1101,.az (.bt [(w.db,i0 w.ds)]))
abbrev Xs (w:bQ):Nat×a8:=(1301,.az (.bt [(w.lb,uM w.Q)]))
def IU (z R:Int) (L:aH6):bc:=.iQ 1001 (bP z R L)
def zP (es:gR) (M:fo):bc:=.iQ 1201 (EP 1201 1202 1203 4096 es M)
abbrev hR (z R:Nat) (L:aH6):Nat×a8:=(1001,.az (IU z R L))
abbrev xQ (es:gR) (M:fo):Nat×a8:=(1201,.az (zP es M))
abbrev cV (w:bQ):ay:=[hR w.z w.R w.L,an' w,xQ w.es w.M,Xs w,Xp w,Xq w,Xr w]
section
variable {f:aI9} {args:List aN} {z R:Nat} {L:aH6} {aK:ay} {ba:aH4} {res:aN}
def cD.Xt {X:Type} {res:X->aN} {L':X->List aI} {aO:X->ay} (h:cD prog f args (bP z R L++aK) ba res (fun g=>bP z R (L' g)++aO g)) (E:om 1001 [1002,1003,1004] args (bP z R L) aK ba ba=true)
  (G: ∀g,oo 1001 (m8 [1002,1003,1004] ba ba) (res g) (bP z R (L' g)) (aO g)=true):cD prog f args (hR z R L::aK) ba res (fun g=>hR z R (L' g)::aO g):=
 cD.close (o':=fun g=>IU z R (L' g)) [1002,1003,1004] h (fun _ _ _ _ h=>h) (fun _ _ _ _ _ h=>h) E G
def Fn.xR {L':aH6} {aO:ay} (h:Fn prog f args (bP z R L++aK) ba res (bP z R L'++aO)) (E:om 1001 [1002,1003,1004] args (bP z R L) aK ba ba=true)
  (G:oo 1001 (m8 [1002,1003,1004] ba ba) res (bP z R L') aO=true):Fn prog f args (hR z R L::aK) ba res (hR z R L'::aO):=
 (cD.Xt (X:=Unit) (L':=fun _=>L') (aO:=fun _=>aO) (res:=fun _=>res) h.x E fun _=>G).fn
def Fn.ch {L':aH6} (h:Fn prog f args (bP z R L) [] res (bP z R L')) (E:om 1001 [1002,1003,1004] args (bP z R L) [] [] []=true:=by first |rfl |decide)
  (G:oo 1001 (m8 [1002,1003,1004] [] []) res (bP z R L') []=true:=by first |rfl |decide):Fn prog f args [hR z R L] [] res [hR z R L']:=
 Fn.xR (aK:=[]) (aO:=[]) (by rw[av2,av2];exact h) E G
end
def bc.jk {X:Type} (o:X->bc):bc where
 bo:=fun I F w p=> ∃g,(o g).bo I F w p
 cj:=fun I F w I' w' p ⟨g,h⟩ U bg aM=>⟨g,(o g).cj I F w I' w' p h U bg aM⟩
def cD.jk {P:aI0} {f:aI9} {args:List aN} {aK:ay} {ba:aH4} {res:aN} {X:Type} {q:Nat} {o:X->bc} {aO:ay} (h:cD P f args aK ba (fun _=>res) (fun g=>(q,.az (o g))::aO)):Fn P f args aK ba res ((q,.az (.jk o))::aO):=by
 refine⟨h.1,fun ρ F I w b0 bM bU a3 a4 a5 fj=>(h.2 ρ F I w b0 bM bU a3 a4 a5 fj).mono ?_⟩;rintro e w' ⟨g,x,ρ',F',af,ao,br,I',c0,ft,hl,ng,Cd,ET⟩
 have mt: ∀{c ch},ae ((q,a8.az (.jk o))::aO) c=some ch-> ∃ch',ae ((q,a8.az (o g))::aO) c=some ch'/\((c=q/\ch= .az (.jk o)/\ch'= .az (o g))\/ch=ch'):=fun {c ch} J=>by
  rw[co] at J
  split at J
  .rename_i e;injection J with J
   exact⟨_,by rw[co,vj e],.inl ⟨e.symm,J.symm,rfl⟩⟩
  .rename_i e;exact⟨ch,by rw[co,mu e];exact J,.inr rfl⟩
 refine⟨x,ρ',F',af,ao,br,I',c0,ft,fun c ch J=>?_,fun c ch J=>?_,fun c cn ch ch' b J c3 a6=>?_,ET⟩
 .obtain⟨ch',E,G⟩:=mt J;have:=hl c ch' E;rcases G with⟨rfl,rfl,rfl⟩ |rfl
  .exact⟨g,this⟩
  .exact this
 .obtain⟨ch',E,_⟩:=mt J;exact ng c ch' E
 .obtain⟨lT,E,_⟩:=mt J;obtain⟨k7,G,_⟩:=mt c3;exact Cd c cn lT k7 b E G a6
def Fn.aoa {P:aI0} {f:aI9} {args:List aN} {aK:ay} {ba:aH4} {res:aN} {X:Type} {q:Nat} {o:X->bc} {aO:ay} (h:Fn P f args aK ba res ((q,.az (.jk o))::aO)):cD P f args aK ba (fun _=>res) (fun g=>(q,.az (o g))::aO):=by
 refine⟨h.1,fun ρ F I w b0 bM bU a3 a4 a5 fj=>(h.2 ρ F I w b0 bM bU a3 a4 a5 fj).mono ?_⟩;rintro e w' ⟨x,ρ',F',af,ao,br,I',c0,ft,hl,ng,Cd,ET⟩;have a2:ae ((q,a8.az (.jk o))::aO) q=some (.az (.jk o)):=aF9
 obtain⟨g,aV⟩:(bc.jk o).bo I' (F' q) w' (ρ' q):=hl q _ a2
 have mt: ∀{c ch},ae ((q,a8.az (o g))::aO) c=some ch->(c=q/\ch= .az (o g))\/ae ((q,a8.az (.jk o))::aO) c=some ch:=fun {c ch} J=>by
  rw[co] at J
  split at J
  .rename_i e;injection J with J;exact .inl ⟨e.symm,J.symm⟩
  .rename_i e;exact .inr (by rw[co,mu e];exact J)
 have O1: ∀{c ch},ae ((q,a8.az (o g))::aO) c=some ch-> ∃ch',ae ((q,a8.az (.jk o))::aO) c=some ch':=fun {c ch} J=>by
  rcases mt J with⟨rfl,_⟩ |h
  .exact⟨_,a2⟩
  .exact⟨_,h⟩
 refine⟨g,x,ρ',F',af,ao,br,I',c0,ft,fun c ch J=>?_,fun c ch J=>?_,fun c cn ch ch' b J c3 a6=>?_,ET⟩
 .rcases mt J with⟨rfl,rfl⟩ |h
  .exact aV
  .exact hl c ch h
 .obtain⟨ch',h'⟩:=O1 J;exact ng c ch' h'
 .obtain⟨lT,E⟩:=O1 J;obtain⟨k7,G⟩:=O1 c3;exact Cd c cn lT k7 b E G a6
def ac.az {ids:aH4} {K:aW} {B:ay} (q:Nat) {o o':bc} (a2:ae B q=some (.az o)) (h: ∀I F w p,o.bo I F w p->o'.bo I F w p):ac ids K B K ((q,.az o')::B):=by
 rintro N C a w ⟨hn,H,ρ,F,ak,au⟩;obtain⟨bH,aY⟩:=ak.hT (w':=w) (ch:=.az o') a2 (cU.refl _ _) fun I a7=>h _ _ _ _ (o.cj _ _ _ _ _ _ (ak.holds q _ a2) a7 (fun _ _=>rfl) (at0 _))
 exact⟨hn,H,ρ,F,bH,au.mono aY fun _ _ _=>rfl⟩
def dF.jk {ids:aH4} {K:aW} {B:ay} (q:Nat) {X:Type} {o:X->bc} (a2:ae B q=some (.az (.jk o))):dF ids K B (X:=X) (fun _=>K) (fun g=>(q,.az (o g))::B):=by
 rintro N C a w ⟨hn,H,ρ,F,ak,au⟩;obtain⟨g,aV⟩:(bc.jk o).bo (bZ C B F w) (F q) w (ρ q):=ak.holds q _ a2;obtain⟨bH,aY⟩:=ak.hT (w':=w) (ch:=.az (o g)) a2 (cU.refl _ _) fun I a7=>(o g).cj _ _ _ _ _ _ aV a7 (fun _ _=>rfl) (at0 _)
 exact⟨g,hn,H,ρ,F,bH,au.mono aY fun _ _ _=>rfl⟩
end
section
def Fn.Xu {P:aI0} {f:aI9} {args:List aN} {c b:Nat} {aK:ay} {ba:aH4} {res:aN} {aO:ay} {o o':bc} (h:Fn P f args ((c,.az o)::aK) ba res ((c,.az o')::aO)) (J:ba.contains c=false):Fn P f args ((c,.az (o.at b))::aK) ba res ((c,.az (o'.at b))::aO):=by
 have l2:c∉ba:=w0 J
 have key: ∀{X:ay} {aH z':bc} {d:Nat} {ch:a8},ae ((c,a8.az aH)::X) d=some ch->(d=c/\ch= .az aH)\/(d≠c/\ae X d=some ch):=fun {X aH z' d ch} H=>by
  rw[co] at H
  split at H
  .rename_i e;injection H with H;exact .inl ⟨e.symm,H.symm⟩
  .rename_i e;exact .inr ⟨fun ao=>e ao.symm,H⟩
 have to: ∀{X:ay} {aH z':bc} {d:Nat} {ch:a8},ae ((c,a8.az aH)::X) d=some ch-> ∃ch',ae ((c,a8.az z')::X) d=some ch':=fun {X aH z' d ch} H=>by
  rcases key (z':=aH) H with⟨rfl,_⟩ |⟨e,H⟩
  .exact⟨_,by rw[co,vj rfl]⟩
  .exact⟨ch,by rw[co,mu (az2 e)];exact H⟩
 refine⟨h.1,fun ρ F I w b0 bM bU a3 a4 a5 fj=>?_⟩;have al:ae ((c,a8.az (o.at b))::aK) c=some (.az (o.at b)):=aF9
 have ax:(ρ c).bf=b/\o.bo I (F c) w (ρ c):=bU c _ al;refine(h.2 ρ F I w b0 bM (fun d ch H=>?_) (fun d ch H x hx=>?_) (fun d cZ ch ch' x E G=>?_) a5 fj).mono ?_
 .rcases key (z':=o) H with⟨rfl,rfl⟩ |⟨e,H⟩
  .exact ax.2
  .exact bU d ch (by rw[co,mu (az2 e)];exact H)
 .obtain⟨ch',h'⟩:=to (z':=o.at b) H;exact a3 d ch' h' x hx
 .obtain⟨cu,g1⟩:=to (z':=o.at b) E;obtain⟨cp,g2⟩:=to (z':=o.at b) G;exact a4 d cZ cu cp x g1 g2
 .rintro e w' ⟨x,ρ',F',r1,r2,fQ,I',j9,l6,mv,l7,m9,ot⟩
  have bg: ∀y,(∃d ch,ae ((c,a8.az o)::aK) d=some ch/\F d y)-> ∃d ch,ae ((c,a8.az (o.at b))::aK) d=some ch/\F d y:=fun y ⟨d,ch,g1,g2⟩=>by
   obtain⟨ch',cL⟩:=to (z':=o.at b) g1;exact⟨d,ch',cL,g2⟩
  refine⟨x,ρ',F',r1,r2.mono fun y _ aD=>bg y aD,fQ,I',j9,fun y aD=>⟨(l6 y aD).1,(l6 y aD).2.imp id (Or.imp (bg y) id)⟩,fun d ch H=>?_,fun d ch H y aD=>?_,fun d cZ ch ch' y g1 g2 a6 aD=>?_,ot⟩
  .rcases key (z':=o') H with⟨rfl,rfl⟩ |⟨e,H⟩
   .have:=mv d _ aF9;exact⟨by rw[fQ d l2];exact ax.1,this⟩
   .exact mv d ch (by rw[co,mu (az2 e)];exact H)
  .obtain⟨ch',cL⟩:=to (z':=o') H;obtain⟨cr,cv,dm⟩:=l7 d ch' cL y aD;exact⟨cr,cv,dm.imp (bg y) id⟩
  .obtain⟨cu,cr⟩:=to (z':=o') g1;obtain⟨cp,cv⟩:=to (z':=o') g2;exact m9 d cZ cu cp y cr cv a6 aD
def Fn.Ce {P:aI0} {f:aI9} {args:List aN} {aK m0:ay} {ba:aH4} {res:aN} {aO nA:ay} (h:Fn P f args aK ba res aO) (E: ∀c,ae m0 c=ae aK c) (G: ∀c,ae nA c=ae aO c):Fn P f args m0 ba res nA:=by unfold Fn at h⊢;simpa only[E,G] using h
end
end Go.Proofs.YtgclhiekndohdaaGreat
