/-
A part of the proof of this claim: lemmas, with no condition beyond what each says.
-/
import Derived.Deep.RegionLaw
import Derived.Test.YtgclhiekndohdaaGreatZp4
set_option linter.all false
set_option maxRecDepth 100000
set_option maxHeartbeats 0
namespace Go.Proofs.YtgclhiekndohdaaGreat
open Go.RowKit Go.Proofs _root_.Go.Proofs.Tryz Tryz
section
def lU:Int->List dN->Bool
 |_,[]=>true
 |n,x::l=>if x.1=n/\1<=x.2.1/\x.2.1<=65536 - n then lU (n+x.2.1) l else false
def ahA (n:Int) (x:dN) (l:aF1):lU n (x::l)=if x.1=n/\1<=x.2.1/\x.2.1<=65536 - n then lU (n+x.2.1) l else false:=rfl
def Aa: ∀{l:aF1} {n:Int} {x:dN},lU n l=true->0<=n->l.getLast? =some x->0<=x.1/\1<=x.2.1/\x.1+x.2.1<=65536
 | [],_,_,_,_,h=>by cases h
 |y::l,n,x,h,hn,hx=>by
  unfold lU at h
  split at h
  .rename_i J
   cases l with
   |nil=>
    simp at hx;subst hx;omega
   |cons aF l=>
    rw[List.getLast?_cons_cons] at hx;exact Aa h az7 hx
  .cases h
def LO: ∀{l:aF1} {n:Int},lU n l=true->0<=n-> ∀x,x∈l->n<=x.1/\1<=x.2.1/\x.1+x.2.1<=65536
 | [],_,_,_,x,hx=>by cases hx
 |y::l,n,h,hn,x,hx=>by
  unfold lU at h
  split at h
  .rename_i J;rcases ap7.1 hx with rfl |hx
   .omega
   .have:=LO h az7 x hx;omega
  .cases h
abbrev ahB (l:aF1) (n:Int) (i:Nat):aW:=[(3,ab n),(6,b0 hI l),(7,ab (l.length:Nat)),(8,ab (i:Nat))]
def LP (l:aF1) (ak:l.length<=1000000000) (dW: ∀x,x∈l-> -4611686018427387904<=x.2.1/\x.2.1<=4611686018427387903):Fn prog 263 [b0 hI l] [] [] (gT (lU 0 l)) []:=by
 refine aU [] func263 ?_;refine ed [] (X:=Int×Nat) (fun x=>ahB l x.1 x.2) (fun _=>[]) (fun x=>x.2<=l.length/\(0<=x.1/\x.1<=65536)/\lU x.1 (l.drop x.2)=lU 0 l) (fun x=>l.length - x.2) (0,0) ⟨ap9 _,⟨Int.le_refl 0,az7⟩,rfl⟩ ?_ ?_
 .exact ac.sub aE trivial
 rintro⟨n,i⟩ ⟨aG,hn,aw⟩;have aG:i<=l.length:=aG;have hn:0<=n/\n<=65536:=hn;have aw:lU n (l.drop i)=lU 0 l:=aw;refine⟨fun J=>?_,fun J=>?_⟩
 .have J:decide ((i:Int) < ((l.length:Nat):Int))=true:=J;have dC:i < l.length:=aC0
  have aV:=j2 (n:=i) dC;have H:l.drop i=l[i]::l.drop (i+1):=aw3 dC;have hx:=dW _ (ar4 dC);rw[H] at aw;generalize l[i]=x at*;rw[ahA] at aw;have m1:(0:Int)<=(i:Int):=aA5
  refine⟨m1,x,aV,rfl,fun E=>?_,fun E=>?_⟩
  .have E:(!decide (x.1=n))=true:=E;have E: ¬x.1=n:=aC9
   rw[mu (fun h=>E h.1)] at aw;exact er bu rfl aw
  have E:(!decide (x.1=n))=false:=E;have E:x.1=n:=aC9
  refine⟨fun G=>?_,fun G=>?_⟩
  .have G:x.2.1 < 1:=gd G;rw[mu (fun h=>by omega)] at aw;exact er bu rfl aw
  have G: ¬x.2.1 < 1:=oj G;have m2:c5 (65536 - n):=aA5
  refine⟨m2,fun ag=>?_,fun ag=>?_⟩
  .have ag:65536 - n < x.2.1:=gd ag;rw[mu (fun h=>by omega)] at aw;exact er bu rfl aw
  have ag: ¬65536 - n < x.2.1:=oj ag;rw[vj ⟨E,az7,az7⟩] at aw;have m3:c5 (n+x.2.1):=aA5
  have jf:c5 ((i:Int)+1):=aA5
  refine⟨m3,jf,?_⟩;exact⟨(n+x.2.1,i+1),⟨dC,(by show 0<=n+x.2.1/\n+x.2.1<=65536;omega),aw⟩,(by show l.length - (i+1) < l.length - i;omega),ac.sub aE trivial⟩
 .have J:decide ((i:Int) < ((l.length:Nat):Int))=false:=J;have nQ:i=l.length:=aB5
  subst nQ;rw[List.drop_length] at aw;exact er bu rfl aw
def LQ (l:aF1) (O: ∀x,l.getLast? =some x-> -4611686018427387904<=x.1/\x.1<=4611686018427387903/\ -4611686018427387904<=x.2.1/\x.2.1<=4611686018427387903) (ak:l.length<=4294967296):
  Fn prog 264 [b0 hI l] [] [] (ab (gP l)) []:=by
 refine aU [] func264 ?_;refine⟨fun h=>?_,fun h=>?_⟩
 .have h:((l.length:Nat):Int)=0:=gd h;have au:l=[]:=List.length_eq_zero_iff.1 az7;subst au;exact bd
 .have h: ¬((l.length:Nat):Int)=0:=oj h
  cases hx:l.getLast? with
  |none=>rw[LN hx] at h;exact ap0 rfl h
  |some x=>
   have O:=O x hx;obtain⟨au,aV⟩:=z8 hx;have e:(((l.length:Nat):Int) - 1).toNat=l.length - 1:=aA5
   have m:c5 (((l.length:Nat):Int) - 1):=aA5
   have m2:(0:Int)<=((l.length:Nat):Int) - 1:=aA5
   have m3:c5 (x.1+x.2.1):=aA5
   have qK:fi l (((l.length:Nat):Int) - 1).toNat=some x:=by rw[e];exact aV
   refine⟨m,m2,x,qK,m,m2,x,qK,m3,eJ aA0,?_⟩;exact er bu rfl (show x.1+x.2.1=gP l by unfold gP;rw[hx])
def Ge (l:aF1):Int:=if lU 0 l=true then gP l else 0
def ahC (l:aF1) (ak:l.length<=1000000000) (dW: ∀x,x∈l-> -4611686018427387904<=x.2.1/\x.2.1<=4611686018427387903):Fn prog 268 [b0 hI l] [] [] (ab (Ge l)) []:=by
 have aw:=LP l ak dW;unfold Ge
 cases J:lU 0 l with
 |false=>
  rw[J] at aw;refine aU [] func268 ?_;exact az aw <| gV bd
 |true=>
  rw[J] at aw;have U:=LQ l (fun x hx=>by have:=Aa J (Int.le_refl 0) hx;omega) az7;refine aU [] func268 ?_;exact az aw <| dR <| az U bd
def xU (fr bJ:Int) (out:aF1) (x:dN):List dN:=lT out (min (x.1+x.2.1) (fr+bJ) - max x.1 fr) x.2.2
def Ab (l:aF1) (fr bJ:Int):Bool:=lU 0 l&&(decide (1<=bJ)&&(decide (0<=fr)&&(decide (bJ<=gP l)&&decide (fr<=gP l - bJ))))
def uB (l:aF1) (fr bJ:Int):List dN:=if Ab l fr bJ=true then l.foldl (xU fr bJ) [] else[]
def ahD {l:aF1} {n k B:Int} (h: ∀x,l.getLast? =some x->0<=x.1/\0<=x.2.1/\x.1+x.2.1<=B) (dh:0<=B) {C:Int} (dM:B+n<=C) (aoR:B<=C): ∀x,(lT l n k).getLast? =some x->0<=x.1/\0<=x.2.1/\x.1+x.2.1<=C:=by
 intro x hx;unfold lT at hx
 split at hx
 .have:=h x hx;omega
 rename_i hn
 have oG:0<=gP l/\gP l<=B:=by
  unfold gP
  split
  .omega
  .rename_i y aC;have:=h y aC;omega
 split at hx
 .rename_i y aC;have aoS:=h y aC
  split at hx
  .obtain⟨au,aV⟩:=z8 aC;rw[List.getLast?_eq_getElem?,at7,au1 az7] at hx;injection hx with hx
   subst hx;show 0<=y.1/\0<=y.2.1+n/\y.1+(y.2.1+n)<=C;omega
  .rw[List.getLast?_append] at hx;simp at hx;subst hx;show 0<=gP l/\0<=n/\gP l+n<=C;omega
 .rw[List.getLast?_append] at hx;simp at hx;subst hx;show 0<=gP l/\0<=n/\gP l+n<=C;omega
def ahE (l:aF1) (n k:Int):(lT l n k).length<=l.length+1:=by
 unfold lT
 split
 .omega
 split
 .split
  .rw[at7];omega
  .rw[ap3];exact ao9 _
 .rw[ap3];exact ao9 _
abbrev ahF (l:aF1) (fr bJ:Int) (i:Nat):aW:=[(1,ab fr),(2,ab bJ),(7,eX 5002),(37,b0 hI l),(38,ab (l.length:Nat)),(39,ab (i:Nat))]
abbrev ahG (l:aF1) (fr bJ:Int) (i:Nat):aW:=[(1,ab fr),(2,ab bJ),(7,eX 1002),(37,b0 hI l),(38,ab (l.length:Nat)),(39,ab (i:Nat))]
abbrev ahH (out:aF1):av:=[(5002,.row 66 hI out)]
abbrev SX (out:aF1):av:=[(1002,.row 66 hI out)]
def q3 (l:aF1) (fr bJ:Int) (i:Nat):List dN:=(l.take i).foldl (xU fr bJ) []
def SY {l:aF1} {fr bJ:Int} {i:Nat} (h:i < l.length):q3 l fr bJ (i+1)=lT (q3 l fr bJ i) (min (l[i].1+l[i].2.1) (fr+bJ) - max l[i].1 fr) l[i].2.2:=by unfold q3;rw[ax3,ao7 h];show((l.take i)++[l[i]]).foldl _ _=_;rw[ax4];rfl
def SZ (l:aF1) (fr bJ:Int) (i:Nat):(q3 l fr bJ i).length<=i:=by
 unfold q3
 have: ∀(m:aF1) (out:aF1),(m.foldl (xU fr bJ) out).length<=out.length+m.length:=by
  intro m
  induction m with
  |nil=>intro out;exact ao9 _
  |cons x m bl=>
   intro out;have E:=bl (xU fr bJ out x);have G:=ahE out (min (x.1+x.2.1) (fr+bJ) - max x.1 fr) x.2.2;show(m.foldl (xU fr bJ) (xU fr bJ out x)).length<=out.length+(m.length+1);have ag:(xU fr bJ out x).length<=out.length+1:=G;omega
 have h:=this (l.take i) [];have G:(l.take i).length<=i:=aB8
 have ag:([]:aF1).length=0:=rfl;omega
def S0 {l:aF1} {fr bJ:Int} (aw:lU 0 l=true) (ug:0<=fr) (ahI:0<=bJ): ∀i,i<=l.length-> ∀x,(q3 l fr bJ i).getLast? =some x->0<=x.1/\0<=x.2.1/\x.1+x.2.1<=65536*(i:Int)
 |0,_,x,hx=>by cases hx
 |i+1,aG,x,hx=>by
  have dC:i < l.length:=aA5
  rw[SY dC] at hx;have U:=LO aw (Int.le_refl 0) _ (ar4 dC);exact ahD (S0 aw ug ahI i az7) az7 az7 az7 x hx
def ahJ (l:aF1) (fr bJ:Int) (ak:l.length<=1000000000) (dW: ∀x,x∈l-> -4611686018427387904<=x.2.1/\x.2.1<=4611686018427387903) (h:Ab l fr bJ=false):Fn prog 231 [b0 hI l,ab fr,ab bJ] [] [] (mH .dc) []:=by
 have aw:=LP l ak dW;have U:lU 0 l=true->_:=fun J=>LQ l (fun x hx=>by have:=Aa J (Int.le_refl 0) hx;omega) az7
 have LR:lU 0 l=true->0<=gP l/\gP l<=65536:=by
  intro J;unfold gP
  split
  .omega
  .rename_i y aC;have:=Aa J (Int.le_refl 0) aC;omega
 unfold Ab at h
 cases J:lU 0 l with
 |false=>
  rw[J] at aw;refine aU [] func231 ?_;exact az aw <| gV bd
 |true=>
  rw[J] at aw h;have U:=U J;have LR:=LR J;generalize gP l=e at*;refine aU [] func231 ?_;refine az aw <| dR ⟨fun E=>?_,fun E=>?_⟩
  .exact bd
  have E: ¬bJ < 1:=oj E;refine⟨fun G=>?_,fun G=>?_⟩
  .exact bd
  have G: ¬fr < 0:=oj G;refine az U ⟨fun ag=>?_,fun ag=>?_⟩
  .exact bd
  have ag: ¬e < bJ:=oj ag;refine az U ?_;have m1:c5 (e - bJ):=aA5
  refine⟨m1,fun aS=>?_,fun aS=>?_⟩
  .exact bd
  have aS: ¬e - bJ < fr:=oj aS;rw[aq1 (show 1<=bJ by omega),aq1 (show 0<=fr by omega),aq1 (show bJ<=e by omega),aq1 (show fr<=e - bJ by omega)] at h
  cases h
def ahK (l:aF1) (fr bJ:Int) (ak:l.length<=1000000) (dW: ∀x,x∈l-> -4611686018427387904<=x.2.1/\x.2.1<=4611686018427387903) (h:Ab l fr bJ=true):Fn prog 231 [b0 hI l,ab fr,ab bJ] [] [1002] (eX 1002) (SX (uB l fr bJ)):=by
 have aw:=LP l az7 dW
 have ahL:uB l fr bJ=q3 l fr bJ l.length:=by
  unfold uB q3;rw[vj h,ar2]
 rw[ahL];unfold Ab at h;simp only[ao8,as1] at h;obtain⟨J,E,G,ag,aS⟩:=h;rw[J] at aw;have U:=LQ l (fun x hx=>by have:=Aa J (Int.le_refl 0) hx;omega) az7
 have LR:0<=gP l/\gP l<=65536:=by
  unfold gP
  split
  .omega
  .rename_i y aC;have:=Aa J (Int.le_refl 0) aC;omega
 have CR:=S0 J G (show 0<=bJ by omega);have ahM:=LO J (Int.le_refl 0);have bZ:=SZ l fr bJ;generalize gP l=e at*;have m1:c5 (e - bJ):=aA5
 have m2:c5 (fr+bJ):=aA5
 refine aU [] func231 ?_;refine az aw <| dR ⟨fun h=>ap0 (gd h) az7,fun _=>⟨fun h=>ap0 (gd h) az7,fun _=>az U ⟨fun h=>ap0 (gd h) az7,fun _=>az U ⟨m1,fun h=>ap0 (gd h) az7,fun _=>ed [] (X:=Nat) (fun i=>ahF l fr bJ i) (fun i=>ahH (q3 l fr bJ i)) (fun i=>i<=l.length) (fun i=>l.length - i) 0 (ap9 _) ?_ ?_⟩⟩⟩⟩
 .exact(ac.nil 7 5002 66 hI rfl rfl).trans (ac.sub aE aE)
 intro i aG;have aG:i<=l.length:=aG;have CR:=CR i aG;have bZ:=bZ i;refine⟨fun J=>?_,fun J=>?_⟩
 .have J:decide ((i:Int) < ((l.length:Nat):Int))=true:=J;have dC:i < l.length:=aC0
  have aV:=j2 (n:=i) dC;have hx:=ahM _ (ar4 dC);have uA:=SY (fr:=fr) (bJ:=bJ) dC;generalize l[i]=x at*;have d0:(0:Int)<=(i:Int):=aA5
  have cU:c5 (x.1+x.2.1):=aA5
  have dB:c5 (min (x.1+x.2.1) (fr+bJ) - max x.1 fr):=aA5
  have dE:c5 ((i:Int)+1):=aA5
  have kz:min (x.1+x.2.1) (fr+bJ) - max x.1 fr<=4611686018427387903:=aA5
  have ha:=SU (q3 l fr bJ i) (min (x.1+x.2.1) (fr+bJ) - max x.1 fr) x.2.2 (fun y aC=>by have:=CR y aC;omega) kz az7;rw[<-uA] at ha;refine⟨d0,x,aV,rfl,cU,m2,eJ aA0,dB,az (Fn.a7 [(1001,5002)] ha) ?_⟩;exact⟨dE,i+1,dC,by show l.length - (i+1) < l.length - i;omega,ac.trans (cH (ahG l fr bJ (i+1)) (SX (q3 l fr bJ (i+1)))) ((ac.a7 1002 5002 rfl).trans (ac.sub aE aE))⟩
 .have J:decide ((i:Int) < ((l.length:Nat):Int))=false:=J;have nQ:i=l.length:=aB5
  subst nQ;exact⟨_,_,_,ac.a7 5002 1002 rfl,rfl,rfl,aE,rfl⟩
def ahN (l:aF1) (fr bJ:Int) (ak:l.length<=1000000) (dW: ∀x,x∈l-> -4611686018427387904<=x.2.1/\x.2.1<=4611686018427387903):Fn prog 231 [b0 hI l,ab fr,ab bJ] [] [] (b0 hI (uB l fr bJ)) []:=by
 cases h:Ab l fr bJ with
 |false=>
  have e:uB l fr bJ=[]:=by unfold uB;rw[h];rfl
  rw[e];exact(ahJ l fr bJ az7 dW h).res rfl
 |true=>exact Fn.dX (aP:=[]) (ahK l fr bJ ak dW h) rfl rfl
def h2 (l:aF1):List dN:=uB l 0 (Ge l)
def ahO (l:aF1) (ak:l.length<=1000000) (dW: ∀x,x∈l-> -4611686018427387904<=x.2.1/\x.2.1<=4611686018427387903):Fn prog 246 [b0 hI l] [] [] (b0 hI (h2 l)) []:=by have E:=ahC l az7 dW;have G:=ahN l 0 (Ge l) ak dW;refine aU [] func246 ?_;exact az E <| az G bd
end
section
def S1 {ρ:Go.Shelf.Ren} (L:SlLaysW.n5 prog ρ) (fH:iX prog (ρ.f 5)=true) {aI aK:bz} (es:List (aa aI×aa aK)):
  Fn prog (ρ.f 5) [.c (.one (.mp 1001))] [(1001,.map aI aK es)] [2001] (.c (.one (.mp 2001))) [(1001,.map aI aK es),(2001,.map aI aK es)]:=by
 refine⟨fH,fun ρ F I w bW aZ c9 bj ew bZ dz=>?_⟩
 match bW,bZ with
 | [v],_=>
  obtain rfl:v= .map (some (ρ 1001).bh):=dz 0 _ v rfl rfl;obtain⟨EX,bP,bU,O,aD,dh⟩:=c9 1001 _ rfl;refine(AnyW.maps_Clone L _ _ _ w O).mono ?_;rintro e w' ⟨rfl,rfl⟩;have gx:Below w.heap.size w (w.alloc (.map (List.toArray bP) bU)):=(Below.refl _ _).alloc (ao9 _) _;have a2:cj I w I (w.alloc (.map (List.toArray bP) bU)):=fun b ia=>⟨ia,gx.block b (aZ b ia)⟩
  have br:=l0 O;refine⟨_,dm ρ 2001 ⟨w.heap.size,none,0,0⟩,dm F 2001 (fun b=>b=w.heap.size),rfl,cR.qh gx,fun c J=>dt _ _ (fun e=>J (by simp[e])),I,a2,fun b ia=>⟨aq8 (aZ b ia) gx.size,.inl ia⟩,?_,?_,?_,?_⟩
  .intro c ch J;rw[cn] at J
   split at J
   .rename_i e2;subst e2;injection J with J;subst J
    rw[dt _ _ az8,dt _ _ az8];exact⟨EX,bP,bU,(gx.block _ br).trans O,aD.mono a2,dh⟩
   .rw[cn] at J
    split at J
    .rename_i e2;subst e2;injection J with J;subst J
     rw[dr,dr];exact⟨fun b=>Iff.rfl,bP,bU,heap_alloc_new w _,aD.mono a2,dh⟩
    .simp[ae] at J
  .intro c ch J b CS;rw[cn] at J
   split at J
   .rename_i e2;subst e2;rw[dt _ _ az8] at CS;have:=bj 1001 _ rfl b CS;exact⟨aq8 this.1 gx.size,this.2,.inl ⟨1001,_,rfl,CS⟩⟩
   .rw[cn] at J
    split at J
    .rename_i e2;subst e2;rw[dr] at CS;subst CS;exact⟨az9,fun ia=>by have:=aZ _ ia;omega,.inr (ao9 _)⟩
    .simp[ae] at J
  .intro c ck ch ch' b J c0 a6 jd iZ
   have key: ∀c ch,ae [(1001,ba.map aI aK es),(2001,ba.map aI aK es)] c=some ch->c=1001\/c=2001:=fun c ch J=>by
    rw[cn] at J
    split at J
    .rename_i h;exact .inl h.symm
    .rw[cn] at J
     split at J
     .rename_i h;exact .inr h.symm
     .simp[ae] at J
   rcases key c ch J with rfl |rfl <;>rcases key ck ch' c0 with rfl |rfl
   .exact a6 rfl
   .rw[dt _ _ az8] at jd;rw[dr] at iZ;have:=(bj 1001 _ rfl b jd).1;omega
   .rw[dt _ _ az8] at iZ;rw[dr] at jd;have:=(bj 1001 _ rfl b iZ).1;omega
   .exact a6 rfl
  .show Value.map (some w.heap.size)=Value.map (some (dm ρ 2001 _ 2001).bh);rw[dr]
end
section
def oH (s g:Int):Int:=(s+g - 1)/g
def CT {s g:Int} (ax:0<=s/\s<=4096) (aV:1<=g/\g<=64):0<=oH s g/\oH s g<=4160:=by unfold oH;have dB:(0:Int)<=(s+g - 1)/g:=az1 az7 az7;have dE:(s+g - 1)/g<=s+g - 1:=Int.ediv_le_self _ az7;omega
def ahP (s g:Int) (es:aD4) (ax:0<=s/\s<=4096) (aV:1<=g/\g<=64):Fn prog 209 [ap 1001] (iR s g es) [] (ab (oH s g)) (iR s g es):=by
 have lf:=CT ax aV;unfold oH at lf⊢;have ec:c5 (s+g):=aA5
 have mn:c5 (s+g - 1):=aA5
 have rS:c5 ((s+g - 1)/g):=aA5
 have n6:(0:Int)<=s+g - 1/\0 < g:=aA5
 refine aU [] func209 ?_;exact⟨ec,mn,n6,rS,eJ aA0,bd⟩
def uC (es:aD4) (f:Int):Nat->List (aa aj×aa aj)
 |0=>es
 |n+1=>gB (aI:=aj) (aK:=aj) (uC es f n) (f+(n:Int))
def ahQ (s g:Int) (es:aD4) (k:Int):Fn prog 244 [ab k,ap 3001] (q2 s g es) [] gU (q2 s g (gB (aI:=aj) (aK:=aj) es k)):=by refine aU [] func244 ?_;exact bd
abbrev ahR (d' k:Int):aW:=[(4,ab d'),(5,.c (.one (.cW 244 [.p 3001 0]))),(13,ab k)]
def ahS (s g:Int) (es:aD4) (fr bJ fT d':Int) (E:0<=bJ) (G:0<=fr) (ag:bJ<=s) (aS:fr<=s - bJ) (ax:s<=4096) (bG:0<=fT) (eH:d'<=1000000):Fn prog 184 [ap 1001,ab fr,ab bJ,ab fT,ab d',.c (.one (.cW 244 [.p 3001 0]))] (q2 s g es) [] (ab 0) (q2 s g (uC es fT (d' - fT).toNat)):=by
 have m1:c5 (s - bJ):=aA5
 refine aU [] func184 ?_;refine⟨fun h=>ap0 (gd h) az7,fun _=>⟨fun h=>ap0 (gd h) az7,fun _=>⟨fun h=>ap0 (gd h) az7,fun _=>⟨m1,fun h=>ap0 (gd h) az7,fun _=>ed [6] (X:=Nat) (fun j=>ahR d' (fT+(j:Int))) (fun j=>q2 s g (uC es fT j)) (fun j=>j<=(d' - fT).toNat) (fun j=>(d' - fT).toNat - j) 0 (ap9 _) ?_ ?_⟩⟩⟩⟩
 .exact ac.sub ⟨rfl,rfl,(show fT=fT+((0:Nat):Int) by omega),trivial⟩ aE
 intro j V;have V:j<=(d' - fT).toNat:=V;refine⟨fun J=>?_,fun J=>?_⟩
 .have J:decide (fT+(j:Int) < d')=true:=J;have J:=gd J;exact bx [] (bu) <| az (ahQ s g (uC es fT j) (fT+(j:Int))) ⟨az7,j+1,az7,az7,ac.sub ⟨rfl,rfl,(show fT+(j:Int)+1=fT+((j+1:Nat):Int) by omega),trivial⟩ aE⟩
 .have J:decide (fT+(j:Int) < d')=false:=J;have J:=oj J;have fM:j=(d' - fT).toNat:=aA5
  subst fM;exact bd
def CU (s g:Int) (es:aD4):List (aa aj×aa aj):=uC es 0 (oH s g).toNat
abbrev ahT (s d':Int):aW:=[(1,ab 0),(2,ab s),(3,ap 3),(7,ab d')]
def ahU (s g:Int) (es:aD4) (ax:0<=s/\s<=4096) (aV:1<=g/\g<=64):Fn prog 202 [ap 1001,ab 0,ab s] (iR s g es) [] (ab 0) (iR s g (CU s g es)):=by
 have lf:=CT ax aV;have KA:=ahP s g es ax aV;have d0:(0:Int)<=(0+s)/g:=az1 az7 az7;have cU:(0+s)/g<=0+s:=Int.ediv_le_self _ az7;have c4:c5 (0+s):=aA5
 have ec:(0:Int)<=0+s/\0 < g:=aA5
 have mn:c5 ((0+s)/g):=aA5
 have rS:c5 (0+g):=aA5
 have n5:c5 (0+g - 1):=aA5
 have n6:(0:Int)<=0+g - 1/\0 < g:=aA5
 have bI:(0+g - 1)/g=0:=Int.ediv_eq_zero_of_lt az7 az7;have n7:c5 ((0+g - 1)/g):=aA5
 have U:=ahS s g es 0 s 0 (oH s g) ax.1 (Int.le_refl 0) (Int.le_refl s) az7 ax.2 (Int.le_refl 0) az7;have aY:(oH s g - 0).toNat=(oH s g).toNat:=by rw[Int.sub_zero]
 rw[aY] at U;unfold CU;generalize oH s g=d' at*;refine aU [4] func202 ?_;refine⟨rfl,c4,ec,mn,c4,?_⟩;exact⟨fun _=>az KA <| bx [] (cH (ahT s d') (CJ s g es)) ⟨rS,n5,n6,n7,az (Fn.arg (args:=[ap 1001,ab 0,ab s,ab ((0+g - 1)/g),ab d',.c (.one (.cW 244 [.p 3001 0]))]) U ⟨rfl,rfl,rfl,bI,rfl,rfl,trivial⟩ |> Fn.a7 [(3001,3)]) ⟨eJ aA0,bd⟩⟩,fun h=>ap0 (show decide (0+s=s)=false from h) (by rw[Int.zero_add];simp)⟩
def nR (g:Int) (es:aD4) (n:Nat):List Int:=(List.range n).map fun k=>if mw g es k=true then 1 else 0
def ahV (g:Int) (es:aD4) (n:Nat):nR g es (n+1)=nR g es n++[if mw g es n=true then 1 else 0]:=by unfold nR;rw[List.range_succ,au2];rfl
def LS (g:Int) (es:aD4) (n:Nat):(nR g es n).length=n:=by unfold nR;rw[aq3,List.length_range]
def r0 (s g:Int) (es:aD4):List dN:=m7 (nR g es s.toNat)
abbrev ahW (s:Int) (j:Nat):aW:=[(0,ap 1001),(3,eX 5002),(9,ab s),(10,ab (j:Nat))]
abbrev S2 (s:Int) (j:Nat):aW:=[(0,ap 1001),(3,eX 19),(9,ab s),(10,ab (j:Nat))]
abbrev ahX (s g:Int) (es:aD4) (x:aE5):av:=iR s g es++[(5002,.row 3 aj x)]
abbrev S3 (s g:Int) (es:aD4) (x:aE5):av:=iR s g es++[(19,.row 3 aj x)]
def ahY (s g:Int) (es:aD4) (ax:0<=s/\s<=4096) (aV:1<=g):Fn prog 174 [ap 1001] (iR s g es) [] (b0 hI (r0 s g es)) (iR s g es):=by
 have ahZ:=ahz (nR g es s.toNat) (by rw[LS];omega);unfold r0;refine aU [] func174 ?_;refine ed [] (X:=Nat) (fun j=>ahW s j) (fun j=>ahX s g es (nR g es j)) (fun j=>j<=s.toNat) (fun j=>s.toNat - j) 0 (ap9 _) ?_ ?_
 .exact(ac.nil 3 5002 3 aj rfl rfl).trans (ac.sub aE aE)
 intro j V;have V:j<=s.toNat:=V;have ru:=ahV g es j;have vG:=LS g es j;refine⟨fun J=>?_,fun J=>?_⟩
 .have J:decide ((j:Int) < s)=true:=J;have fg:(j:Int) < s:=gd J;have aG:=SB s g es j aV fg ax.2;have m:List.length (α:=Int) (nR g es j)+1<=4294967296:=aA5
  have m2:c5 ((j:Int)+1):=aA5
  generalize nR g es j=ks at*;generalize mw g es j=b at*;refine az aG ⟨fun O=>?_,fun O=>?_⟩
  .have O:b=true:=O;subst O;have ru:nR g es (j+1)=ks++[1]:=ru;exact⟨m,rfl,m2,j+1,(by show j+1<=s.toNat;omega),(by show s.toNat - (j+1) < s.toNat - j;omega),ac.trans (ac.sub (K':=S2 s (j+1)) (B':=S3 s g es (nR g es (j+1))) aE ⟨rfl,rfl,ap1 (fun aF:List Int=>some (ba.row 3 aj aF)) ru.symm,trivial⟩) <| (ac.a7 19 5002 rfl).trans (ac.sub aE aE)⟩
  .have O:b=false:=O;subst O;have ru:nR g es (j+1)=ks++[0]:=ru;exact⟨m,rfl,m2,j+1,(by show j+1<=s.toNat;omega),(by show s.toNat - (j+1) < s.toNat - j;omega),ac.trans (ac.sub (K':=S2 s (j+1)) (B':=S3 s g es (nR g es (j+1))) aE ⟨rfl,rfl,ap1 (fun aF:List Int=>some (ba.row 3 aj aF)) ru.symm,trivial⟩) <| (ac.a7 19 5002 rfl).trans (ac.sub aE aE)⟩
 .have J:decide ((j:Int) < s)=false:=J;have fM:j=s.toNat:=aB5
  subst fM;exact az (Fn.own (d:=5002) (e:=3) (u:=aj) (xs:=nR g es s.toNat) (args:=[eX 5002]) ahZ rfl) bd
def S4 (es:aD4):Fn prog 194 [.c (.one (.mp 1001))] [(1001,.map aj aj es)] [2001] (.c (.one (.mp 2001))) [(1001,.map aj aj es),(2001,.map aj aj es)]:=
 S1 ab4 aA0 es
def ah0 (s g:Int) (es:aD4):Fn prog 133 [ap 1001] (iR s g es) [2001,2002] (ap 2001) (iR s g es++[(2001,.cells [.d (.int .i64 s),.d (.int .i64 g),.mp 2002]),(2002,.map aj aj es)]):=by refine aU [] func133 ?_;exact az (Fn.a7 [(1001,1002),(2001,2002)] (S4 es)) ⟨rfl,eJ aA0,_,_,_,ac.a7 17 2001 rfl,rfl,rfl,aE,rfl⟩
abbrev LT (l:aF1) (k:Int):av:=[(2001,.cells [.d (.cr hI l)]),(2002,.cells [.d (.int .i64 k)])]
abbrev LU (l:aF1) (k:Int) (o:bc):av:=[(2001,.cells [.d (.cr hI l)]),(2002,.cells [.d (.int .i64 k)]),(1001,.aA o)]
abbrev S5 (y:Nat) (m:aF1) (i:Nat):aW:=[(0,vB y),(2,ap 2002),(7,b0 hI m),(8,ab (m.length:Nat)),(9,ab (i:Nat))]
def ah1 (l:aF1) (k:Int):Fn prog 203 [b0 hI l,ab k] [] [2001,2002] (.c (.one (.cW 245 [.p 2001 0,.p 2002 0]))) (LT l k):=by refine aU [] func203 ?_;exact⟨rfl,rfl,_,_,_,(ac.a7 2 2001 rfl).trans (ac.a7 3 2002 rfl),rfl,rfl,aE,rfl⟩
def ah2 (y:Nat) (l:aF1) (k:Int) (ak:l.length<=1000000) (dW: ∀x,x∈l-> -4611686018427387904<=x.2.1/\x.2.1<=4611686018427387903) {X:Type} (dq:X->bc) (xs:Nat->X)
  (aC: ∀i (h:i < (h2 l).length),(h2 l)[i].2.2=k->sL prog y [ab (h2 l)[i].1,ab (h2 l)[i].2.1] [(1001,.aA (dq (xs i)))] (fun _:Unit=>oa true) (fun _=>[(1001,.aA (dq (xs (i+1))))]))
  (a6: ∀i (h:i < (h2 l).length),¬(h2 l)[i].2.2=k->xs (i+1)=xs i) (fc:(h2 l).length<=1000000):
  Fn prog 245 [vB y,ap 2001,ap 2002] (LU l k (dq (xs 0))) [] (.cm []) [(1001,.aA (dq (xs (h2 l).length)))]:=by
 have hn:=ahO l ak dW;generalize h2 l=m at*;refine aU [3] func245 ?_;refine az hn <| ed [3] (X:=Nat) (fun i=>S5 y m i) (fun i=>LU l k (dq (xs i))) (fun i=>i<=m.length) (fun i=>m.length - i) 0 (ap9 _) ?_ ?_
 .exact ac.sub aE aE
 intro i aG;have aG:i<=m.length:=aG;refine⟨fun J=>?_,fun J=>?_⟩
 .have J:decide ((i:Int) < ((m.length:Nat):Int))=true:=J;have dC:i < m.length:=aC0
  have aV:=j2 (n:=i) dC;have aC:=aC i dC;have a6:=a6 i dC;generalize m[i]=x at*;have d0:(0:Int)<=(i:Int):=aA5
  have cU:c5 ((i:Int)+1):=aA5
  refine⟨d0,x,aV,rfl,bB.le (cH ((5,ap 5)::S5 y m i) ((5,.cells (aht x))::LU l k (dq (xs i)))) <| bB.hP eC aA0 ⟨fun Z=>?_,fun Z=>?_⟩⟩
  .have Z:x.2.2=k:=gd Z;refine⟨Unit,_,_,_,aC Z,aE,fun _=>rfl,fun _=>?_⟩;exact⟨cU,i+1,dC,(by show m.length - (i+1) < m.length - i;omega),ac.sub aE aE⟩
  .have Z: ¬x.2.2=k:=oj Z;have a6:=a6 Z;exact⟨cU,i+1,dC,(by show m.length - (i+1) < m.length - i;omega),ac.sub aE ⟨rfl,rfl,ap1 (fun aF=>some (ba.aA (dq aF))) a6.symm,trivial⟩⟩
 .have J:decide ((i:Int) < ((m.length:Nat):Int))=false:=J;have nQ:i=m.length:=aB5
  subst nQ;exact bd
def ah3 {ks:aE5} (Z:ks.length<=65536):(m7 ks).length<=65536/\ ∀x,x∈m7 ks-> -4611686018427387904<=x.2.1/\x.2.1<=4611686018427387903:=by have h:=SW ks;refine⟨by have:=h.len;omega,fun x hx=>?_⟩;have:=h.Gc x hx;omega
def ah4 (l:aF1) (fr bJ:Int):(uB l fr bJ).length<=l.length:=by
 unfold uB
 split
 .have:=SZ l fr bJ l.length;unfold q3 at this
  rwa[ar2] at this
 .exact ap9 _
def vS (s g:Int) (es:aD4) (x:dN):List (aa aj×aa aj):=if x.2.2=1 then m6 s g es x.1 x.2.1 else es
def m8 (s g:Int) (es:aD4) (m:aF1) (i:Nat):List (aa aj×aa aj):=(m.take i).foldl (vS s g) es
def S6 (s g:Int) (es:aD4) {m:aF1} {i:Nat} (h:i < m.length):m8 s g es m (i+1)=vS s g (m8 s g es m i) m[i]:=by unfold m8;rw[ax3,ao7 h];show((m.take i)++[m[i]]).foldl _ _=_;rw[ax4];rfl
def Ac (s g:Int) (es:aD4) (row:aF1):List (aa aj×aa aj):=m8 s g es (h2 row) (h2 row).length
abbrev Gf (s g:Int) (es:aD4) (bF g2:Int) (ef:aD4):av:=[(1001,.cells (Lx s g)),(1002,.map aj aj es),(3001,.cells [.d (.int .i64 bF),.d (.int .i64 g2),.mp 3002]),(3002,.map aj aj ef)]
abbrev S7 (s g:Int) (es:aD4) (bF g2:Int) (ef:aD4):av:=[(1001,.cells (Lx s g)),(1002,.map aj aj es),(2,.cells [.ptr 1001 0]),(3001,.cells [.d (.int .i64 bF),.d (.int .i64 g2),.mp 3002]),(3002,.map aj aj ef)]
def ah5 (s g:Int) (es:aD4) (bF g2:Int) (ef:aD4) (ax:0<=s/\s<=4096) (aV:1<=g/\g<=64) (f0:0<=bF/\bF<=4096) (ah6:1<=g2/\g2<=64) (ah7:bF=s):Fn prog 145 [ap 1001,ap 3001] (Gf s g es bF g2 ef) [] (ab 0) (Gf s g (Ac s g es (r0 bF g2 ef)) bF g2 ef):=by
 have fN:=ahY bF g2 ef f0 ah6.1;have dW:=ah3 (ks:=nR g2 ef bF.toNat) (by rw[LS];omega);have dW:(r0 bF g2 ef).length<=65536/\ ∀x,x∈r0 bF g2 ef->_:=dW;have fc:(h2 (r0 bF g2 ef)).length<=(r0 bF g2 ef).length:=ah4 _ _ _;unfold Ac;generalize r0 bF g2 ef=rw at*;refine aU [] func145 ?_;refine⟨rfl,eJ aA0,fun J=>ap0 (show(!decide (bF=s))=true from J) (by simp[ah7]),fun _=>az (Fn.a7 [(1001,3001),(1002,3002)] fN) <| az (ah1 rw 1) <| bB.le (cH [(22,.c (.one (.cW 245 [.p 2001 0,.p 2002 0]))),(2,ap 2)] (LT rw 1++S7 s g es bF g2 ef)) <| bB.range eC [] (pl:=[23,24]) rfl aA0 aA0 aA0 aA0 [1001,1002,2,3001,3002] _ [(2,ap 2)] (LT rw 1) (fun e:List (aa aj×aa aj)=>S7 s g e bF g2 ef) 1001 es (m8 s g es (h2 rw) (h2 rw).length) (fun e aB ca=> ∃(i:Nat) (h:i < (h2 rw).length),(h2 rw)[i].2.2=1/\e=m8 s g es (h2 rw) i/\aB=[ab (h2 rw)[i].1,ab (h2 rw)[i].2.1]/\ca=m8 s g es (h2 rw) (i+1)) rfl aA9 rfl rfl ?_ ?_ ?_⟩
 .rintro e aB ca ⟨i,aG,Z,rfl,rfl,rfl⟩;have ru:=S6 s g es aG;have hj:=LA s g (m8 s g es (h2 rw) i) (h2 rw)[i].1 (h2 rw)[i].2.1 ax aV;have ru:m8 s g es (h2 rw) (i+1)=m6 s g (m8 s g es (h2 rw) i) (h2 rw)[i].1 (h2 rw)[i].2.1:=by rw[ru];unfold vS;rw[vj Z]
  generalize(h2 rw)[i]=x at*;generalize m8 s g es (h2 rw) i=af at*;generalize m8 s g es (h2 rw) (i+1)=al at*;subst ru;exact⟨rfl,rfl,rfl,az hj ⟨rfl,ac.sub trivial aE⟩⟩
 .intro y dq pU aC;exact ah2 y rw 1 az7 dW.2 dq (fun i=>m8 s g es (h2 rw) i) (fun i aG Z=>aC _ _ _ ⟨i,aG,Z,rfl,rfl,rfl⟩) (fun i aG Z=>by rw[S6 s g es aG];unfold vS;rw[mu Z]) az7
 .exact bd
end
section
abbrev LV (aK:bz):=Nat×(aa aj×aa aK)
def ah8 {aK:bz} (p:LV aK):Int:=p.2.1
def gone {aK:bz} (n:Int) (b8:aD3) (l:List (LV aK)):List (LV aK):=l.filter fun p=> !(b8.contains p.1&&decide (n<=ah8 p))
def S8 {es:aD4} (h:e5 es) (f:Int): ∀n,e5 (rY es f n)
 |0=>h
 |n+1=>e5.put oW (S8 h f n)
def LW {s g:Int} {es:aD4} (h:e5 es) (fr bJ:Int):e5 (m6 s g es fr bJ):=by
 unfold m6
 split
 .exact S8 h _ _
 .exact h
def Gg {es:aD4} (h:e5 es) (f:Int): ∀n,e5 (uC es f n)
 |0=>h
 |n+1=>e5.mO (Gg h f n)
def ah9 {s g:Int} {es:aD4} (h:e5 es) (m:aF1) (i:Nat):e5 (m8 s g es m i):=by
 unfold m8;generalize m.take i=l
 induction l generalizing es with
 |nil=>exact h
 |cons x l bl=>
  refine bl (es:=vS s g es x) ?_;unfold vS
  split
  .exact LW h _ _
  .exact h
end
section
open Go.RowKit Go.Proofs Go.Maps Go.Shelf Go.MapKept _root_.Go.Proofs.Tryz Tryz
open Go.WideElems (Fit rd rg pl rd_val rd_key rg_of)
structure bq where
 nm:aD2
 ad:Nat
 eF:Nat
 on:Bool
 us:Bool
 s:Int
 g:Int
 es:List (aa aj×aa aj)
abbrev aE3:=List bq
abbrev jy (e:bq):aa .str×aa .aM:=((e.nm:aa .str),(some e.ad:aa .aM))
abbrev Gh (nm:aD2) (on us:Bool) (eF:Nat):List bw:=[.d (.str nm),.d (.bool on),.d (.bool us),.d (.aM (some eF))]
def xV (nm:aD2) (on us:Bool) (eF:Nat):bc:=bc.ch (.cells (Gh nm on us eF)) (fun _=>rfl)
def e9 (s g:Int) (es:aD4):bc:=bc.iz 1001 (iR s g es)
def eP (l:aE3):List (aa .str×aa .aM):=l.map jy
abbrev vT (e:bq):Nat×bc:=(e.ad,xV e.nm e.on e.us e.eF)
abbrev vU (e:bq):Nat×bc:=(e.eF,e9 e.s e.g e.es)
def m9 (l:aE3):List (Nat×bc):=l.map vT
def kR (l:aE3):List (Nat×bc):=l.map vU
abbrev eV (l:aE3):av:=[(1001,.cells [.mp 1002]),(1002,.map .str .aM (eP l)),(1003,.aA (.bD (m9 l))),(1004,.aA (.bD (kR l)))]
def dy (l:aE3) (nm:aD2):Option bq:=l.find? fun e=>decide (e.nm=nm)
def vV (d:bq) (L:aE3) (nm:aD2):dy (d::L) nm=if d.nm=nm then some d else dy L nm:=by
 unfold dy;rw[List.find?_cons]
 by_cases e:d.nm=nm
 .rw[aq1 e,vj e]
 .rw[as7 e,mu e]
def lV {l:aE3} {nm:aD2} {e:bq} (h:dy l nm=some e):e∈l/\e.nm=nm:=⟨az3 h,by have:=List.find?_some h;simpa using this⟩
def Gi (nm:aD2): ∀L:List bq,(bV (aI:=.str) (aK:=.aM) (eP L) nm).getD (cM .aM)=((dy L nm).map (·.ad):Option Nat)
 | []=>rfl
 |d::L=>by
  have bl:=Gi nm L;show(bV (aI:=.str) (aK:=.aM) (jy d::eP L) nm).getD (cM .aM)=_;rw[vV];rw[show bV (aI:=.str) (aK:=.aM) (jy d::eP L) nm=match fD .str (nm:aa .str) (jy d).1 with |true=>some (jy d).2 |false=>bV (aI:=.str) (aK:=.aM) (eP L) nm from rfl]
  by_cases e:d.nm=nm
  .rw[show fD .str (nm:aa .str) (jy d).1=true from(pL _ _).2 e.symm,vj e];rfl
  .rw[show fD .str (nm:aa .str) (jy d).1=false from qF (aI:=.str) pL (fun h=>e h.symm),mu e];exact bl
def LX {f:bq->Nat×bc}: ∀{L:aE3},(L.map fun d=>(f d).1).Nodup-> ∀{d:bq},d∈L->eN (L.map f) (f d).1=some (f d).2
 | [],_,d,h=>by cases h
 |e::L,hn,d,h=>by
  rw[aq5] at hn;obtain⟨c4,ec⟩:=as2.1 hn;rw[aq5];unfold eN;rcases ap7.1 h with rfl |h
  .rw[vj rfl]
  .rw[mu (fun e=>c4 (by rw[e];exact ar8 (f:=fun d=>(f d).1) h))];exact LX ec h
def LY {f:bq->Nat×bc} {u:bq->bq}: ∀{L:aE3},(L.map fun d=>(f d).1).Nodup-> ∀{d:bq},d∈L->(f (u d)).1=(f d).1->gr (L.map f) (f d).1 (f (u d)).2=(L.map fun x=>if(f x).1=(f d).1 then u x else x).map f
 | [],_,d,h,_=>by cases h
 |e::L,hn,d,h,Z=>by
  rw[aq5] at hn;obtain⟨c4,ec⟩:=as2.1 hn;rw[aq5,aq5,aq5];unfold gr;rcases ap7.1 h with rfl |h
  .rw[vj rfl,vj rfl]
   have ah':(L.map fun x=>if(f x).1=(f d).1 then u x else x)=L:=by
    refine(ar9 fun x hx=>?_).trans (List.map_id' L);rw[mu fun e=>c4 (by rw[<-e];exact ar8 (f:=fun d=>(f d).1) hx)]
   rw[ah']
   congr 1
   exact Prod.ext Z.symm rfl
  .have a6: ¬(f e).1=(f d).1:=fun al=>c4 (by rw[al];exact ar8 (f:=fun d=>(f d).1) h)
   rw[mu a6,mu a6,LY ec h Z]
def m' (l:aE3) (a:Nat) (u:bq->bq):List bq:=l.map fun x=>if x.ad=a then u x else x
structure e' (l:aE3):Prop where
 gE:(l.map (·.nm)).Nodup
 mY:(l.map (·.ad)).Nodup
 vW:(l.map (·.eF)).Nodup
 ok: ∀e,e∈l->(0<=e.s/\e.s<=4096)/\(1<=e.g/\e.g<=64)/\e5 e.es/\e.nm.length<=64
 len:l.length<=8
def xW {α mj:Type} {f:α->mj}: ∀{l:List α},(l.map f).Nodup-> ∀{p q:α},p∈l->q∈l->f p=f q->p=q
 | [],_,_,_,h,_,_=>by cases h
 |a::l,h,p,q,ao,aY,e=>by
  rw[aq5,as2] at h;rcases ap7.1 ao with ao |ao <;>rcases ap7.1 aY with aY |aY
  .rw[ao,aY]
  .exact ap0 (by rw[<-ao,e];exact ar8 aY) h.1
  .exact ap0 (by rw[<-aY,<-e];exact ar8 ao) h.1
  .exact xW h.2 ao aY e
def e'.D {l:aE3} (h:e' l) {e:bq} (U:e∈l):eN (m9 l) e.ad=some (xV e.nm e.on e.us e.eF):=LX (f:=vT) h.mY U
def e'.M {l:aE3} (h:e' l) {e:bq} (U:e∈l):eN (kR l) e.eF=some (e9 e.s e.g e.es):=LX (f:=vU) h.vW U
def S9 {l:aE3} {a:Nat} {u:bq->bq} (E: ∀e,(u e).nm=e.nm) (G: ∀e,(u e).ad=e.ad):eP (m' l a u)=eP l:=by
 unfold eP m';rw[at6];refine ar9 fun x _=>?_
 show jy (if x.ad=a then u x else x)=jy x
 split
 .unfold jy;rw[E,G]
 .rfl
def Ta {l:aE3} (h:e' l) {e:bq} (U:e∈l) {u:bq->bq} (G:(u e).ad=e.ad):gr (m9 l) e.ad (xV (u e).nm (u e).on (u e).us (u e).eF)=m9 (m' l e.ad u):=
 LY (f:=vT) (u:=u) h.mY U G
def Tb {l:aE3} (h:e' l) {e:bq} (U:e∈l) {u:bq->bq} (G:(u e).eF=e.eF):gr (kR l) e.eF (e9 (u e).s (u e).g (u e).es)=kR (m' l e.ad u):=by
 refine(LY (f:=vU) (u:=u) h.vW U G).trans ?_;unfold kR m'
 congr 1
 refine ar9 fun x hx=>?_
 by_cases J:x.ad=e.ad
 .have:=xW h.mY hx U J;subst this;rw[vj rfl,vj rfl]
 .rw[mu J,mu fun al=>J (by rw[xW h.vW hx U al])]
def aia {l:aE3} {a:Nat} {u:bq->bq} (E: ∀e,(u e).eF=e.eF/\(u e).s=e.s/\(u e).g=e.g/\(u e).es=e.es):kR (m' l a u)=kR l:=by
 unfold kR m';rw[at6];refine ar9 fun x _=>?_
 show vU (if x.ad=a then u x else x)=vU x
 split
 .obtain⟨bR,b',a3,a4⟩:=E x;unfold vU;rw[bR,b',a3,a4]
 .rfl
def e'.dm {l:aE3} (h:e' l) {a:Nat} {u:bq->bq} (E: ∀e,(u e).nm=e.nm/\(u e).ad=e.ad/\(u e).eF=e.eF) (G: ∀e,e∈l->e.ad=a->(0<=(u e).s/\(u e).s<=4096)/\(1<=(u e).g/\(u e).g<=64)/\e5 (u e).es):e' (m' l a u):=by
 have key: ∀{mj:Type} (f:bq->mj),(∀e,f (u e)=f e)->(m' l a u).map f=l.map f:=fun f hf=>by
  unfold m';rw[at6];refine ar9 fun x _=>?_
  show f (if x.ad=a then u x else x)=f x
  split
  .exact hf x
  .rfl
 refine⟨by rw[key _ fun e=>(E e).1];exact h.gE,by rw[key _ fun e=>(E e).2.1];exact h.mY,by rw[key _ fun e=>(E e).2.2];exact h.vW,fun e U=>?_,by unfold m';rw[aq3];exact h.len⟩;obtain⟨x,hx,rfl⟩:=ar6.1 U
 by_cases J:x.ad=a
 .rw[vj J];obtain⟨b1,b2,b3⟩:=G x hx J;exact⟨b1,b2,b3,by rw[(E x).1];exact(h.ok x hx).2.2.2⟩
 .rw[mu J];exact h.ok x hx
def LZ {f:aE8} {args:List aN} {res:aN} {s g s' gW:Int} {es eK:aD4} {M:List (Nat×bc)} {b:Nat} (h:Fn prog f (ap 1001::args) (iR s g es) [] res (iR s' gW eK)) (ah:eN M b=some (e9 s g es))
  (E:nA 1001 [1002] (ap 1001::args) (iR s g es) [] [] []=true) (G:nB 1001 (mh [1002] [] []) res (iR s' gW eK) []=true) (ag:(args.all fun v=> !v.has 1001)=true) (aS:(!res.has 1001)=true):
  Fn prog f (di b::args) [(1004,.aA (.bD M))] [] res [(1004,.aA (.bD (gr M b (e9 s' gW eK))))]:=by
 have J:Fn prog f (ap 1001::args) [(1001,.aA (e9 s g es))] [] res [(1001,.aA (e9 s' gW eK))]:=Fn.close (bp:=iR s g es) (dD:=iR s' gW eK) (aJ:=[]) (aP:=[]) [1002] aA6 (fun _ _ _ _ h=>h) (fun _ _ _ _ h=>h) E G;exact(cz.bD (c:=1001) (q:=1004) (b:=b) (args:=args) (aJ:=[]) (bb:=[]) (X:=Unit) (res:=fun _=>res) (aP:=fun _=>[]) (o:=e9 s g es) (o':=fun _=>e9 s' gW eK) (L:=M) J.x ah ag ⟨rfl,rfl⟩ rfl (fun _=>aS)).fn
def aib:Fn prog 64 [] [] [1001,1002,1003,1004] (ap 1001) (eV []):=by refine aU [] func64 ?_;exact⟨rfl,rfl,_,_,_,ac.trans (ac.a7 3 1001 rfl) (ac.trans (ac.a7 1 1002 rfl) (ac.trans (ac.t7 1003 rfl) (ac.t7 1004 rfl))),rfl,rfl,aE,rfl⟩
def aic (l:aE3):List aD2:=vF (eP l)
def L0:(prog.info? 4).map (·.size)=some 1:=by kernel_rfl
def L1:(prog.info? 85).map (·.size)=some 1:=by kernel_rfl
def aid {I:Nat->Prop} {w:aD8} {b:Bool} {aF:aE7} (h:gA I w (.bool b) aF):aF.cells=List.toArray [aF]/\aF.oneCell'=true:=by have h:aF= .bool b:=h;subst h;exact⟨rfl,rfl⟩
def aie {I:Nat->Prop} {w:aD8} {b:Bool} {aF:aE7} (h:gA I w (.lit b) aF):aF.cells=List.toArray [aF]/\aF.oneCell'=true:=by have h:aF= .bool b:=h;subst h;exact⟨rfl,rfl⟩
def aif {l:aE3} (h:e' l) {e:bq} (U:e∈l) (on:Bool):Fn prog 205 [di e.ad,ap 3001] (eV l++[(3001,.cells [.d (.bool on)])]) [] gU (eV (m' l e.ad fun x=>{x with on:=on})++[(3001,.cells [.d (.bool on)])]):=by obtain⟨pW,hq,hr⟩:=k8 L0;have cx:=h.D U;have oD:=S9 (l:=l) (a:=e.ad) (u:=fun x=>{x with on:=on}) (fun _=>rfl) (fun _=>rfl);have rT:=Ta h U (u:=fun x=>{x with on:=on}) rfl;have vI:=aia (l:=l) (a:=e.ad) (u:=fun x=>{x with on:=on}) (fun _=>⟨rfl,rfl,rfl,rfl⟩);refine aU [] func205 ?_;refine bo (kr (b:=e.ad) rfl rfl) ?_;refine bo (fun N=>kO rfl underlying212 rfl rfl hq aB3 rfl N) ?_;refine bo (fun N=>EW (q:=1003) (b:=e.ad) (j:=1) (y:=.bool on) (l:=Gh e.nm e.on e.us e.eF) (h':=fun _=>rfl) rfl hq hr rfl rfl rfl cx (show 1 < 4 by decide) aid N) ?_;exact rL bu rfl trivial ⟨rfl,ap1 (fun e=>some (ba.map .str .aM e)) oD.symm,ap1 (fun e=>some (ba.aA (.bD e))) rT,ap1 (fun e=>some (ba.aA (.bD e))) vI.symm,rfl,trivial⟩ rfl
def nS (x:bq):bq:={x with us:=true,es:=CU x.s x.g x.es}
def aig {l:aE3} (h:e' l) {e:bq} (U:e∈l):Fn prog 201 [di e.ad] (eV l) [] gU (eV (m' l e.ad nS)):=by obtain⟨pW,hq,hr⟩:=k8 L0;obtain⟨Tc,Ad,Ae⟩:=k8 L1;obtain⟨co,cZ,ei,eI⟩:=h.ok e U;have cx:=h.D U;have ah:=h.M U;have oD:=S9 (l:=l) (a:=e.ad) (u:=nS) (fun _=>rfl) (fun _=>rfl);have rT:=Ta h U (u:=nS) rfl;have vI:=Tb h U (u:=nS) rfl;have ax:=LZ (Lz e.s e.g e.es) ah rfl rfl rfl rfl;rw[zb ah] at ax;have J:=LZ (ahU e.s e.g e.es co cZ) ah rfl rfl rfl rfl;refine aU [] func201 ?_;refine bo (kr (b:=e.ad) rfl rfl) ?_;refine bo (fun N=>kO rfl underlying212 rfl rfl Ad (by rw[Ae];decide) rfl N) ?_;refine bo (ml (q:=1003) rfl underlying85 rfl rfl rfl cx rfl) ?_;refine bo (kr (b:=e.ad) rfl rfl) ?_;refine bo (fun N=>kO rfl underlying212 rfl rfl Ad (by rw[Ae];decide) rfl N) ?_;refine bo (ml (q:=1003) rfl underlying85 rfl rfl rfl cx rfl) ?_;refine az ax <| az J ⟨eJ aA0,bo (kr (b:=e.ad) rfl rfl) ?_⟩;refine bo (fun N=>kO rfl underlying212 rfl rfl hq aB3 rfl N) ?_;refine bo (fun N=>EW (q:=1003) (b:=e.ad) (j:=2) (y:=.lit true) (l:=Gh e.nm e.on e.us e.eF) (h':=fun _=>rfl) rfl hq hr rfl rfl rfl cx (show 2 < 4 by decide) aie N) ?_;exact rL bu rfl trivial ⟨rfl,ap1 (fun e=>some (ba.map .str .aM e)) oD.symm,ap1 (fun e=>some (ba.aA (.bD e))) rT,ap1 (fun e=>some (ba.aA (.bD e))) vI,trivial⟩ rfl
end
section
section
variable {P:aD9} {ids:aD3} {K:aW} {B:av}
def aih {o:Oper} {T:aE4} {x:aE0} {q b:Nat} {L:List (Nat×bc)} {l:List bw} {h: ∀c,(ba.cells l).has c=false} {d:aF3} {i:aF2} (ai:o.op= .load T x) (b4:P.underlying T=some d) (fN:d.isRow=true) (aG:P.info? T=some i) (aO:i.size=l.length) (hx:a1 K x= .c (.one (.d (.aM (some b)))))
  (aY:ae B q=some (.aA (.bD L))) (cP:eN L b=some (bc.ch (.cells l) h)) (N:Nat):bC P N ids o K B (.c (.agg l)) ⟨[q],[],[]⟩:=by
 have aD:x∈o.op.operands:=aA4
 refine bC.val fun K' B' g1 g2 C ρ F a w ah ar=>?_
 have bk:fz (bX C B' F w) w L (F q):=ah.holds q _ ((g2 q az9).trans aY);have ay:a.eval x= .pointer (some ⟨b,0,none⟩):=ar.ev ((g1 x aD).trans hx);obtain⟨cF,cN,p,co,cZ,ei,eI,t1⟩:=bk.out cP;obtain⟨E,aB,eL,G,ag⟩:=eI;rw[ei] at G
 refine⟨.agg (List.toArray aB),D2 (cs:=aB) ai ay b4 fN aG (by rw[cb.length _ _ ag];exact aO) (fun j v V=>by rw[at5];exact od G V),aB,rfl,cb.mono (cj.refl _ _) _ _ (fun c J=>by
  have au:l3 c l=false:=h c;rw[au] at J
  cases J) ag⟩
end
abbrev ie (c d:Nat) (s g:Int) (es:aD4):av:=[(c,.cells [.d (.int .i64 s),.d (.int .i64 g),.mp d]),(d,.map aj aj es)]
def aii (s g:Int) (es:aD4):Fn prog 133 [ap 3001] (ie 3001 3002 s g es) [1001] (ap 1001) (ie 3001 3002 s g es++[(1001,.aA (e9 s g es))]):=by refine aU [] func133 ?_;exact az (Fn.a7 [(1001,3002),(2001,1002)] (S4 es)) ⟨rfl,eJ aA0,_,_,_,ac.trans (ac.a7 17 1001 rfl) (ac.close 1001 (iR s g es) aE rfl fun _ _ _ _ h=>h),rfl,rfl,aE,rfl⟩
def aij {s g:Int} {es:aD4} {M:List (Nat×bc)} {b:Nat} (ah:eN M b=some (e9 s g es)):Fn prog 133 [di b] [(1004,.aA (.bD M))] [5001,5002] (ap 5001) [(1004,.aA (.bD M)),(5001,.cells [.d (.int .i64 s),.d (.int .i64 g),.mp 5002]),(5002,.map aj aj es)]:=by have au:=Fn.a7 [(2001,5001),(2002,5002)] (ah0 s g es);have J:Fn prog 133 [ap 1001] [(1001,.aA (e9 s g es))] [5001,5002] (ap 5001) ((1001,.aA (e9 s g es))::ie 5001 5002 s g es):=Fn.close (bp:=iR s g es) (dD:=iR s g es) (aJ:=[]) (aP:=ie 5001 5002 s g es) [1002] au (fun _ _ _ _ h=>h) (fun _ _ _ _ h=>h) rfl rfl;have:=(cz.bD (c:=1001) (q:=1004) (b:=b) (args:=[]) (aJ:=[]) (bb:=[5001,5002]) (X:=Unit) (res:=fun _=>ap 5001) (aP:=fun _=>ie 5001 5002 s g es) (o:=e9 s g es) (o':=fun _=>e9 s g es) (L:=M) J.x ah rfl ⟨rfl,rfl⟩ rfl (fun _=>rfl)).fn;rw[zb ah] at this;exact this
end
section
abbrev Af (b:Nat):aa .aM:=(some b:aE2)
section
variable {P:aD9} {ids:aD3} {K:aW} {B:av}
end
end
section
def xX (nT:Nat->bc) (mb:bc):bc where
 bn:=fun I F w p=> ∃(cF cN:Nat->Prop) (q:bm),(∀x,F x↔cF x\/cN x)/\(∀x,cF x-> ¬cN x)/\(nT q.bh).bn I cF w p/\mb.bn I cN w q
 cg:=fun I F w I' w' p ⟨cF,cN,q,E,G,ag,aS⟩ U bj aO=>⟨cF,cN,q,E,G,(nT q.bh).cg _ _ _ _ _ _ ag U (fun b O=>bj b ((E b).2 (.inl O))) aO,mb.cg _ _ _ _ _ _ aS U (fun b O=>bj b ((E b).2 (.inr O))) aO⟩
def Td (aI:bz) (es:List (aa aI×aa .aM)) (key:aa aI) (o:bc) (I F:Nat->Prop) (w:aD8) (p:bm):Prop:=
 ∃(cd:Nat->Prop) (q:bm),(∀x,F x↔x=p.bh\/cd x)/\ ¬cd p.bh/\(∃bP bU,w.heap[p.bh]? =some (.map (List.toArray bP) bU)/\h4 I w aI .aM (dw (aI:=aI) (aK:=.aM) es key (Af q.bh)) bP/\lB bP bU)/\o.bn I cd w q
def Gj (aI:bz) (es:List (aa aI×aa .aM)) (key:aa aI) (o:bc):bc where
 bn:=Td aI es key o
 cg:=fun I F w I' w' p ⟨cd,q,E,G,⟨bP,bU,aS,bG,eH⟩,jF⟩ U bj aO=>⟨cd,q,E,G,⟨bP,bU,(bj _ ((E _).2 (.inl rfl))).trans aS,bG.mono U,eH⟩,o.cg _ _ _ _ _ _ jF U (fun b O=>bj b ((E b).2 (.inr O))) aO⟩
section
variable {P:aD9} {ids:aD3} {K:aW} {B:av}
def ac.aik (c:Nat) {ch:ba} (h: ∀c,ch.has c=false) (J:ae B c=some ch):ac ids K B K ((c,.aA (bc.ch ch h))::B):=by
 rintro N C a w ⟨hn,H,ρ,F,ah,ar⟩;obtain⟨bK,a2⟩:=ah.hz (w':=w) (ch:=.aA (bc.ch ch h)) J (cR.refl _ _) fun I aZ=>bc.P4 h (Holds.cg (ρ':=ρ) aZ (fun _ _=>rfl) (ao9 _) ch (fun _ _=>rfl) (ah.holds c _ J))
 exact⟨hn,H,ρ,F,bK,ar.mono a2 fun _ _ _=>rfl⟩
def ail {o:Oper} {T kt et:aE4} {x i v:aE0} {c d e:Nat} (ai:o.op= .mapUpdate T x i v) (b4:P.underlying T=some (.map kt et)) {dk:aF3} (k4:P.underlying kt=some dk) {aI:bz} (H:mG aI dk=true)
  (hx:a1 K x= .c (.one (.mp c))) {key:aa aI} (Z:wG aI (a1 K i)=some key) (ay:a1 K v= .c (.one (.ptr d 0))) {es:List (aa aI×aa .aM)} {bf: ∀c,(ba.map aI .aM es).has c=false} {l:List bw} {nT:Nat->bc} {mb:bc}
  (J:ae B c=some (.aA (bc.ch (.map aI .aM es) bf))) (kL:ae B d=some (.cells l)) (gw:ae B e=some (.aA mb)) (a6:c≠d) (Te:c≠e) (aim:d≠e)
  (L2: ∀(ρ:Nat->bm) (I F:Nat->Prop) (w:aD8) (p:bm),Holds ρ I F w p (.cells l)->(nT (ρ e).bh).bn I F w p) (N:Nat):bC P N ids o K B .undef ⟨[c,d,e],[],[(d,none),(e,none),(c,some (.aA (Gj aI es key (xX nT mb))))]⟩:=by
 have m1:x∈o.op.operands:=aA4
 have m2:i∈o.op.operands:=aA4
 have m3:v∈o.op.operands:=aA4
 rintro K' B' g1 g2 - C a w ⟨hn,lK,ρ,F,ah,ar⟩ br fF Q cT;have c0:=(g2 c az9).trans J;have c1:=(g2 d az9).trans kL;have hk:=(g2 e az9).trans gw;obtain⟨mc,bP,bU,aS,bG,eH⟩:Holds (fun _=>ρ c) (bX C B' F w) (F c) w (ρ c) (.map aI .aM es):=ah.holds c _ c0;have ain:=ah.holds d _ c1;have aio:mb.bn (bX C B' F w) (F e) w (ρ e):=ah.holds e _ hk;have aip: ∀y,F d y-> ¬F e y:=fun y aC d2=>ah.e0 d e _ _ y c1 hk aim aC d2
 have aq:(xX nT mb).bn (bX C B' F w) (fun y=>F d y\/F e y) w (ρ d):=⟨F d,F e,ρ e,fun x=>Iff.rfl,aip,L2 ρ _ _ _ _ ain,aio⟩;have af:=ar.mp ((g1 x m1).trans hx);have al:a.eval i=gI aI key:=Bd Z (ar.ev (g1 i m2));have bt:a.eval v= .pointer (some ⟨(ρ d).bh,0,none⟩):=ar.ev ((g1 v m3).trans ay)
 have c3:jn (bX C B' F w) w .aM (Af (ρ d).bh) (a.eval v):=by
  rw[bt];exact⟨rfl,⟨fun _=>rfl,fun h=>by cases h⟩,rfl⟩
 obtain⟨eK,jE,aw,gj,pC⟩:=AW (P:=P) b4 k4 H aS bG eH key c3;have ew: ∀y,(F d y\/F e y)-> ¬F c y:=fun y aC d2=>aC.elim (fun aC=>ah.e0 d c _ _ y c1 c0 (au7 a6) aC d2) (fun aC=>ah.e0 e c _ _ y hk c0 (au7 Te) aC d2)
 have qE:=(ax2.1 aS).1;have ua: ∀y,y≠(ρ c).bh->({w with heap:=w.heap.setIfInBounds (ρ c).bh (.map (List.toArray eK) jE)}:World).heap[y]? =w.heap[y]? :=fun y aC=>av6 (au7 aC)
 unfold Oper.wp;have hx:(execOp a.eval o).run P w= .ok .skip {w with heap:=w.heap.setIfInBounds (ρ c).bh (.map (List.toArray eK) jE)}:=by simp only[execOp,ai,as8,af,al,aw,ar0,at8]
 rw[hx,Oper.upon_skip]
 obtain⟨bK,a2⟩:=ah.step (B':=(c,.aA (Gj aI es key (xX nT mb)))::gJ (gJ B' d) e) (ρ':=ρ) (F':=dm F c (fun y=>F c y\/(F d y\/F e y))) (w':={w with heap:=w.heap.setIfInBounds (ρ c).bh (.map (List.toArray eK) jE)}) (fun j=>j=d\/j=e\/j=c) (fun _=>False)
  ((tL (S:=F c) ((mc _).2 rfl)).mono fun y _ aC=>⟨c,_,c0,.inr (.inr rfl),aC⟩)
  (fun j ch V aD=>by
   rw[cn,mu (fun e=>aD (.inr (.inr e.symm))),hg,mu (fun e=>aD (.inr (.inl e.symm))),hg,mu (fun e=>aD (.inl e.symm))] at V;exact V)
  (fun _ _=>rfl) (fun j aD=>dt _ _ (fun e=>aD (.inr (.inr e)))) (fun _ _ h=>h) (fun _ h=>h.elim) (fun _ _ _ _ _ _ h=>h)
  (fun j ch V aD a2=>by
   rw[cn] at V
   split at V
   .rename_i e;subst e;injection V with V
    subst V;rw[dr];have wP: ∀y,(F d y\/F e y)->y≠(ρ c).bh:=fun y aC e=>ew y aC (e▸(mc _).2 rfl)
    refine⟨fun y=>F d y\/F e y,ρ d,fun y=>?_,fun h=>wP _ h rfl,⟨eK,jE,by simp[qE],gj.mono a2,pC⟩,(xX nT mb).cg _ _ _ _ _ _ aq a2 (fun y aC=>ua y (wP y aC)) az9⟩;show(F c y\/(F d y\/F e y))↔(y=(ρ c).bh\/(F d y\/F e y));rw[mc]
   .rename_i bI;rcases aD with rfl |rfl |rfl
    .rw[hg] at V
     split at V
     .cases V
     .rw[hg,vj rfl] at V;cases V
    .rw[hg,vj rfl] at V;cases V
    .exact ap0 rfl bI)
  (fun j ch V aD y aC=>by
   rw[cn] at V
   split at V
   .rename_i bI;subst bI;rw[dr] at aC;rcases aC with aC |aC |aC
    .exact⟨by simpa using(ah.own c _ c0 y aC).1,.inl ⟨c,_,c0,.inr (.inr rfl),aC⟩⟩
    .exact⟨by simpa using(ah.own d _ c1 y aC).1,.inl ⟨d,_,c1,.inl rfl,aC⟩⟩
    .exact⟨by simpa using(ah.own e _ hk y aC).1,.inl ⟨e,_,hk,.inr (.inl rfl),aC⟩⟩
   .rename_i bI;rcases aD with rfl |rfl |rfl
    .rw[hg] at V
     split at V
     .cases V
     .rw[hg,vj rfl] at V;cases V
    .rw[hg,vj rfl] at V;cases V
    .exact ap0 rfl bI)
  (fun j qB ch ch' y V kk aD gj aiq=>by
   have key: ∀j ch,ae ((c,ba.aA (Gj aI es key (xX nT mb)))::gJ (gJ B' d) e) j=some ch->(j=d\/j=e\/j=c)->j=c:=fun j ch V aD=>by
    rcases aD with rfl |rfl |rfl
    .rw[cn,mu a6,hg] at V
     split at V
     .cases V
     .rw[hg,vj rfl] at V;cases V
    .rw[cn,mu Te,hg,vj rfl] at V;cases V
    .rfl
   exact ap0 ((key j ch V aD).trans (key qB ch' kk gj).symm) aiq)
 exact cT _ _ ⟨kf.trans hn,kg.trans lK,ρ,_,bK,(ar.mono a2 fun _ _ _=>rfl).kh (fun e U=>by rw[hn];exact br e U) rfl⟩
def du.air (c d:Nat) {aI:bz} {es:List (aa aI×aa .aM)} {key:aa aI} {o:bc} (J:ae B c=some (.aA (Gj aI es key o))) (H:gS ids K B d=true):du ids K B (X:=Nat) (fun _=>K) (fun ad=>(d,.aA (o.at ad))::(c,.map aI .aM (dw (aI:=aI) (aK:=.aM) es key (Af ad)))::B):=by
 rintro N C a w ⟨hn,lK,ρ,F,ah,ar⟩;obtain⟨cd,q,E,G,⟨bP,bU,aS,bG,eH⟩,jF⟩:Td aI es key o (bX C B F w) (F c) w (ρ c):=ah.holds c _ J;obtain⟨g3,io,f3,l8⟩:=kK H
 obtain⟨bK,a2⟩:=ah.split (K:=K) (iJ:=.map aI .aM (dw (aI:=aI) (aK:=.aM) es key (Af q.bh))) (oc:=.aA (o.at q.bh)) J H q (fun x=>x=(ρ c).bh) cd (fun b O=>(E b).2 (.inl O)) (fun b O=>(E b).2 (.inr O)) (fun b O lf=>G (O▸lf))
  (fun I aZ=>⟨fun b=>Iff.rfl,bP,bU,aS,bG.mono aZ,eH⟩) (fun I aZ=>by
   refine⟨rfl,?_⟩;exact o.cg _ _ _ _ _ _ jF aZ (fun _ _=>rfl) (ao9 _))
 exact⟨q.bh,hn,lK,_,_,bK,ar.mono a2 fun s j V=>dt _ _ (fun ca=>by subst ca;rw[g3 s] at V;cases V)⟩
def du.ais (d e:Nat) {nT:Nat->bc} {mb:bc} {ad:Nat} (J:ae B d=some (.aA ((xX nT mb).at ad))) (U:gS ids K B e=true):du ids K B (X:=Nat) (fun _=>K) (fun eF=>(e,.aA (mb.at eF))::(d,.aA ((nT eF).at ad))::B):=by
 rintro N C a w ⟨hn,lK,ρ,F,ah,ar⟩;obtain⟨O,cF,cN,q,E,G,ag,aS⟩:((xX nT mb).at ad).bn (bX C B F w) (F d) w (ρ d):=ah.holds d _ J;obtain⟨g3,io,f3,l8⟩:=kK U
 obtain⟨bK,a2⟩:=ah.split (K:=K) (iJ:=.aA ((nT q.bh).at ad)) (oc:=.aA (mb.at q.bh)) J U q cF cN (fun b O=>(E b).2 (.inl O)) (fun b O=>(E b).2 (.inr O)) G
  (fun I aZ=>⟨O,(nT q.bh).cg _ _ _ _ _ _ ag aZ (fun _ _=>rfl) (ao9 _)⟩) (fun I aZ=>⟨rfl,mb.cg _ _ _ _ _ _ aS aZ (fun _ _=>rfl) (ao9 _)⟩)
 exact⟨q.bh,hn,lK,_,_,bK,ar.mono a2 fun s j V=>dt _ _ (fun ca=>by subst ca;rw[g3 s] at V;cases V)⟩
end
def Tf {nm:aD2} {on us:Bool} {eF:Nat}:(xV nm on us eF).ot:=fun I F w p h=>(h.1 _).2 rfl
def Tg {s g:Int} {es:aD4}:(e9 s g es).ot:=by rintro I F w p ⟨ρ,cd,E,G,ag,aS⟩;obtain⟨bj,_⟩:=G 1001 _ rfl;exact(aS _).2 ⟨1001,_,rfl,(bj _).2 (by rw[E])⟩
def ait (l:aE3): ∀p∈m9 l,p.2.ot:=fun p ao=>by
 obtain⟨d,_,rfl⟩:=ar6.1 ao;exact Tf
def aiu (l:aE3): ∀p∈kR l,p.2.ot:=fun p ao=>by
 obtain⟨d,_,rfl⟩:=ar6.1 ao;exact Tg
def Th (nm:aD2) (x:aa .aM): ∀L:List bq,dy L nm=none->dw (aI:=.str) (aK:=.aM) (eP L) (nm:aa .str) x=(eP L++[zK nm x]:List (aa .str×aa .aM))
 | [],_=>rfl
 |d::L,h=>by
  rw[vV] at h
  by_cases e:d.nm=nm
  .rw[vj e] at h;cases h
  .rw[mu e] at h;have bl:=Th nm x L h;show dw (aI:=.str) (aK:=.aM) (jy d::eP L) (nm:aa .str) x=_;rw[show dw (aI:=.str) (aK:=.aM) (jy d::eP L) (nm:aa .str) x=(match fD .str (nm:aa .str) (jy d).1 with |true=>zK nm x::eP L |false=>jy d::dw (aI:=.str) (aK:=.aM) (eP L) (nm:aa .str) x:List (aa .str×aa .aM)) from rfl];rw[show fD .str (nm:aa .str) (jy d).1=false from qF (aI:=.str) pL (fun h=>e h.symm)];simp only;rw[bl];rfl
def Ti {l:aE3} {nm:aD2} (h:dy l nm=none):nm∉l.map (·.nm):=fun hx=>by
 obtain⟨d,H,e⟩:=ar6.1 hx;have:=List.find?_eq_none.1 h d H;exact this (by simpa using e)
def e'.add {l:aE3} (h:e' l) {e:bq} (au:dy l e.nm=none) (ha:e.ad∉l.map (·.ad)) (O:e.eF∉l.map (·.eF)) (bv:(0<=e.s/\e.s<=4096)/\(1<=e.g/\e.g<=64)/\e5 e.es/\e.nm.length<=64) (ak:l.length < 8):e' (l++[e]):=by
 have key: ∀{α:Type} (f:bq->α) (d:bq),(l.map f).Nodup->f d∉l.map f->((l++[d]).map f).Nodup:=fun f d E G=>by
  rw[au2];refine List.nodup_append.2 ⟨E,az9,fun a ha b O e=>?_⟩;rw[aq5,ay9,aq6] at O;exact G (by rw[<-O,<-e];exact ha)
 refine⟨key _ _ h.gE (Ti au),key _ _ h.mY ha,key _ _ h.vW O,fun x hx=>?_,by rw[ap3];show l.length+1<=8;omega⟩;rcases ar7.1 hx with hx |hx
 .exact h.ok x hx
 .rw[aq6.1 hx];exact bv
def Tj {f:bq->Nat×bc} (L:aE3) (d:bq):(f d::L.map f).Perm ((L++[d]).map f):=by rw[au2];exact(List.perm_append_comm (l₁:=[f d]) (l₂:=L.map f))
abbrev Ag (l:aE3) (s g:Int) (es:aD4):av:=eV l++ie 2001 2002 s g es
def CV {l:aE3} {nm:aD2} (au:dy l nm=none):(bV (aI:=.str) (aK:=.aM) (eP l) nm).getD (cM .aM)=none:=by rw[Gi,au];rfl
def Gk {l:aE3} {nm:aD2} {e:bq} (au:dy l nm=some e):(bV (aI:=.str) (aK:=.aM) (eP l) nm).getD (cM .aM)=some e.ad:=by rw[Gi,au];rfl
def aiv {l:aE3} (h:e' l) (nm:aD2) (hn:nm.length<=4294967296) (aw:gN nm=true) (au:dy l nm=none) (iw:l.length < 8) (s g:Int) (es:aD4) (bv:(0<=s/\s<=4096)/\(1<=g/\g<=64)/\e5 es):
  cz prog 75 [ap 1001,bS nm,ap 2001] (Ag l s g es) [] (X:={p:Nat×Nat//e' (l++[⟨nm,p.1,p.2,true,true,s,g,es⟩])}) (fun _=>ab 0) (fun p=>Ag (l++[⟨nm,p.1.1,p.1.2,true,true,s,g,es⟩]) s g es):=by
 have hx:=CV au;have bZ:(eP l).length=l.length:=aq3 ..;refine hR [5,6] func75 ?_;refine az (pZ _ hn) ⟨fun af=>?_,fun af=>?_⟩
 .rw[aw] at af;cases af
 refine⟨fun eb bt=>?_,fun bt=>?_⟩
 .exfalso;have:(bV (aI:=.str) (aK:=.aM) (eP l) nm).getD (cM .aM)=some eb:=bt;rw[hx] at this
  cases this
 refine⟨fun c3=>?_,fun c3=>?_⟩
 .exfalso;have c3:(8:Int)<=((eP l).length:Int):=gd c3;omega
 refine bB.le (ac.aik 1002 (fun _=>rfl) rfl) <| bx [6] (bu) <| az (Fn.a7 [(1001,38),(3001,2001),(3002,2002)] (aii s g es)) ⟨rfl,bo (fun N=>ail (c:=1002) (d:=40) (e:=38) (aI:=.str) (key:=nm) (nT:=fun eF=>xV nm true true eF) rfl underlying196 (dk:=.string) aA0 rfl rfl rfl rfl rfl rfl rfl az8 az8 az8 (fun ρ I F w p bf=>?L2) N) ?_⟩
 case L2=>
  obtain⟨cE,aB,T,cG,mH,r1,af,kZ,v2,r2,al,bF,v3,fI,bt,tI,v4,jI,c3,Bb,gi⟩:=bf;exact⟨cE,aB,T,cG,mH,r1,af,kZ,v2,r2,al,bF,v3,fI,bt,tI,v4,jI,c3,Bb,gi⟩
 refine⟨eJ aA0,bB.fJ (du.air 1002 5001 rfl rfl) fun ad=>bB.fJ (du.ais 5001 5002 rfl rfl) fun eF=>bB.le (K':=[]) (B':=[(1001,.cells [.mp 1002]),(1002,.map .str .aM (dw (aI:=.str) (aK:=.aM) (eP l) nm (Af ad))),(1003,.aA (.bD ((ad,xV nm true true eF)::m9 l))),(1004,.aA (.bD ((eF,e9 s g es)::kR l))),(2001,.cells [.d (.int .i64 s),.d (.int .i64 g),.mp 2002]),(2002,.map aj aj es)]) (ac.trans (ac.put 1003 5001 az8 rfl rfl) (ac.trans (ac.put 1004 5002 az8 rfl rfl) (ac.sub trivial aE))) ?_⟩;refine bB.fJ (du.BO 1003 (L:=(ad,xV nm true true eF)::m9 l) (fun p ao=>(ap7.1 ao).elim (fun e=>by rw[e];exact Tf) (ait l p)) rfl) fun aiw=>?_
 refine bB.fJ (du.BO 1004 (L:=(eF,e9 s g es)::kR l) (fun p ao=>(ap7.1 ao).elim (fun e=>by rw[e];exact Tg) (aiu l p)) rfl) fun aix=>bx [] (bu) ?_
 have KG:ad∉l.map (·.ad):=fun aD=>(as2.1 aiw.down).1 (by show ad∈(m9 l).map (·.1);unfold m9;rw[at6];exact aD)
 have aiy:eF∉l.map (·.eF):=fun aD=>(as2.1 aix.down).1 (by show eF∈(kR l).map (·.1);unfold kR;rw[at6];exact aD)
 have vx:nm.length<=64:=by have:=(Cr aw).2;omega
 have oD:dw (aI:=.str) (aK:=.aM) (eP l) (nm:aa .str) (Af ad)=eP (l++[⟨nm,ad,eF,true,true,s,g,es⟩]):=(Th nm _ l au).trans (by unfold eP;rw[au2];rfl);exact⟨⟨(ad,eF),h.add (e:=⟨nm,ad,eF,true,true,s,g,es⟩) au KG aiy ⟨bv.1,bv.2.1,bv.2.2,vx⟩ iw⟩,_,_,_,ac.trans (ac.zJ 1003 (Tj (f:=vT) l ⟨nm,ad,eF,true,true,s,g,es⟩) rfl) (ac.zJ 1004 (Tj (f:=vU) l ⟨nm,ad,eF,true,true,s,g,es⟩) rfl),rfl,rfl,⟨rfl,ap1 (fun e=>some (ba.map .str .aM e)) oD,rfl,rfl,rfl,rfl,trivial⟩,rfl⟩
def aiz {l:aE3} (nm:aD2) (hn:nm.length<=4294967296) (aw:gN nm=false) (s g:Int) (es:aD4):
  Fn prog 75 [ap 1001,bS nm,ap 2001] (Ag l s g es) [] (ab 1) (Ag l s g es):=by
 refine aU [] func75 ?_;refine az (pZ _ hn) ⟨fun af=>?_,fun af=>?_⟩
 .exact bd
 .rw[aw] at af;cases af
def aiA {l:aE3} (nm:aD2) (hn:nm.length<=4294967296) (aw:gN nm=true) (au:(dy l nm).isSome=true\/8<=l.length) (s g:Int) (es:aD4):
  Fn prog 75 [ap 1001,bS nm,ap 2001] (Ag l s g es) [] (ab 111) (Ag l s g es):=by
 have bZ:(eP l).length=l.length:=aq3 ..;refine aU [5] func75 ?_;refine az (pZ _ hn) ⟨fun af=>?_,fun af=>?_⟩
 .rw[aw] at af;cases af
 refine⟨fun eb bt=>?_,fun bt=>?_⟩
 .exact bd
 refine⟨fun c3=>?_,fun c3=>?_⟩
 .exact bd
 .exfalso;have bt:(bV (aI:=.str) (aK:=.aM) (eP l) nm).getD (cM .aM)=none:=bt;have c3: ¬(8:Int)<=((eP l).length:Int):=oj c3;rcases au with au |au
  .rw[Gi] at bt
   cases E:dy l nm with
   |none=>rw[E] at au;cases au
   |some e=>rw[E] at bt;cases bt
  .omega
end
section
def aiB {l l':aE3} {nm:aD2} {e:bq} (U:dy l nm=some e) (J:Fn prog 204 [di e.ad,ap 3001,ap 3002] (eV l++[(3001,.cells [.ptr 1001 0]),(3002,.cells [.d (.str nm)])]) [] gU (eV l'++[(3001,.cells [.ptr 1001 0]),(3002,.cells [.d (.str nm)])])):
  Fn prog 196 [ap 1001,bS nm,.c (.one (.cW 204 [.p 3001 0,.p 3002 0]))] (eV l++[(3001,.cells [.ptr 1001 0]),(3002,.cells [.d (.str nm)])]) [] (ab 0) (eV l'++[(3001,.cells [.ptr 1001 0]),(3002,.cells [.d (.str nm)])]):=by
 have h':=Gk U;refine aU [] func196 ?_;exact⟨fun eb O=>az (Fn.arg (args:=[zF ((bV (aI:=.str) (aK:=.aM) (eP l) nm).getD (cM .aM)),ap 3001,ap 3002]) J ⟨h',rfl,rfl,trivial⟩) bd,fun O=>ap0 (show(bV (aI:=.str) (aK:=.aM) (eP l) nm).getD (cM .aM)=none from O) aB0⟩
def aiC {l:aE3} {nm:aD2} (U:dy l nm=none):
  Fn prog 196 [ap 1001,bS nm,.c (.one (.cW 204 [.p 3001 0,.p 3002 0]))] (eV l++[(3001,.cells [.ptr 1001 0]),(3002,.cells [.d (.str nm)])]) [] (ab 112) (eV l++[(3001,.cells [.ptr 1001 0]),(3002,.cells [.d (.str nm)])]):=by
 have h':=CV U;refine aU [] func196 ?_;exact⟨fun eb O=>ap0 (show(bV (aI:=.str) (aK:=.aM) (eP l) nm).getD (cM .aM)=some eb from O) aB0,fun _=>bd⟩
def aiD {l l':aE3} {nm:aD2} (on:Bool) {e:bq} (U:dy l nm=some e) (J:Fn prog 205 [di e.ad,ap 3001] (eV l++[(3001,.cells [.d (.bool on)])]) [] gU (eV l'++[(3001,.cells [.d (.bool on)])])):
  Fn prog 196 [ap 1001,bS nm,.c (.one (.cW 205 [.p 3001 0]))] (eV l++[(3001,.cells [.d (.bool on)])]) [] (ab 0) (eV l'++[(3001,.cells [.d (.bool on)])]):=by
 have h':=Gk U;refine aU [] func196 ?_;exact⟨fun eb O=>az (Fn.arg (args:=[zF ((bV (aI:=.str) (aK:=.aM) (eP l) nm).getD (cM .aM)),ap 3001]) J ⟨h',rfl,trivial⟩) bd,fun O=>ap0 (show(bV (aI:=.str) (aK:=.aM) (eP l) nm).getD (cM .aM)=none from O) aB0⟩
def aiE {l:aE3} {nm:aD2} (on:Bool) (U:dy l nm=none):
  Fn prog 196 [ap 1001,bS nm,.c (.one (.cW 205 [.p 3001 0]))] (eV l++[(3001,.cells [.d (.bool on)])]) [] (ab 112) (eV l++[(3001,.cells [.d (.bool on)])]):=by
 have h':=CV U;refine aU [] func196 ?_;exact⟨fun eb O=>ap0 (show(bV (aI:=.str) (aK:=.aM) (eP l) nm).getD (cM .aM)=some eb from O) aB0,fun _=>bd⟩
def aiF {l l':aE3} {nm:aD2} {e:bq} (U:dy l nm=some e) (J:Fn prog 201 [di e.ad] (eV l) [] gU (eV l')):
  Fn prog 196 [ap 1001,bS nm,.c (.one (.cW 201 []))] (eV l) [] (ab 0) (eV l'):=by
 have h':=Gk U;refine aU [] func196 ?_;exact⟨fun eb O=>az (Fn.arg (args:=[zF ((bV (aI:=.str) (aK:=.aM) (eP l) nm).getD (cM .aM))]) J ⟨h',trivial⟩) bd,fun O=>ap0 (show(bV (aI:=.str) (aK:=.aM) (eP l) nm).getD (cM .aM)=none from O) aB0⟩
def aiG {l:aE3} {nm:aD2} (U:dy l nm=none):
  Fn prog 196 [ap 1001,bS nm,.c (.one (.cW 201 []))] (eV l) [] (ab 112) (eV l):=by
 have h':=CV U;refine aU [] func196 ?_;exact⟨fun eb O=>ap0 (show(bV (aI:=.str) (aK:=.aM) (eP l) nm).getD (cM .aM)=some eb from O) aB0,fun _=>bd⟩
def aiH {l l':aE3} {nm:aD2} (on us:Bool) (s g:Int) (es:aD4) {e:bq} (U:dy l nm=some e) (J:Fn prog 197 [di e.ad,ap 3001] (eV l++[(3001,.cells [.d (.str []),.d (.lit false),.d (.lit false),.bH (.pointer none)])]) [5001,5002] gU (eV l'++[(3001,.cells [.d (.str nm),.d (.bool on),.d (.bool us),.ptr 5001 0]),(5001,.cells [.d (.int .i64 s),.d (.int .i64 g),.mp 5002]),(5002,.map aj aj es)])):
  Fn prog 196 [ap 1001,bS nm,.c (.one (.cW 197 [.p 3001 0]))] (eV l++[(3001,.cells [.d (.str []),.d (.lit false),.d (.lit false),.bH (.pointer none)])]) [5001,5002] (ab 0) (eV l'++[(3001,.cells [.d (.str nm),.d (.bool on),.d (.bool us),.ptr 5001 0]),(5001,.cells [.d (.int .i64 s),.d (.int .i64 g),.mp 5002]),(5002,.map aj aj es)]):=by
 have h':=Gk U;refine aU [] func196 ?_;exact⟨fun eb O=>az (Fn.arg (args:=[zF ((bV (aI:=.str) (aK:=.aM) (eP l) nm).getD (cM .aM)),ap 3001]) J ⟨h',rfl,trivial⟩) bd,fun O=>ap0 (show(bV (aI:=.str) (aK:=.aM) (eP l) nm).getD (cM .aM)=none from O) aB0⟩
def aiI {l:aE3} {nm:aD2} (U:dy l nm=none):
  Fn prog 196 [ap 1001,bS nm,.c (.one (.cW 197 [.p 3001 0]))] (eV l++[(3001,.cells [.d (.str []),.d (.lit false),.d (.lit false),.bH (.pointer none)])]) [] (ab 112) (eV l++[(3001,.cells [.d (.str []),.d (.lit false),.d (.lit false),.bH (.pointer none)])]):=by
 have h':=CV U;refine aU [] func196 ?_;exact⟨fun eb O=>ap0 (show(bV (aI:=.str) (aK:=.aM) (eP l) nm).getD (cM .aM)=some eb from O) aB0,fun _=>bd⟩
def lR (l:aE3) (nm:aD2) (u:bq->bq):List bq:=l.map fun x=>if x.nm=nm then u x else x
def L3 {l:aE3} (h:e' l) {nm:aD2} {e:bq} (U:dy l nm=some e) (u:bq->bq):m' l e.ad u=lR l nm u:=by
 obtain⟨E,G⟩:=lV U;unfold m' lR;refine ar9 fun x hx=>?_
 by_cases J:x.ad=e.ad
 .have:=xW h.mY hx E J;subst this;rw[vj J,vj G]
 .rw[mu J,mu fun al=>J (by rw[xW h.gE hx E (al.trans G.symm)])]
def Gl {l:aE3} {nm:aD2} (U:dy l nm=none) (u:bq->bq):lR l nm u=l:=by unfold lR;refine(ar9 fun x hx=>?_).trans (List.map_id' l);rw[mu fun e=>Ti U (by rw[<-e];exact ar8 hx)]
def e'.nil:e' []:=⟨List.Pairwise.nil,List.Pairwise.nil,List.Pairwise.nil,(fun e U=>by cases U),ap9 _⟩
def e'.Tk {l:aE3} (h:e' l) (u:bq->bq) (nm:aD2) (E: ∀e,(u e).nm=e.nm/\(u e).ad=e.ad/\(u e).eF=e.eF) (G: ∀e,(0<=e.s/\e.s<=4096)/\(1<=e.g/\e.g<=64)/\e5 e.es->(0<=(u e).s/\(u e).s<=4096)/\(1<=(u e).g/\(u e).g<=64)/\e5 (u e).es):e' (lR l nm u):=by
 cases U:dy l nm with
 |none=>rw[Gl U];exact h
 |some e=>
  rw[<-L3 h U];exact h.dm E fun x hx _=>G x ⟨(h.ok x hx).1,(h.ok x hx).2.1,(h.ok x hx).2.2.1⟩
def xY (l:aE3) (nm:aD2):Int:=if(dy l nm).isSome=true then 0 else 112
def Gm {l:aE3} {nm:aD2} {e:bq} (U:dy l nm=some e):xY l nm=0:=by unfold xY;rw[U];rfl
def Gn {l:aE3} {nm:aD2} (U:dy l nm=none):xY l nm=112:=by unfold xY;rw[U];rfl
def aiJ {l:aE3} (h:e' l) (nm:aD2) (on:Bool):Fn prog 147 [ap 1001,bS nm,gT on] (eV l) [] (ab (xY l nm)) (eV (lR l nm fun x=>{x with on:=on})):=by
 cases U:dy l nm with
 |none=>
  have J:=aiE on U;rw[Gn U,Gl U];refine aU [] func147 ?_;exact⟨rfl,az (Fn.a7 [(3001,5)] J) bd⟩
 |some e=>
  have J:=aiD on U (aif h (lV U).1 on);rw[Gm U,<-L3 h U];refine aU [] func147 ?_;exact⟨rfl,az (Fn.a7 [(3001,5)] J) bd⟩
def aiK {l:aE3} (h:e' l) (nm:aD2):Fn prog 144 [ap 1001,bS nm] (eV l) [] (ab (xY l nm)) (eV (lR l nm nS)):=by
 cases U:dy l nm with
 |none=>
  have J:=aiG U;rw[Gn U,Gl U];refine aU [] func144 ?_;exact az J bd
 |some e=>
  have J:=aiF U (aig h (lV U).1);rw[Gm U,<-L3 h U];refine aU [] func144 ?_;exact az J bd
def kS:List bq->aD2->List bq
 | [],_=>[]
 |d::L,nm=>if d.nm=nm then L else d::kS L nm
def Ah (L:aE3) (nm:aD2):(kS L nm).Sublist L:=by
 induction L with
 |nil=>exact .slnil
 |cons e L bl=>
  unfold kS
  split
  .exact List.sublist_cons_self ..
  .exact bl.cons_cons _
def Tl {nm:aD2}: ∀{L:aE3},dy L nm=none->kS L nm=L
 | [],_=>rfl
 |d::L,h=>by
  rw[vV] at h;unfold kS
  by_cases e:d.nm=nm
  .rw[vj e] at h;cases h
  .rw[mu e] at h;rw[mu e,Tl h]
def Tm (nm:aD2): ∀L:List bq,gB (aI:=.str) (aK:=.aM) (eP L) nm=eP (kS L nm)
 | []=>rfl
 |d::L=>by
  have bl:=Tm nm L;show gB (aI:=.str) (aK:=.aM) (jy d::eP L) nm=_;rw[show gB (aI:=.str) (aK:=.aM) (jy d::eP L) nm=match fD .str (nm:aa .str) (jy d).1 with |true=>eP L |false=>jy d::gB (aI:=.str) (aK:=.aM) (eP L) nm from rfl];unfold kS
  by_cases e:d.nm=nm
  .rw[show fD .str (nm:aa .str) (jy d).1=true from(pL _ _).2 e.symm,vj e]
  .rw[show fD .str (nm:aa .str) (jy d).1=false from qF (aI:=.str) pL (fun h=>e h.symm),mu e];simp only;rw[bl];rfl
def L4 {f:bq->Nat×bc}: ∀{L:aE3},(L.map fun d=>(f d).1).Nodup-> ∀{nm:aD2} {bN:bq},dy L nm=some bN->j3 (L.map f) (f bN).1=(kS L nm).map f
 | [],_,nm,bN,h=>by cases h
 |d::L,hn,nm,bN,h=>by
  rw[aq5] at hn;obtain⟨c4,ec⟩:=as2.1 hn;rw[vV] at h;rw[aq5];unfold j3 kS
  by_cases e:d.nm=nm
  .rw[vj e] at h;injection h with h
   subst h;rw[vj rfl,vj e]
  .rw[mu e] at h;have a6: ¬(f d).1=(f bN).1:=fun al=>c4 (by rw[al];exact ar8 (f:=fun d=>(f d).1) (lV h).1)
   rw[mu a6,mu e,aq5,L4 ec h]
def e'.mO {l:aE3} (h:e' l) (nm:aD2):e' (kS l nm):=
 ⟨h.gE.sublist ((Ah l nm).map _),h.mY.sublist ((Ah l nm).map _),h.vW.sublist ((Ah l nm).map _),fun e U=>h.ok e ((Ah l nm).subset U),av9 (Ah l nm).length_le h.len⟩
def aiL {l:aE3} (h:e' l) {nm:aD2} {e:bq} (U:dy l nm=some e):Fn prog 204 [di e.ad,ap 3001,ap 3002] (eV l++[(3001,.cells [.ptr 1001 0]),(3002,.cells [.d (.str nm)])]) [] gU (eV (kS l nm)++[(3001,.cells [.ptr 1001 0]),(3002,.cells [.d (.str nm)])]):=by have cx:=h.D (lV U).1;have ah:=h.M (lV U).1;have oD:=Tm nm l;have rT:j3 (m9 l) e.ad=m9 (kS l nm):=L4 (f:=vT) h.mY U;have vI:j3 (kR l) e.eF=kR (kS l nm):=L4 (f:=vU) h.vW U;refine aU [] func204 ?_;exact⟨eJ aA0,_,_,_,(ac.BZ 1003 6001 e.ad rfl cx rfl).trans (ac.BZ 1004 6002 e.eF rfl ah rfl),rfl,trivial,⟨rfl,ap1 (fun e=>some (ba.map .str .aM e)) oD,ap1 (fun e=>some (ba.aA (.bD e))) rT,ap1 (fun e=>some (ba.aA (.bD e))) vI,rfl,rfl,trivial⟩,rfl⟩
def aiM {l:aE3} (h:e' l) (nm:aD2):Fn prog 146 [ap 1001,bS nm] (eV l) [] (ab (xY l nm)) (eV (kS l nm)):=by
 cases U:dy l nm with
 |none=>
  have J:=aiC U;rw[Gn U,Tl U];refine aU [] func146 ?_;exact⟨rfl,rfl,az (Fn.a7 [(3001,2),(3002,3)] J) bd⟩
 |some e=>
  have J:=aiB U (aiL h U);rw[Gm U];refine aU [] func146 ?_;exact⟨rfl,rfl,az (Fn.a7 [(3001,2),(3002,3)] J) bd⟩
def aiN:(prog.info? 212).map (·.size)=some 4:=by kernel_rfl
abbrev jo (nm:aD2) (on us:Bool):List bw:=[.d (.str nm),.d (.bool on),.d (.bool us),.ptr 5001 0]
def aiO {l:aE3} (h:e' l) {e:bq} (U:e∈l):Fn prog 197 [di e.ad,ap 3001] (eV l++[(3001,.cells [.d (.str []),.d (.lit false),.d (.lit false),.bH (.pointer none)])]) [5001,5002] gU (eV l++[(3001,.cells (jo e.nm e.on e.us)),(5001,.cells [.d (.int .i64 e.s),.d (.int .i64 e.g),.mp 5002]),(5002,.map aj aj e.es)]):=by obtain⟨Tc,Ad,Ae⟩:=k8 L1;obtain⟨E',aiP,aiQ⟩:=k8 aiN;have cx:=h.D U;have ah:=h.M U;have J:=aij ah;refine aU [] func197 ?_;refine bo (kr (b:=e.ad) rfl rfl) ?_;refine bo (aih (q:=1003) (l:=Gh e.nm e.on e.us e.eF) rfl underlying212 rfl aiP aiQ rfl rfl cx) ?_;refine bo (kr (b:=e.ad) rfl rfl) ?_;refine bo (fun N=>kO rfl underlying212 rfl rfl Ad (by rw[Ae];decide) rfl N) ?_;refine bo (ml (q:=1003) rfl underlying85 rfl rfl rfl cx rfl) ?_;exact az J bd
def aiR {l:aE3} (h:e' l) {nm:aD2} {e:bq} (U:dy l nm=some e):Fn prog 139 [ap 1001,bS nm] (eV l) [5001,5002] (.cm [.agg (jo e.nm e.on e.us),dJ 0]) (eV l++[(5001,.cells [.d (.int .i64 e.s),.d (.int .i64 e.g),.mp 5002]),(5002,.map aj aj e.es)]):=by have aV:=aiO h (lV U).1;rw[(lV U).2] at aV;have J:=aiH e.on e.us e.s e.g e.es U aV;rw[(lV U).2];refine aU [] func139 ?_;exact⟨rfl,rfl,az (Fn.a7 [(3001,6)] J) <| er bu rfl ⟨aE,rfl,trivial⟩⟩
def aiS {l:aE3} {nm:aD2} (U:dy l nm=none):Fn prog 139 [ap 1001,bS nm] (eV l) [] (.cm [.agg [.d (.str []),.d (.lit false),.d (.lit false),.bH (.pointer none)],dJ 112]) (eV l):=by have J:=aiI U;refine aU [] func139 ?_;exact⟨rfl,rfl,az (Fn.a7 [(3001,6)] J) <| er bu rfl ⟨aE,rfl,trivial⟩⟩
end
section
abbrev nU:bz:=.bT (.int .i64) (.ce .u8)
abbrev r3:bz:=.bT .str (.bT .str (.bT (.int .i64) (.bT (.int .i64) (.ce nU))))
abbrev j8:Type:=aa nU
abbrev b9:Type:=aa r3
abbrev aE6:=List b9
abbrev gb (p:j8):Int:=p.1
abbrev lW (p:j8):aD2:=p.2
abbrev eo (b:b9):aD2:=b.1
abbrev dn (b:b9):aD2:=b.2.1
abbrev c2 (b:b9):Int:=b.2.2.1
abbrev ep (b:b9):Int:=b.2.2.2.1
abbrev cB (b:b9):List j8:=b.2.2.2.2
abbrev Gp (b:b9):List bw:=[.d (.str (eo b)),.d (.str (dn b)),.d (.int .i64 (c2 b)),.d (.int .i64 (ep b)),.d (.cr nU (cB b))]
abbrev CW (b:b9):aN:=.c (.agg (Gp b))
abbrev kT (L:aE6):av:=[(1001,.cells [.own 1002]),(1002,.row 84 r3 L)]
def aiT (b:b9) (nm:aD2):Fn prog 116 [CW b,ap 1001] [(1001,.cells [.d (.str nm)])] [] (gT (decide (eo b=nm))) [(1001,.cells [.d (.str nm)])]:=by refine aU [] func116 ?_;exact⟨rfl,bd⟩
def mx {α:Type} (p:α->Bool) (L:List α):Int:=match L.findIdx? p with
 |some k=>(k:Nat)
 |none=> -1
def Tn {α:Type} {p:α->Bool} {L:List α} {k:Nat} (E:k < L.length) (ao: ∀(i:Nat) b,i < k->L[i]? =some b->p b=false) (h:p L[k]=true):mx p L=(k:Nat):=by unfold mx;rw[show L.findIdx? p=some k from List.findIdx?_eq_some_iff_getElem.2 ⟨E,h,fun j V=>by simpa using ao j _ V (ao7 az7)⟩]
def aiU {α:Type} {p:α->Bool} {L:List α} (ao: ∀(i:Nat) b,i < L.length->L[i]? =some b->p b=false):mx p L= -1:=by
 unfold mx
 rw[show L.findIdx? p=none from List.findIdx?_eq_none_iff.2 fun x hx=>by
  obtain⟨i,aG,rfl⟩:=aw4 hx;exact ao i _ aG (ao7 aG)]
def xZ {α:Type} (p:α->Bool) (L:List α):(mx p L= -1/\ ∀(i:Nat) b,L[i]? =some b->p b=false)\/ ∃(k:Nat) (x:α),mx p L=k/\L[k]? =some x/\p x=true/\ ∀(i:Nat) b,i < k->L[i]? =some b->p b=false:=by
 unfold mx
 cases h:L.findIdx? p with
 |none=>
  refine .inl ⟨rfl,fun i b O=>?_⟩;have:=List.findIdx?_eq_none_iff.1 h b (at9 O);simpa using this
 |some k=>
  obtain⟨E,G,ag⟩:=List.findIdx?_eq_some_iff_getElem.1 h;refine .inr ⟨k,L[k],rfl,ao7 E,G,fun i b aG O=>?_⟩;have:=ag i aG;rw[ao7 az7] at O;injection O with O
  rw[<-O];simpa using this
def aiV {α:Type} {p:α->Prop} {L:List α} {k:Nat} (E:k < L.length) (ao: ∀(i:Nat) b,i < k->L[i]? =some b->p b) (h:p L[k]): ∀(i:Nat) b,i < k+1->L[i]? =some b->p b:=fun i b aG O=>by
 rcases ax6 i k with G |G
 .exact ao i b G O
 .have:i=k:=aA5
  subst this;rw[ao7 E] at O;injection O with O
  rw[<-O];exact h
def p3 {α:Type} {L:List α} {k:Nat} {n:Int} (hn:n=(k:Nat)) (h:k < L.length):fi L n.toNat=some L[k]:=by subst hn;exact ao7 h
def aiW (g:Nat) (p:b9->Bool) (nm:aD2) (L:aE6) (cP:L.length<=4294967296) (ax: ∀b,Fn prog g [CW b,ap 1001] [(1001,.cells [.d (.str nm)])] [] (gT (p b)) [(1001,.cells [.d (.str nm)])]):
  Fn prog 115 [eX 1002,mH (.cW g [.p 1001 0])] [(1001,.cells [.d (.str nm)]),(1002,.row 84 r3 L)] [] (ab (mx p L)) [(1001,.cells [.d (.str nm)]),(1002,.row 84 r3 L)]:=by
 refine aU [] func115 ?_;refine ed [] (X:=Nat) (fun k=>[(0,eX 1002),(1,mH (.cW g [.p 1001 0])),(7,ab (L.length:Nat)),(8,ab (k:Nat))]) (fun _=>[(1001,.cells [.d (.str nm)]),(1002,.row 84 r3 L)]) (fun k=>k<=L.length/\ ∀(i:Nat) b,i < k->L[i]? =some b->p b=false) (fun k=>L.length - k) 0 ⟨ap9 _,fun i b h=>ap0 h (ay8 _)⟩ ?_ ?_
 .exact ac.sub aE aE
 .rintro k ⟨Z,ao⟩;refine⟨fun h=>?_,fun h=>?_⟩
  .have E:k < L.length:=aA6
   refine⟨⟨az7,az7⟩,L[k],p3 rfl E,az (ax L[k]) ⟨fun h=>?_,fun h=>?_⟩⟩
   .exact er bu rfl ((Tn E ao h).symm)
   .exact⟨az7,k+1,⟨az7,aiV E ao h⟩,az7,ac.sub aE aE⟩
  .have E: ¬k < L.length:=aA6
   exact er bu rfl ((aiU fun i b aG O=>ao i b az7 O).symm)
def eW (L:aE6) (nm:aD2):Int:=mx (fun b=>decide (eo b=nm)) L
def L5 (nm:aD2) (L:aE6) (cP:L.length<=4294967296):Fn prog 59 [ap 1001,bS nm] (kT L) [] (ab (eW L nm)) (kT L):=by refine aU [] func59 ?_;exact⟨rfl,az (Fn.a7 [(1001,3)] (aiW 116 _ nm L cP fun b=>aiT b nm)) bd⟩
end
section
def fA (z:Int):Int:=16*((2 ^z.toNat:Nat):Int)
def To {bi:Int} (au:0<=bi) (E:bi<=3):1<=((2 ^bi.toNat:Nat):Int)/\((2 ^bi.toNat:Nat):Int)<=8:=by
 have:bi=0\/bi=1\/bi=2\/bi=3:=aA5
 rcases this with rfl |rfl |rfl |rfl <;>decide
def Tp {bi:Int} (au:0<=bi) (E:bi<=3):16<=fA bi/\fA bi<=128:=by have:=To au E;unfold fA;omega
def r4 (size n:Int):Int->List j8->Bool
 |_,[]=>true
 |pg,p::r=> !(decide (gb p<=pg)||decide (size<=gb p)|| !decide (((lW p).length:Int)=n))&&r4 size n (gb p) r
def hb (b:b9):Bool:=
 gN (eo b)&&decide (0<=c2 b)&&decide (c2 b<=3)&&decide (0<=ep b)&&decide (ep b<=256)&&r4 (ep b) (fA (c2 b)) (-1) (cB b)&&
  (!decide (dn b=[])||decide (((cB b).length:Int)=ep b))
def L6 (b:b9) (au:0<=c2 b) (E:c2 b<=3):Fn prog 60 [CW b] [] [] (ab (fA (c2 b))) []:=by have ao:=To au E;refine aU [] func60 ?_;exact⟨rfl,⟨az7,az7,az7⟩,⟨az7,az7⟩,bd⟩
def aiX (size n pg:Int) (l:List j8) (k:Nat) (Z:k < l.length):r4 size n pg (l.drop k)=(!(decide (gb l[k]<=pg)||decide (size<=gb l[k])|| !decide (((lW l[k]).length:Int)=n))&&r4 size n (gb l[k]) (l.drop (k+1))):=by rw[aw3 Z];rfl
def aiY (b:b9) (hn:(eo b).length<=4294967296) (ak:(cB b).length<=4294967296) (ao: ∀p,p∈cB b->(lW p).length<=4294967296):Fn prog 200 [CW b] [] [] (gT (hb b)) []:=by
 refine aU [] func200 ?_;refine⟨rfl,az (pZ _ hn) ⟨fun h=>?_,fun E=>?_⟩⟩
 .exact er bu rfl (show false=hb b by simp_all [hb])
 refine⟨fun h=>?_,fun G=>?_⟩
 .exact er bu rfl (show false=hb b by simp at h;simp[hb];omega)
 refine⟨fun h=>?_,fun ag=>?_⟩
 .exact er bu rfl (show false=hb b by simp at h;simp[hb];omega)
 refine⟨fun h=>?_,fun aS=>?_⟩
 .exact er bu rfl (show false=hb b by simp at h;simp[hb];omega)
 refine⟨fun h=>?_,fun bG=>?_⟩
 .exact er bu rfl (show false=hb b by simp at h;simp[hb];omega)
 simp only[decide_eq_false_iff_not,Bool.not_eq_false'] at E G ag aS bG
 have aw:hb b=(r4 (ep b) (fA (c2 b)) (-1) (cB b)&&(!decide (dn b=[])||decide (((cB b).length:Int)=ep b))):=by
  unfold hb;rw[E,aq1 (show 0<=c2 b by omega),aq1 (show c2 b<=3 by omega),aq1 (show 0<=ep b by omega),aq1 (show ep b<=256 by omega)];simp
 refine ed [] (X:=Nat×Int) (fun x=>[(1,ap 1),(31,b0 nU (cB b)),(3,ab x.2),(32,ab ((cB b).length:Nat)),(33,ab (x.1:Nat))]) (fun _=>[(1,.cells (Gp b))]) (fun x=>x.1<=(cB b).length/\r4 (ep b) (fA (c2 b)) (-1) (cB b)=r4 (ep b) (fA (c2 b)) x.2 ((cB b).drop x.1)) (fun x=>(cB b).length - x.1) (0,-1) ⟨ap9 _,rfl⟩ ?_ ?_
 .exact ac.sub aE aE
 rintro⟨k,pg⟩ ⟨Z,aG⟩;refine⟨fun h=>?_,fun h=>?_⟩
 .have cl:k < (cB b).length:=aA6
  rw[aiX _ _ _ _ _ cl] at aG;have gM:=ao _ (ar4 cl);refine⟨az7,(cB b)[k],p3 rfl cl,rfl,fun h=>?_,fun eH=>?_⟩
  .refine⟨rfl,?_⟩;exact er bu rfl (show false=hb b by rw[aw,aG,h];rfl)
  refine⟨fun h=>?_,fun jF=>?_⟩
  .refine⟨rfl,?_⟩;exact er bu rfl (show false=hb b by rw[aw,aG,eH,h];rfl)
  refine⟨_,_,_,_,L6 b az7 az7,trivial,rfl,rfl,fun h=>?_,fun iw=>?_⟩
  .exact er bu rfl (show false=hb b by rw[aw,aG,eH,jF,show(!decide (((lW (cB b)[k]).length:Int)=fA (c2 b)))=true from h];rfl)
  .refine⟨az7,(k+1,gb (cB b)[k]),⟨by simp only;omega,?_⟩,by simp only;omega,?_⟩
   .rw[aG,eH,jF,show(!decide (((lW (cB b)[k]).length:Int)=fA (c2 b)))=false from iw];rfl
   .exact ac.sub aE aE
 .have cl: ¬k < (cB b).length:=aA6
  rw[List.drop_eq_nil_of_le az7] at aG;refine⟨fun h=>?_,fun h=>?_⟩
  .exact er bu rfl (show true=hb b by rw[aw,aG,show(!decide (dn b=[]))=true from h];rfl)
  .exact er bu rfl (show decide (((cB b).length:Int)=ep b)=hb b by rw[aw,aG,show(!decide (dn b=[]))=false from h];rfl)
end
section
def Tq:Fn prog 65 [] [] [1001,1002] (ap 1001) (kT []):=by refine aU [] func65 ?_;exact⟨rfl,_,_,_,ac.trans (ac.yR 2 0 1002 84 r3 rfl rfl rfl) (ac.a7 2 1001 rfl),rfl,rfl,aE,rfl⟩
def s9 (L:aE6):aD2:=match L.getLast? with
 |some b=>eo b
 |none=>[]
def aiZ (L:aE6) (cP:L.length<=4294967296):Fn prog 84 [ap 1001] (kT L) [] (bS (s9 L)) (kT L):=by
 refine aU [] func84 ?_;refine⟨fun h=>?_,fun h=>?_⟩
 .have au:L.length=0:=by simp only[as1] at h;omega
  refine⟨_,_,_,bu,rfl,?_,aE,rfl⟩;rw[at4 au];rfl
 .have au:0 < L.length:=by simp only[decide_eq_false_iff_not] at h;omega
  have br:L.length - 1 < L.length:=aA5
  refine⟨az7,⟨az7,az7⟩,L[L.length - 1],p3 (k:=L.length - 1) az7 br,rfl,_,_,_,bu,rfl,?_,aE,rfl⟩;show eo L[L.length - 1]=s9 L;unfold s9;rw[List.getLast?_eq_getElem?,ao7 br]
def gy (L:aE6) (b:b9):Int:=
 if(!hb b||decide (0<=eW L (eo b))||decide (64<=(L.length:Int)))=true then 1
 else if(!decide (dn b=[])&&decide (eW L (dn b) < 0))=true then 181
 else if(!decide (dn b=[])&& !decide ((match fi L (eW L (dn b)).toNat with |some x=>c2 x |none=>c2 b)=c2 b))=true then 1 else 0
def gQ (L:aE6) (b:b9):List b9:=if gy L b=0 then L++[b] else L
def Tr {L:aE6} {b:b9} (h:(!hb b)=true):gy L b=1:=by unfold gy;rw[vj (by simp[h])]
def Ts {L:aE6} {b:b9} (h:decide (0<=eW L (eo b))=true):gy L b=1:=by unfold gy;rw[vj (by simp[h])]
def Tt {L:aE6} {b:b9} (h:decide (64<=(L.length:Int))=true):gy L b=1:=by unfold gy;rw[vj (by simp[h])]
def CX {b:b9} (h:hb b=true):0<=c2 b/\c2 b<=3/\0<=ep b/\ep b<=256:=by simp only[hb,ao8,as1] at h;omega
abbrev ai0 (L:aE6):av:=[(1001,.cells [.own 1003]),(1003,.row 84 r3 L)]
def uD {α:Type} {l:List α} {k:Nat} (h:k < l.length):l.take k++[l[k]]=l.take (k+1):=by rw[ax3,ao7 h];rfl
abbrev L7 (b:b9) (r k:Nat):aW:=[(0,ap 1001),(3,ap 3),(6,eX r),(58,b0 nU (cB b)),(59,ab ((cB b).length:Nat)),(60,ab (k:Nat))]
abbrev L8 (L:aE6) (b:b9) (r:Nat) (l:List j8):av:=[(r,.row 128 nU l),(3,.cells (Gp b)),(1001,.cells [.own 1002]),(1002,.row 84 r3 L)]
def L9 (L:aE6) (b:b9) (cP:L.length<=1000000) (hn:(eo b).length<=4294967296) (ak:(cB b).length<=1000000) (ao: ∀p,p∈cB b->(lW p).length<=4294967296):
  Fn prog 143 [ap 1001,CW b] (kT L) [1003] (ab (gy L b)) (ai0 (gQ L b)):=by
 have fx: ∀e,gy L b=e->e≠0->gQ L b=L:=fun e E G=>by unfold gQ;rw[mu az7]
 refine aU [14] func143 ?_;refine⟨rfl,az (L5 (dn b) L az7) <| az (aiY b hn az7 ao) ⟨fun h=>?_,fun E=>?_⟩⟩
 .rw[fx 1 (Tr h) az7,Tr h];exact⟨_,_,_,ac.a7 1002 1003 rfl,rfl,rfl,aE,rfl⟩
 refine az (L5 (eo b) L az7) ⟨fun h=>?_,fun G=>?_⟩
 .rw[fx 1 (Ts h) az7,Ts h];exact⟨_,_,_,ac.a7 1002 1003 rfl,rfl,rfl,aE,rfl⟩
 refine⟨fun h=>?_,fun ag=>?_⟩
 .rw[fx 1 (Tt h) az7,Tt h];exact⟨_,_,_,ac.a7 1002 1003 rfl,rfl,rfl,aE,rfl⟩
 have a2:gy L b=if(!decide (dn b=[])&&decide (eW L (dn b) < 0))=true then 181 else if(!decide (dn b=[])&& !decide ((match fi L (eW L (dn b)).toNat with |some x=>c2 x |none=>c2 b)=c2 b))=true then 1 else 0:=by
  unfold gy;rw[mu (by rw[show(!hb b)=false from E,show decide (0<=eW L (eo b))=false from G,show decide (64<=(L.length:Int))=false from ag];simp)]
 have aw:hb b=true:=aC9
 obtain⟨r1,r2,fI,jI⟩:=CX aw;have r5:gy L b=0->gQ L b=L++[b]:=fun h=>by unfold gQ;rw[vj h]
 refine⟨fun aS=>?a,fun aS=>?b⟩
 case' a=>
  refine⟨fun h=>?_,fun bG=>?_⟩
  .rw[show(!decide (dn b=[]))=true from aS,show decide (eW L (dn b) < 0)=true from h] at a2;have a2:gy L b=181:=a2;rw[fx 181 a2 az7,a2];exact⟨_,_,_,ac.a7 1002 1003 rfl,rfl,rfl,aE,rfl⟩
  have eH: ¬eW L (dn b) < 0:=by simpa using bG
  have Z: ∃k:Nat,∃Z:k < L.length,eW L (dn b)=(k:Nat):=by
   rcases xZ (fun x=>decide (eo x=dn b)) L with⟨h,_⟩ |⟨k,x,h,hx,_⟩
   .exact ap0 (show eW L (dn b) < 0 by unfold eW;omega) eH
   .exact⟨k,(ap6.1 hx).1,h⟩
  obtain⟨k,Z,x0⟩:=Z;rw[show(!decide (dn b=[]))=true from aS,show decide (eW L (dn b) < 0)=false from bG,p3 x0 Z] at a2;have a2:gy L b=if(!decide (c2 L[k]=c2 b))=true then 1 else 0:=a2
  refine⟨fun jF=>⟨⟨az7,az7⟩,L[k],p3 x0 Z,rfl,fun h=>?_,fun h=>?_⟩,fun jF=>ap0 aS (by rw[show(!decide (dn b=[]))=false from jF];simp)⟩
  .rw[show(!decide (c2 L[k]=c2 b))=true from h] at a2;have a2:gy L b=1:=a2;rw[fx 1 a2 az7,a2];exact⟨_,_,_,ac.a7 1002 1003 rfl,rfl,rfl,aE,rfl⟩
  rw[show(!decide (c2 L[k]=c2 b))=false from h] at a2;have eR:gy L b=0:=a2;clear a2 h
 case' b=>
  rw[show(!decide (dn b=[]))=false from aS] at a2;have eR:gy L b=0:=a2;clear a2;refine⟨fun jF=>ap0 aS (by rw[show(!decide (dn b=[]))=true from jF];simp),fun jF=>⟨rfl,?_⟩⟩
 all_goals
  rw[r5 eR,eR];refine ed [14] (X:=Nat) (L7 b 2002) (fun k=>L8 L b 2002 ((cB b).take k)) (fun k=>k<=(cB b).length) (fun k=>(cB b).length - k) 0 (ap9 _) ?_ ?_
  .exact ac.trans (ac.nil 6 2002 128 nU rfl rfl) (ac.sub aE aE)
  intro j V;refine⟨fun h=>?_,fun h=>?_⟩
  .have fg:j < (cB b).length:=aA6
   have gM:=ao _ (ar4 fg);refine⟨az7,(cB b)[j],p3 rfl fg,rfl,az (KE _ gM) ⟨?_,rfl,rfl,?_⟩⟩
   .show((cB b).take j).length+1<=4294967296;rw[aq0];omega
   .exact⟨az7,j+1,fg,az7,ac.trans (ac.sub (K':=L7 b 72 (j+1)) (B':=L8 L b 72 ((cB b).take (j+1))) aE ⟨ap1 (fun l=>some (ba.row _ nU l)) (uD fg),rfl,rfl,rfl,trivial⟩) (ac.a7 72 2002 rfl)⟩
  .have fg:j=(cB b).length:=by
     have: ¬j < (cB b).length:=aA6
     omega
   subst fg;refine bx [] (ac.trans (ac.sub (K':=L7 b 2002 (cB b).length) (B':=L8 L b 2002 (cB b)) aE ⟨ap1 (fun l=>some (ba.row _ nU l)) ar2,rfl,rfl,rfl,trivial⟩) (ac.dX 2002 rfl)) ⟨?_,rfl,rfl,?_⟩
   .show L.length+1<=4294967296;omega
   .exact⟨_,_,_,ac.a7 83 1003 rfl,rfl,rfl,aE,rfl⟩
end
section
def Ma (size n:Int): ∀(l:List j8) (pg:Int),r4 size n pg l=true-> ∀p,p∈l->pg < gb p/\gb p < size/\((lW p).length:Int)=n
 | [],_,_,p,ao=>by cases ao
 |q::l,pg,h,p,ao=>by
  simp only[r4,ao8,aq9,at1,decide_eq_false_iff_not,Bool.not_eq_false',as1] at h;obtain⟨⟨⟨E,G⟩,ag⟩,aS⟩:=h;rcases ap7.1 ao with rfl |ao
  .exact⟨az7,az7,ag⟩
  .have:=Ma size n l (gb q) aS p ao;exact⟨az7,this.2.1,this.2.2⟩
def ph (nV:Int) (acc:aD2) (p:j8):aD2:=laid acc (gb p*nV).toNat (acc.length - (gb p*nV).toNat) (lW p)
def Ai (b:b9) (below:aD2):aD2:=
 let aF:=List.replicate (ep b*fA (c2 b)).toNat (0:UInt8)
 (cB b).foldl (ph (fA (c2 b))) (if decide (dn b=[])=true then aF else laid aF 0 aF.length below)
def pi (L:aE6) (i:Int):Option b9:=if 0<=i then fi L i.toNat else none
def vX (L:aE6) (nm:aD2) (bT:aD2->aD2):aD2:=match pi L (eW L nm) with
 |none=>[]
 |some b=>Ai b (bT (dn b))
def ta (L:aE6) (nm:aD2):Int:=if decide (eW L nm < 0)=true then 181 else 0
def Gq (out:aD2) (e:Int):aN:=.cm [.one (.d (.cr .u8 out)),.one (.d (.int .i64 e))]
def Tu {size nV:Int} {b:aD2} {p:j8} (au:0<=nV) (E:0<=gb p) (G:gb p < size) (O:b.length=(size*nV).toNat):(gb p*nV).toNat<=b.length/\(ph nV b p).length=b.length:=by
 have:gb p*nV<=size*nV:=Int.mul_le_mul_of_nonneg_right az7 au;have ag:(gb p*nV).toNat<=b.length:=aA5
 exact⟨ag,Ir _ _ az7⟩
def Tv {size nV:Int} (au:0<=nV): ∀(l:List j8) (acc:aD2),(∀p,p∈l->0<=gb p/\gb p < size)->acc.length=(size*nV).toNat->(l.foldl (ph nV) acc).length=(size*nV).toNat
 | [],acc,_,ha=>ha
 |p::l,acc,ao,ha=>Tv au l (ph nV acc p) (fun q aY=>ao q (ap4 _ aY)) (by
  have:=ao p aq4;rw[(Tu au this.1 this.2 ha).2,ha])
def ai1 {α mj:Type} (f:mj->α->mj) (x:mj) {l:List α} {k:Nat} (h:k < l.length):(l.take (k+1)).foldl f x=f ((l.take k).foldl f x) l[k]:=by rw[<-uD h,ax4];rfl
abbrev ai2 (b:b9) (k:Nat):aW:=[(7,ap 7),(8,eX 30),(45,b0 nU (cB b)),(46,ab ((cB b).length:Nat)),(47,ab (k:Nat))]
abbrev ai3 (L:aE6) (b:b9) (x:aD2):av:=[(30,.row 5 .u8 x),(7,.cells (Gp b)),(1001,.cells [.own 1002]),(1002,.row 84 r3 L)]
def Tw (L:aE6) (nm:aD2) (cP:L.length<=1000000) (aw: ∀b,b∈L->hb b=true/\(cB b).length<=1000000) (bT:aD2->aD2)
  (bl: ∀b,pi L (eW L nm)=some b->(!decide (dn b=[]))=true->Fn prog 26 [ap 1001,bS (dn b)] (kT L) [] (Gq (bT (dn b)) (ta L (dn b))) (kT L)):
  Fn prog 26 [ap 1001,bS nm] (kT L) [] (Gq (vX L nm bT) (ta L nm)) (kT L):=by
 refine aU [] func26 ?_;refine az (L5 nm L az7) ⟨fun h=>?_,fun h=>?_⟩
 .have E: ¬0<=eW L nm:=by simp only[as1] at h;omega
  exact er bu rfl ⟨(show vX L nm bT=[] by unfold vX pi;rw[mu E]),(show(181:Int)=ta L nm by unfold ta;rw[vj h]),trivial⟩
 have hf: ¬eW L nm < 0:=aA6
 have Z: ∃k:Nat,∃Z:k < L.length,eW L nm=(k:Nat):=by
  rcases xZ (fun x=>decide (eo x=nm)) L with⟨h,_⟩ |⟨k,x,h,hx,_⟩
  .exact ap0 (show eW L nm < 0 by unfold eW;omega) hf
  .exact⟨k,(ap6.1 hx).1,h⟩
 obtain⟨k,Z,x0⟩:=Z;have aV:pi L (eW L nm)=some L[k]:=by unfold pi;rw[vj az7];exact p3 x0 Z
 have a2:ta L nm=0:=by unfold ta;rw[mu (by rw[h];simp)]
 have ar:vX L nm bT=Ai L[k] (bT (dn L[k])):=by unfold vX;rw[aV]
 have bl:=bl _ aV;rw[a2,ar];refine⟨⟨az7,az7⟩,L[k],p3 x0 Z,?_⟩;obtain⟨xS,gM⟩:=aw _ (ar4 Z);generalize ix:L[k]=b at*;obtain⟨r1,r2,fI,jI⟩:=CX xS;obtain⟨cy,cu⟩:=Tp r1 r2
 have ST:0<=ep b*fA (c2 b)/\ep b*fA (c2 b)<=32768:=⟨Int.mul_nonneg az7 az7,by
  have:ep b*fA (c2 b)<=256*128:=Int.mul_le_mul jI cu az7 az7;omega⟩
 have aO:(List.replicate (ep b*fA (c2 b)).toNat (0:UInt8)).length=(ep b*fA (c2 b)).toNat:=aq7
 have Tx: ∀p,p∈cB b->0<=gb p/\gb p < ep b:=fun p ao=>by
  have xS:=xS;simp only[hb,ao8] at xS;have:=Ma _ _ _ _ xS.1.2 p ao;omega
 refine⟨rfl,az (L6 b r1 r2) ?_⟩;have ai4: -9223372036854775808<=ep b*fA (c2 b)/\ep b*fA (c2 b)<=9223372036854775807:=aA5
 have ai5:ep b*fA (c2 b)<=4294967296:=aA5
 refine⟨ai4,⟨rfl,ST.1,ai5⟩,rfl,rfl,fun aS=>?a,fun aS=>?b⟩
 case' a=>
  refine az (bl aS) ⟨az7,?_⟩
  have O: ∃y,Ai b (bT (dn b))=(cB b).foldl (ph (fA (c2 b))) y/\y=laid (List.replicate (ep b*fA (c2 b)).toNat (0:UInt8)) 0 (List.replicate (ep b*fA (c2 b)).toNat (0:UInt8)).length (bT (dn b))/\y.length=(ep b*fA (c2 b)).toNat:=⟨_,by
   unfold Ai;simp only;rw[show decide (dn b=[])=false by simpa using aS];rfl,rfl,(Ir _ _ az7).trans aO⟩
  obtain⟨y,H,aC,QZ⟩:=O
 case' b=>
  have O: ∃y,Ai b (bT (dn b))=(cB b).foldl (ph (fA (c2 b))) y/\y=(List.replicate (ep b*fA (c2 b)).toNat (0:UInt8))/\y.length=(ep b*fA (c2 b)).toNat:=⟨_,by
   unfold Ai;simp only;rw[show decide (dn b=[])=true by simpa using aS];rfl,rfl,aO⟩
  obtain⟨y,H,aC,QZ⟩:=O
 all_goals
  rw[H];refine ed [] (X:=Nat) (ai2 b) (fun k=>ai3 L b (((cB b).take k).foldl (ph (fA (c2 b))) y)) (fun k=>k<=(cB b).length) (fun k=>(cB b).length - k) 0 (ap9 _) ?_ ?_
  .exact ac.sub aE ⟨ap1 (fun l=>some (ba.row _ .u8 l)) aC.symm,rfl,rfl,rfl,trivial⟩
  intro j V;refine⟨fun h=>?_,fun h=>?_⟩
  .have fg:j < (cB b).length:=aA6
   have Mb:=Tx _ (ar4 fg);have Ks:(((cB b).take j).foldl (ph (fA (c2 b))) y).length=(ep b*fA (c2 b)).toNat:=Tv az7 _ _ (fun p ao=>Tx p (List.mem_of_mem_take ao)) az7;obtain⟨cE,cG⟩:=Tu az7 Mb.1 Mb.2 Ks;have ai6:0<=gb (cB b)[j]*fA (c2 b):=Int.mul_nonneg Mb.1 az7;have ai7: -9223372036854775808<=gb (cB b)[j]*fA (c2 b)/\gb (cB b)[j]*fA (c2 b)<=9223372036854775807:=aA5
   refine⟨az7,(cB b)[j],p3 rfl fg,rfl,az (L6 b r1 r2) ⟨ai7,⟨ai6,?_⟩,?_⟩⟩
   .show gb (cB b)[j]*fA (c2 b)<=((((cB b).take j).foldl (ph (fA (c2 b))) y).length:Int);omega
   refine⟨?_,rfl,?_⟩
   .show(gb (cB b)[j]*fA (c2 b)).toNat+((((cB b).take j).foldl (ph (fA (c2 b))) y).length - (gb (cB b)[j]*fA (c2 b)).toNat)<=(((cB b).take j).foldl (ph (fA (c2 b))) y).length;omega
   .exact⟨az7,j+1,fg,az7,ac.sub aE ⟨ap1 (fun l=>some (ba.row _ .u8 l)) (ai1 (ph (fA (c2 b))) y fg).symm,rfl,rfl,rfl,trivial⟩⟩
  .have fg:j=(cB b).length:=by
     have: ¬j < (cB b).length:=aA6
     omega
   subst fg;exact⟨_,_,_,ac.trans (ac.dX 30 rfl) (bu),rfl,⟨(show((cB b).take (cB b).length).foldl (ph (fA (c2 b))) y=(cB b).foldl (ph (fA (c2 b))) y by rw[ar2]),rfl,trivial⟩,aE,rfl⟩
def Gr (L:aE6):Nat->aD2->aD2
 |0,_=>[]
 |n+1,nm=>vX L nm (Gr L n)
structure nW (L:aE6):Prop where
 len:L.length<=64
 right: ∀b,b∈L->hb b=true
 Gs: ∀(k:Nat) b,L[k]? =some b->decide (dn b=[])=false->0<=eW L (dn b)/\eW L (dn b) < k
def Ty {b:b9} (h:hb b=true):(cB b).length<=256:=by
 have G:=CX h;simp only[hb,ao8] at h
 have key: ∀(l:List j8) (pg:Int),r4 (ep b) (fA (c2 b)) pg l=true->(l.length:Int)<=max 0 (ep b - 1 - pg):=by
  intro l
  induction l with
  |nil=>intro pg _;simp only[List.length_nil];omega
  |cons p l bl=>
   intro pg h;simp only[r4,ao8,aq9,at1,decide_eq_false_iff_not] at h;have:=bl _ h.2;simp only[as9];omega
 have:=key _ _ h.1.2;omega
def Tz (L:aE6) (nm:aD2):eW L nm < L.length:=by
 rcases xZ (fun x=>decide (eo x=nm)) L with⟨h,_⟩ |⟨k,x,h,hx,_⟩
 .unfold eW;omega
 .have:=(ap6.1 hx).1;unfold eW;omega
def ai8 {L:aE6} {i:Int} {b:b9} (h:pi L i=some b): ∃k:Nat,i=k/\L[k]? =some b:=by
 unfold pi at h
 split at h
 .exact⟨i.toNat,az7,h⟩
 .cases h
def ai9 {L:aE6} (aZ:nW L): ∀(n:Nat) (nm:aD2),eW L nm < n->Fn prog 26 [ap 1001,bS nm] (kT L) [] (Gq (Gr L n nm) (ta L nm)) (kT L):=by
 have cP:L.length<=1000000:=by have:=aZ.len;omega
 have aw: ∀b,b∈L->hb b=true/\(cB b).length<=1000000:=fun b O=>⟨aZ.right b O,by have:=Ty (aZ.right b O);omega⟩
 intro n
 induction n with
 |zero=>
  intro nm h;have au:pi L (eW L nm)=none:=by unfold pi;rw[mu az7]
  have:=Tw L nm cP aw (fun _=>[]) (fun b O=>by rw[au] at O;cases O);rw[show vX L nm (fun _=>[])=[] by unfold vX;rw[au]] at this;exact this
 |succ n bl=>
  intro nm h
  exact Tw L nm cP aw (Gr L n) (fun b O ao=>bl (dn b) (by
   obtain⟨k,Z,O⟩:=ai8 O;have:=(aZ.Gs k b O (by simpa using ao)).2;omega))
def Aj (L:aE6) (nm:aD2):aD2:=Gr L (L.length+1) nm
def ai' {L:aE6} (aZ:nW L) (nm:aD2):Fn prog 26 [ap 1001,bS nm] (kT L) [] (Gq (Aj L nm) (ta L nm)) (kT L):=
 ai9 aZ _ nm (by have:=Tz L nm;omega)
end
section
abbrev TA:bz:=.bT (.int .i64) .str
abbrev TB:bz:=.bT .str (.bT .str (.bT (.int .i64) (.bT (.int .i64) (.ce TA))))
abbrev vY:Type:=aa TA
abbrev my:Type:=aa TB
abbrev aja (p:vY):Int:=p.1
abbrev CY (p:vY):aD2:=p.2
abbrev ajb (b:my):aD2:=b.1
abbrev ajc (b:my):aD2:=b.2.1
abbrev ajd (b:my):Int:=b.2.2.1
abbrev TC (b:my):Int:=b.2.2.2.1
abbrev aje (b:my):List vY:=b.2.2.2.2
def r6 (p:vY):j8:=(aja p,CY p)
def jz (b:my):b9:=(ajb b,ajc b,ajd b,TC b,(aje b).map r6)
def ajf {α mj:Type} (f:α->mj) {l:List α} {k:Nat} (h:k < l.length):(l.take k).map f++[f l[k]]=(l.take (k+1)).map f:=by rw[<-uD h,au2];rfl
end
section
def CZ (L:aE6) (nm:aD2):Bool:=decide (0<=mx (fun b=>decide (dn b=nm)) L)
end
section
end
section
abbrev nX:bz:=.int .i64
abbrev ajg:bz:=.bT .str (.ce nX)
abbrev Gt:bz:=.bT nX (.bT nX (.bT nX (.bT (.ce .u8) (.ce nX))))
abbrev Gu:bz:=.bT nX (.bT nX (.bT .str (.bT .str (.bT (.ce ajg) Gt))))
abbrev ajh:bz:=.bT nX (.bT nX (.bT TB (.bT .str Gu)))
abbrev Gv:Type:=aa ajh
abbrev aji (o:Gv):Int:=o.2.1
abbrev ajj (o:Gv):my:=o.2.2.1
abbrev Mc (o:Gv):aa Gu:=o.2.2.2.2
abbrev ajk (o:aa Gu):Int:=o.2.1
abbrev TD (o:aa Gu):aa Gt:=o.2.2.2.2.2
abbrev ajl (o:aa Gt):Int:=o.1
abbrev ajm (o:aa Gt):Int:=o.2.2.1
def over (n a b:Int):Bool:=decide (a < n)&&decide (n<=b)
def TE (o:Gv):Bool:=over (TC (ajj o)) 12 256||over (aji o) 100 4096||over (ajk (Mc o)) 100 4096||(decide (ajl (TD (Mc o))=4)&&over (ajm (TD (Mc o))) 100 4096)
end
section
def Md {L:aE6} {b:b9} (h:gy L b=0):hb b=true/\eW L (eo b) < 0/\L.length < 64/\(decide (dn b=[])=false->0<=eW L (dn b)):=by
 unfold gy at h
 split at h
 .cases h
 .rename_i E
  split at h
  .cases h
  .rename_i G;simp only[au3,aq9,as1,not_or,Bool.not_eq_false] at E;refine⟨E.1.1,az7,az7,fun h=>?_⟩;rw[h] at G;simp only[Bool.not_false,ax8,as1] at G;omega
def TF {α:Type} {p:α->Bool} {L:List α} (x:α) (h:0<=mx p L):mx p (L++[x])=mx p L:=by
 unfold mx at*;rw[List.findIdx?_append]
 cases hf:L.findIdx? p with
 |none=>rw[hf] at h;exact ap0 h az8
 |some k=>simp
def TG {α:Type} {L:List α} {b:α} (k:Nat) (x:α) (hx:(L++[b])[k]? =some x):L[k]? =some x\/(k=L.length/\x=b):=by
 rcases ax6 k L.length with h |h
 .rw[as0 h] at hx;exact .inl hx
 .rw[as3 h] at hx
  cases Z:k - L.length with
  |zero=>rw[Z] at hx;exact .inr ⟨az7,by simpa using hx.symm⟩
  |succ n=>rw[Z] at hx;simp at hx
def nW.add {L:aE6} (aZ:nW L) (b:b9):nW (gQ L b):=by
 unfold gQ
 split
 .rename_i h;obtain⟨E,G,ag,aS⟩:=Md h;refine⟨by simp;omega,fun x hx=>?_,fun k x Z ao=>?_⟩
  .rcases ar7.1 hx with hx |hx
   .exact aZ.right x hx
   .simp only[ap7,List.not_mem_nil,or_false] at hx;rw[hx];exact E
  .rcases TG k x Z with Z |⟨rfl,rfl⟩
   .have:=aZ.Gs k x Z ao;unfold eW at*;rw[TF b this.1];exact this
   .have:=aS ao;have br:=Tz L (dn x);unfold eW at*;rw[TF x this];exact⟨this,br⟩
 .exact aZ
end
section
abbrev Me (r:Nat) (L:aE6):av:=[(1001,.cells [.own r]),(r,.row 84 r3 L)]
end
section
abbrev TH (r k:Nat) (L:aE6):aW:=[(3,eX r),(9,eX 1002),(10,ab (L.length:Nat)),(11,ab (k:Nat))]
abbrev TI (L:aE6) (r:Nat) (l:aF4):av:=(r,.row 9 .str l)::kT L
def ajn (L:aE6) (cP:L.length<=1000000):Fn prog 81 [ap 1001] (kT L) [] (b0 .str (L.map eo)) (kT L):=by
 refine aU [] func81 ?_;refine ed [] (X:=Nat) (fun k=>TH 2002 k L) (fun k=>TI L 2002 ((L.take k).map eo)) (fun k=>k<=L.length) (fun k=>L.length - k) 0 (ap9 _) ?_ ?_
 .exact ac.trans (ac.nil 3 2002 9 .str rfl rfl) (ac.sub aE aE)
 intro k Z;refine⟨fun h=>?_,fun h=>?_⟩
 .have cl:k < L.length:=aA6
  refine⟨⟨az7,az7⟩,L[k],p3 rfl cl,rfl,?_,rfl,?_⟩
  .show((L.take k).map eo).length+1<=4294967296;rw[aq3,aq0];omega
  exact⟨az7,k+1,cl,az7,ac.trans (ac.sub (K':=TH 19 (k+1) L) (B':=TI L 19 ((L.take (k+1)).map eo)) aE ⟨ap1 (fun l=>some (ba.row _ .str l)) (ajf eo cl),rfl,rfl,trivial⟩) (ac.a7 19 2002 rfl)⟩
 .have cl:k=L.length:=by
    have: ¬k < L.length:=aA6
    omega
  subst cl;exact⟨_,_,_,ac.dX 2002 rfl,rfl,(show(L.take L.length).map eo=L.map eo by rw[ar2]),aE,rfl⟩
end
section
def Ak (L:aE6) (nm:aD2):Int:=if eW L nm < 0 then 181 else if CZ L nm=true then 1 else 0
def Al (L:aE6) (nm:aD2):List b9:=if Ak L nm=0 then L.eraseIdx (eW L nm).toNat else L
end
section
end
section
end
section
end
section
def ajo {α:Type} (p:α->Bool): ∀(L:List α),(if 0<=mx p L then fi L (mx p L).toNat else none)=L.find? p:=by
 intro L;rcases xZ p L with⟨h,hn⟩ |⟨k,x,h,hx,ao,br⟩
 .rw[h,mu az7];refine(List.find?_eq_none.2 fun x hx=>?_).symm;obtain⟨i,aG,rfl⟩:=aw4 hx;rw[hn i _ (ao7 aG)];simp
 .rw[h,vj az7,ax9];unfold fi;rw[hx];refine(List.find?_eq_some_iff_getElem.2 ⟨ao,k,(ap6.1 hx).1,(ap6.1 hx).2,fun j V=>?_⟩).symm;have:=br j _ V (ao7 (by have:=(ap6.1 hx).1;omega));simpa using this
def Am (L:aE6) (nm:aD2):pi L (eW L nm)=L.find? (fun b=>decide (eo b=nm)):=ajo _ L
def Mf {α:Type} (p:α->Bool): ∀(L:List α) (k:Nat) (x:α),L[k]? =some x->p x=false->(L.eraseIdx k).find? p=L.find? p
 | [],k,x,h,_=>by simp at h
 |a::L,0,x,h,ao=>by
  simp only[aq2,ap5] at h;subst h;simp[List.find?_cons,ao]
 |a::L,k+1,x,h,ao=>by
  simp only[ay7] at h;rw[List.eraseIdx_cons_succ,List.find?_cons,List.find?_cons,Mf p L k x h ao]
def Gw (L:aE6) (nm:aD2):eW L nm < 0↔L.find? (fun b=>decide (eo b=nm))=none:=by
 rw[<-Am];unfold pi;constructor
 .intro h;rw[mu az7]
 .intro h;rcases xZ (fun b=>decide (eo b=nm)) L with⟨G,_⟩ |⟨k,x,G,hx,_⟩
  .unfold eW;omega
  .have G:eW L nm=k:=G;rw[vj az7,G,ax9] at h;unfold fi at h;rw[hx] at h
   cases h
end
section
def Gx {L:aE6} {nm:aD2} (h:0<=eW L nm): ∃x,L.find? (fun y=>decide (eo y=nm))=some x:=by
 cases hx:L.find? (fun y=>decide (eo y=nm)) with
 |some x=>exact⟨x,rfl⟩
 |none=>have:=(Gw L nm).2 hx;omega
def ajp {L:aE6} (aZ:nW L) {b:b9} (O:b∈L) (ao:dn b≠[]):0<=eW L (dn b):=by obtain⟨k,Z,rfl⟩:=aw4 O;exact(aZ.Gs k _ (ao7 Z) (by simpa using ao)).1
def ajq {b:b9} (h:hb b=true):16<=fA (c2 b)/\fA (c2 b)<=128:=by obtain⟨E,G,_,_⟩:=CX h;exact Tp E G
def ajr {b:b9} (h:hb b=true): ∀p,p∈cB b->0<=gb p/\gb p < ep b/\((lW p).length:Int)=fA (c2 b):=fun p ao=>by
 simp only[hb,ao8] at h;have:=Ma _ _ _ _ h.1.2 p ao;omega
end
section
def ajs {α:Type} (p:α->Bool) {L:List α} {q k:Nat} (aY:mx p L=q) (a6:q≠k):mx p (L.eraseIdx k)=((if q < k then q else q - 1:Nat):Int):=by
 rcases xZ p L with⟨h,_⟩ |⟨j,x,h,hx,ao,br⟩
 .omega
 .obtain rfl:j=q:=aA5
  have aV: ∀i:Nat,(L.eraseIdx k)[i]? =if i < k then L[i]? else L[i+1]? :=fun i=>ay4 ..
  have dF:(L.eraseIdx k)[if j < k then j else j - 1]? =some x:=by
   rw[aV]
   by_cases E:j < k
   .rw[vj E,vj E];exact hx
   .rw[mu E,mu az7,show j - 1+1=j by omega];exact hx
  have IN:=(ap6.1 dF).1;refine Tn IN (fun i b aG O=>?_) (by rw[(ap6.1 dF).2];exact ao);rw[aV] at O
  by_cases E:j < k
  .rw[vj E] at aG;rw[vj az7] at O;exact br i b aG O
  .rw[mu E] at aG
   split at O
   .exact br i b az7 O
   .exact br (i+1) b az7 O
def TJ {L:aE6} {nm:aD2} (h:CZ L nm=false) {b:b9} (O:b∈L):dn b≠nm:=fun e=>by
 obtain⟨i,aG,rfl⟩:=aw4 O;rcases xZ (fun b=>decide (dn b=nm)) L with⟨_,hn⟩ |⟨k,x,G,_⟩
 .have:=hn i _ (ao7 aG);simp[e] at this
 .have:CZ L nm=true:=by unfold CZ;rw[G];simp
  rw[h] at this
  cases this
def TK {L:aE6} {nm:aD2} (h:Ak L nm=0):0<=eW L nm/\CZ L nm=false:=by
 unfold Ak at h
 split at h
 .cases h
 split at h
 .cases h
 .rename_i E G;exact⟨az7,by simpa using G⟩
def ajt {L:aE6} (aZ:nW L) (nm:aD2):nW (Al L nm):=by
 unfold Al
 split
 .rename_i a2;obtain⟨E,G⟩:=TK a2;obtain⟨k,Z⟩: ∃k:Nat,eW L nm=k:=⟨(eW L nm).toNat,az7⟩;rw[Z,ax9];refine⟨av9 (List.length_eraseIdx_le _ _) aZ.len,fun b O=>aZ.right b (List.mem_of_mem_eraseIdx O),fun d4 b O ao=>?_⟩;have aju:b∈L:=List.mem_of_mem_eraseIdx (at9 O);have a6:=TJ G aju;rw[ay4] at O
  obtain⟨j,V,jc⟩: ∃j,L[j]? =some b/\((d4 < k/\j=d4)\/(k<=d4/\j=d4+1)):=by
   split at O
   .exact⟨d4,O,.inl ⟨az7,rfl⟩⟩
   .exact⟨d4+1,O,.inr ⟨az7,rfl⟩⟩
  obtain⟨d0,cU⟩:=aZ.Gs j b V ao;obtain⟨q,aY⟩: ∃q:Nat,eW L (dn b)=q:=⟨(eW L (dn b)).toNat,az7⟩
  have ajv:q≠k:=fun e=>by
   subst e;have bR:=Am L (dn b);have b':=Am L nm;rw[aY] at bR;rw[Z] at b';obtain⟨x,hx⟩:=Gx (L:=L) (nm:=nm) az7;rw[hx] at b';rw[b'] at bR;have b1:=List.find?_some hx;have b2:=List.find?_some bR.symm;simp only[as1] at b1 b2;exact a6 (b2.symm.trans b1)
  have U:eW (L.eraseIdx k) (dn b)=((if q < k then q else q - 1:Nat):Int):=ajs _ aY ajv;rw[U]
  split <;>omega
 .exact aZ
end
section
def r7 (n k:Nat):UInt8:=UInt8.ofNat (n/256 ^k % 256)
def fV (n:Nat):Nat->aD2
 |0=>[]
 |k+1=>r7 n k::fV n k
def p4 (n:Nat): ∀k,(fV n k).length=k
 |0=>rfl
 |k+1=>by simp[fV,p4 n k]
def TL (n:Nat): ∀(k i:Nat),i < k->(fV n k)[i]? =some (r7 n (k - 1 - i))
 |0,i,h=>by omega
 |k+1,0,h=>by simp[fV]
 |k+1,i+1,h=>by
  simp only[fV,ay7];rw[TL n k i az7]
  congr 2
  omega
def TM (m k:Nat):UInt8.ofNat (((m:Nat):Int)/((2 ^(8*k):Nat):Int) % 256).toNat=r7 m k:=by
 unfold r7;have h:(2:Nat) ^(8*k)=256 ^k:=by rw[Nat.pow_mul]
 rw[h]
 congr 1
abbrev W (w:Nat):Prop:=w=1\/w=2\/w=4
def Mg (w:Nat) (hw:W w):Fn prog 112 [ab (w:Nat)] [] [] (gT true) []:=by
 refine aU [] func112 ?_;refine⟨fun h=>?_,fun E=>?_⟩
 .exact bd
 refine⟨fun h=>?_,fun G=>?_⟩
 .exact bd
 refine⟨fun h=>?_,fun ag=>?_⟩
 .exact bd
 have E: ¬((w:Nat):Int)=1:=oj E;have G: ¬((w:Nat):Int)=2:=oj G;have ag: ¬((w:Nat):Int)=4:=oj ag;unfold W at hw;omega
def TN (n w:Nat) (hw:W w) (hn:n < 256 ^w):Fn prog 171 [ab (n:Nat),ab (w:Nat)] [] [] (gT true) []:=by
 have ao:(2 ^(8*((w:Nat):Int)).toNat:Nat)=256 ^w/\256 ^w<=4294967296:=by
  rcases hw with rfl |rfl |rfl <;>decide
 refine aU [] func171 ?_;refine⟨fun h=>?_,fun E=>?_⟩
 .have h:((w:Nat):Int)=8:=gd h;unfold W at hw;omega
 refine⟨fun h=>?_,fun h=>ap0 (show¬(0:Int)<=((n:Nat):Int) from oj h) az7⟩;have mR:w<=4:=by unfold W at hw;omega
 refine⟨az7,⟨az7,az7,az7⟩,?_,?_⟩
 .rw[ao.1];omega
 refine⟨_,_,_,bu,rfl,aq1 ?_,trivial,rfl⟩;show((n:Nat):Int) < 1*((2 ^(8*((w:Nat):Int)).toNat:Nat):Int);rw[ao.1];omega
def hJ (w:Nat) (l:aD3):aD2:=l.flatMap fun n=>fV n w
def vZ (w:Nat) (l:aD3):(hJ w l).length=l.length*w:=by
 induction l with
 |nil=>simp[hJ]
 |cons n l bl=>
  simp only[hJ,az2,ap3,as9,p4] at bl⊢;rw[bl,aw7];omega
def TO (w:Nat) {l:aD3} {k:Nat} (h:k < l.length):hJ w (l.take (k+1))=hJ w (l.take k)++fV l[k] w:=by unfold hJ;rw[<-uD h,List.flatMap_append];simp
def tb (l:aD3):List Int:=l.map Int.ofNat
abbrev uE (l:aD3):List (aa nX):=tb l
abbrev TP (l:aD3) (w r k:Nat):aW:=[(0,eX r),(1,ab (w:Nat)),(2,b0 nX (uE l)),(17,b0 nX (uE l)),(18,ab (l.length:Nat)),(19,ab (k:Nat))]
abbrev TQ (l:aD3) (w r k:Nat):aW:=[(0,eX r),(1,ab (w:Nat)),(29,b0 nX (uE l)),(30,ab (l.length:Nat)),(31,ab (k:Nat))]
abbrev Gy (l:aD3) (w r k n i:Nat):aW:=[(0,eX r),(1,ab (w:Nat)),(11,ab (n:Nat)),(29,b0 nX (uE l)),(30,ab (l.length:Nat)),(31,ab (k:Nat)),(35,ab (w:Nat)),(36,ab (i:Nat))]
abbrev pj (r:Nat) (l:aD2):av:=[(r,.row 5 .u8 l)]
def Gz {l:aD3} {k:Nat} (h:k < l.length):fi (uE l) k=some ((l[k]:Nat):Int):=by show(tb l)[k]? =some _;unfold tb;rw[ar1,ao7 h];rfl
def TR (xs ys:aD2) (n i:Nat) (w:Nat) (aG:i < w):(xs++(fV n w).take i)++[r7 n (w - 1 - i)]=xs++(fV n w).take (i+1):=by
 have ak:=p4 n w;rw[av2,<-uD (by omega:i < (fV n w).length)]
 congr 2
 have:=TL n w i aG;rw[ao7 az7] at this;injection this with this
 rw[this]
def C0 (xs:aD2) (w:Nat) (l:aD3) (hw:W w) (hf: ∀n,n∈l->n < 256 ^w) (ak:l.length<=1000) (hx:xs.length<=1000000000):
  Fn prog 104 [eX 1001,ab (w:Nat),b0 nX (uE l)] (pj 1001 xs) [1002] (.cm [.one (.own 1002),.one (.d (.bool true))]) (pj 1002 (xs++hJ w l)):=by
 have mR:w<=4:=by unfold W at hw;omega
 have vR:List.length (uE l)=l.length:=show(tb l).length=_ by unfold tb;exact aq3 _
 refine aU [] func104 ?_;refine az (Mg w hw) <| dR <| ed [] (X:=Nat) (TP l w 2001) (fun _=>pj 2001 xs) (fun k=>k<=l.length) (fun k=>l.length - k) 0 (ap9 _) ?_ ?_
 .exact ac.trans (ac.a7 1001 2001 rfl) (ac.sub ⟨rfl,rfl,rfl,rfl,ap1 Int.ofNat vR,rfl,trivial⟩ aE)
 intro k Z;refine⟨fun h=>?_,fun h=>?_⟩
 .have cl:k < l.length:=aA6
  exact⟨az7,((l[k]:Nat):Int),Gz cl,az (TN l[k] w hw (hf _ (ar4 cl))) <| dR ⟨az7,k+1,cl,az7,ac.sub aE aE⟩⟩
 clear h Z;refine ed [] (X:=Nat) (TQ l w 2001) (fun k=>pj 2001 (xs++hJ w (l.take k))) (fun k=>k<=l.length) (fun k=>l.length - k) 0 (ap9 _) ?_ ?_
 .exact ac.sub ⟨rfl,rfl,rfl,ap1 Int.ofNat vR,rfl,trivial⟩ ⟨ap1 (fun l=>some (ba.row _ .u8 l)) (at3 xs).symm,trivial⟩
 intro k Z;refine⟨fun h=>?_,fun h=>?_⟩
 .have cl:k < l.length:=aA6
  have ax:=TO w cl;have hn:=hf _ (ar4 cl);have bZ:=vZ w (l.take k);have Oq:(l.take k).length*w<=1000*4:=au6 aB8 mR;refine⟨az7,((l[k]:Nat):Int),Gz cl,?_⟩;generalize l[k]=n at*;generalize hJ w (l.take k)=ys at*;have ajw:n < 4294967296:=aq8 hn (by rcases hw with rfl |rfl |rfl <;>decide);refine ed [] (X:=Nat) (Gy l w 2001 k n) (fun i=>pj 2001 ((xs++ys)++(fV n w).take i)) (fun i=>i<=w) (fun i=>w - i) 0 (ap9 _) ?_ ?_
  .exact ac.sub aE ⟨ap1 (fun l=>some (ba.row _ .u8 l)) (at3 (xs++ys)).symm,trivial⟩
  intro i aG;refine⟨fun h=>?_,fun h=>?_⟩
  .have dC:i < w:=by
    have h:(i:Int) < (w:Int):=gd h;omega
   have af:(8*((w:Int) - 1 - (i:Int))).toNat=8*(w - 1 - i):=aA5
   have m1: -9223372036854775808<=(w:Int) - 1/\(w:Int) - 1<=9223372036854775807:=aA5
   have m2: -9223372036854775808<=(w:Int) - 1 - (i:Int)/\(w:Int) - 1 - (i:Int)<=9223372036854775807:=aA5
   have m3: -9223372036854775808<=8*((w:Int) - 1 - (i:Int))/\8*((w:Int) - 1 - (i:Int))<=9223372036854775807:=aA5
   have jf:0<=(n:Int)/\0<=8*((w:Int) - 1 - (i:Int))/\8*((w:Int) - 1 - (i:Int))<=64:=aA5
   refine⟨m1,m2,m3,jf,⟨Int.emod_nonneg _ az8,Int.emod_lt_of_pos _ az8⟩,?_,rfl,?_⟩
   .show((xs++ys)++(fV n w).take i).length+1<=4294967296;rw[ap3,ap3,aq0];omega
   refine⟨az7,i+1,dC,az7,ac.trans (ac.sub (K':=Gy l w 49 k n (i+1)) (B':=pj 49 ((xs++ys)++(fV n w).take (i+1))) aE ⟨ap1 (fun l=>some (ba.row _ .u8 l)) ?_,trivial⟩) (ac.a7 49 2001 rfl)⟩;rw[<-TR (xs++ys) [] n i w dC,<-TM,<-af];rfl
  .have dC:i=w:=by
    have h: ¬(i:Int) < (w:Int):=oj h;omega
   subst dC;refine⟨az7,k+1,cl,az7,ac.sub aE ⟨?_,trivial⟩⟩;rw[ax,au0 (by rw[p4];omega),av2];rfl
 have cl:k=l.length:=by
     have: ¬k < l.length:=aA6
     omega
 subst cl;rw[ar2];exact⟨_,_,_,ac.a7 2001 1002 rfl,rfl,aE,aE,rfl⟩
def TS (w:Nat) (l:aD3) (hw:W w) (hf: ∀n,n∈l->n < 256 ^w) (ak:l.length<=1000):
  Fn prog 104 [mH .dc,ab (w:Nat),b0 nX (uE l)] [] [1002] (.cm [.one (.own 1002),.one (.d (.bool true))]) (pj 1002 (hJ w l)):=by
 have mR:w<=4:=by unfold W at hw;omega
 have vR:List.length (uE l)=l.length:=show(tb l).length=_ by unfold tb;exact aq3 _
 obtain⟨xs,rC⟩: ∃xs:aD2,xs=[]:=⟨_,rfl⟩;have hx:xs.length<=1000000000:=by rw[rC];decide
 rw[show hJ w l=xs++hJ w l by rw[rC];rfl];refine aU [] func104 ?_;refine az (Mg w hw) <| dR <| ed [] (X:=Nat) (TP l w 2001) (fun _=>pj 2001 xs) (fun k=>k<=l.length) (fun k=>l.length - k) 0 (ap9 _) ?_ ?_
 .exact ac.trans (ac.nil 0 2001 5 .u8 rfl rfl) (ac.sub ⟨rfl,rfl,rfl,rfl,ap1 Int.ofNat vR,rfl,trivial⟩ ⟨ap1 (fun l=>some (ba.row _ .u8 l)) rC.symm,trivial⟩)
 intro k Z;refine⟨fun h=>?_,fun h=>?_⟩
 .have cl:k < l.length:=aA6
  exact⟨az7,((l[k]:Nat):Int),Gz cl,az (TN l[k] w hw (hf _ (ar4 cl))) <| dR ⟨az7,k+1,cl,az7,ac.sub aE aE⟩⟩
 clear h Z;refine ed [] (X:=Nat) (TQ l w 2001) (fun k=>pj 2001 (xs++hJ w (l.take k))) (fun k=>k<=l.length) (fun k=>l.length - k) 0 (ap9 _) ?_ ?_
 .exact ac.sub ⟨rfl,rfl,rfl,ap1 Int.ofNat vR,rfl,trivial⟩ ⟨ap1 (fun l=>some (ba.row _ .u8 l)) (at3 xs).symm,trivial⟩
 intro k Z;refine⟨fun h=>?_,fun h=>?_⟩
 .have cl:k < l.length:=aA6
  have ax:=TO w cl;have hn:=hf _ (ar4 cl);have bZ:=vZ w (l.take k);have Oq:(l.take k).length*w<=1000*4:=au6 aB8 mR;refine⟨az7,((l[k]:Nat):Int),Gz cl,?_⟩;generalize l[k]=n at*;generalize hJ w (l.take k)=ys at*;have ajw:n < 4294967296:=aq8 hn (by rcases hw with rfl |rfl |rfl <;>decide);refine ed [] (X:=Nat) (Gy l w 2001 k n) (fun i=>pj 2001 ((xs++ys)++(fV n w).take i)) (fun i=>i<=w) (fun i=>w - i) 0 (ap9 _) ?_ ?_
  .exact ac.sub aE ⟨ap1 (fun l=>some (ba.row _ .u8 l)) (at3 (xs++ys)).symm,trivial⟩
  intro i aG;refine⟨fun h=>?_,fun h=>?_⟩
  .have dC:i < w:=by
    have h:(i:Int) < (w:Int):=gd h;omega
   have af:(8*((w:Int) - 1 - (i:Int))).toNat=8*(w - 1 - i):=aA5
   have m1: -9223372036854775808<=(w:Int) - 1/\(w:Int) - 1<=9223372036854775807:=aA5
   have m2: -9223372036854775808<=(w:Int) - 1 - (i:Int)/\(w:Int) - 1 - (i:Int)<=9223372036854775807:=aA5
   have m3: -9223372036854775808<=8*((w:Int) - 1 - (i:Int))/\8*((w:Int) - 1 - (i:Int))<=9223372036854775807:=aA5
   have jf:0<=(n:Int)/\0<=8*((w:Int) - 1 - (i:Int))/\8*((w:Int) - 1 - (i:Int))<=64:=aA5
   refine⟨m1,m2,m3,jf,⟨Int.emod_nonneg _ az8,Int.emod_lt_of_pos _ az8⟩,?_,rfl,?_⟩
   .show((xs++ys)++(fV n w).take i).length+1<=4294967296;rw[ap3,ap3,aq0];omega
   refine⟨az7,i+1,dC,az7,ac.trans (ac.sub (K':=Gy l w 49 k n (i+1)) (B':=pj 49 ((xs++ys)++(fV n w).take (i+1))) aE ⟨ap1 (fun l=>some (ba.row _ .u8 l)) ?_,trivial⟩) (ac.a7 49 2001 rfl)⟩;rw[<-TR (xs++ys) [] n i w dC,<-TM,<-af];rfl
  .have dC:i=w:=by
    have h: ¬(i:Int) < (w:Int):=oj h;omega
   subst dC;refine⟨az7,k+1,cl,az7,ac.sub aE ⟨?_,trivial⟩⟩;rw[ax,au0 (by rw[p4];omega),av2];rfl
 have cl:k=l.length:=by
     have: ¬k < l.length:=aA6
     omega
 subst cl;rw[ar2];exact⟨_,_,_,ac.a7 2001 1002 rfl,rfl,aE,aE,rfl⟩
end
section
def jR (s:aD2) (w:Nat):aD2:=fV s.length w++s
def GA (s:aD2) (w:Nat):(jR s w).length=w+s.length:=by unfold jR;rw[ap3,p4]
def Mh (xs s:aD2) (w:Nat) (hw:W w) (ax:s.length < 256 ^w) (ak:s.length<=1000000000) (hx:xs.length<=1000000000):
  Fn prog 154 [eX 1001,bS s,ab (w:Nat)] (pj 1001 xs) [1002] (.cm [.one (.own 1002),.one (.d (.bool true))]) (pj 1002 (xs++jR s w)):=by
 have mR:w<=4:=by unfold W at hw;omega
 have x1:=vZ w [s.length];refine aU [] func154 ?_;refine az (Fn.a7 [(1002,2002)] (C0 xs w [s.length] hw (fun n hn=>by simp only[aq6] at hn;subst hn;exact ax) az9 hx)) <| dR ⟨?_,rfl,?_⟩
 .show(xs++hJ w [s.length]).length+s.length<=4294967296;rw[ap3,x1,List.length_singleton];omega
 refine⟨_,_,_,ac.a7 24 1002 rfl,rfl,aE,⟨ap1 (fun l=>some (ba.row _ .u8 l)) ?_,trivial⟩,rfl⟩;show(xs++hJ w [s.length])++s=xs++jR s w;unfold hJ jR;simp
end
section
def kD (p:j8):aD2:=fV (gb p).toNat 2++jR (lW p) 2
def j9 (b:b9):aD2:=jR (eo b) 1++jR (dn b) 1++fV (c2 b).toNat 1++fV (ep b).toNat 2++fV (cB b).length 2++(cB b).flatMap kD
def j' (L:aE6):aD2:=fV L.length 1++L.flatMap j9
structure v1 (b:b9):Prop where
 nm:(eo b).length<=255
 pa:(dn b).length<=255
 bits:0<=c2 b/\c2 b<=255
 aR:0<=ep b/\ep b<=65535
 TT:(cB b).length<=256
 TU: ∀p,p∈cB b->0<=gb p/\gb p<=65535/\(lW p).length<=128
def TV {b:b9} (h:v1 b) {p:j8} (ao:p∈cB b):(kD p).length<=132:=by have:=h.TU p ao;unfold kD;rw[ap3,p4,GA];omega
def C1 {α:Type} (f:α->aD2) (n:Nat): ∀(l:List α),(∀x,x∈l->(f x).length<=n)->(l.flatMap f).length<=l.length*n
 | [],_=>by simp
 |x::l,h=>by
  have E:=h x aq4;have G:=C1 f n l fun y aC=>h y (ap4 _ aC)
  simp only[az2,ap3,as9,aw7];omega
def TW {b:b9} (h:v1 b):(j9 b).length<=35000:=by
 have E:=C1 kD 132 (cB b) fun p ao=>TV h ao
 have G:(cB b).length*132<=256*132:=av5 _ h.TT;have:=h.nm;have:=h.pa;unfold j9;simp only[ap3,p4,GA];omega
def TX {α:Type} (f:α->aD2) {l:List α} {k:Nat} (h:k < l.length):(l.take (k+1)).flatMap f=(l.take k).flatMap f++f l[k]:=by rw[<-uD h,List.flatMap_append];simp
def Mi {x:Int} (h:0<=x):([x]:aE5)=tb [x.toNat]:=by show[x]=[((x.toNat:Nat):Int)];rw[show((x.toNat:Nat):Int)=x by omega]
abbrev TY (L:aE6) (r k:Nat):aW:=[(3,eX r),(22,eX 1002),(23,ab (L.length:Nat)),(24,ab (k:Nat))]
abbrev C2 (L:aE6) (r:Nat) (l:aD2):av:=(r,.row 5 .u8 l)::kT L
abbrev Mj (L:aE6) (b:b9) (r k j:Nat):aW:=[(3,eX r),(22,eX 1002),(23,ab (L.length:Nat)),(24,ab (k:Nat)),(62,b0 nU (cB b)),(63,ab ((cB b).length:Nat)),(64,ab (j:Nat))]
def TZ (L:aE6) (cP:L.length<=255) (hw: ∀b,b∈L->v1 b):Fn prog 94 [ap 1001] (kT L) [] (b0 .u8 (j' L)) (kT L):=by
 refine aU [] func94 ?_;refine az (Fn.a7 [(1002,2002)] (TS 1 [L.length] (.inl rfl) (fun n hn=>by simp only[aq6] at hn;omega) az9)) <| ed [] (X:=Nat) (TY L 2001) (fun k=>C2 L 2001 (fV L.length 1++(L.take k).flatMap j9)) (fun k=>k<=L.length) (fun k=>L.length - k) 0 (ap9 _) ?_ ?_
 .exact ac.trans (cH (TY L 2002 0) (C2 L 2002 (fV L.length 1++(L.take 0).flatMap j9))) (ac.a7 2002 2001 rfl)
 intro k Z
 have Ks:((L.take k).flatMap j9).length<=255*35000:=by
  refine av9 (C1 j9 35000 _ fun b O=>TW (hw b (List.mem_of_mem_take O))) (av5 _ ?_);rw[aq0];omega
 refine⟨fun h=>?_,fun h=>?_⟩
 .have cl:k < L.length:=aA6
  have ax:=TX j9 cl;have O:=hw _ (ar4 cl);refine⟨⟨az7,az7⟩,L[k],p3 rfl cl,rfl,?_⟩;generalize L[k]=b at*;have E:=O.nm;have G:=O.pa;have ag:=O.bits;have aS:=O.aR;have bG:=O.TT;have uu:=p4 L.length 1;generalize eR:fV L.length 1++(L.take k).flatMap j9=A at*;have aoT:A.length<=9000000:=by rw[<-eR,ap3,uu];omega
  refine az (Fn.a7 [(1001,2001),(1002,2002)] (Mh A (eo b) 1 (.inl rfl) az7 az7 az7)) ?_;have jX:=GA (eo b) 1;refine az (Fn.a7 [(1001,2002),(1002,2003)] (Mh (A++jR (eo b) 1) (dn b) 1 (.inl rfl) az7 az7 (by rw[ap3,jX];omega))) ?_;have hi:=GA (dn b) 1;refine az (Fn.arg (Fn.a7 [(1001,2003),(1002,2004)] (C0 (A++jR (eo b) 1++jR (dn b) 1) 1 [(c2 b).toNat] (.inl rfl) (fun n hn=>by simp only[aq6] at hn;omega) az9 (by rw[ap3,ap3,jX,hi];omega))) ⟨rfl,rfl,Mi ag.1,trivial⟩) ?_;have sJ:=vZ 1 [(c2 b).toNat]
  have al:([ep b,((cB b).length:Int)]:List Int)=tb [(ep b).toNat,(cB b).length]:=by
   show _=[(((ep b).toNat:Nat):Int),(((cB b).length:Nat):Int)];rw[show(((ep b).toNat:Nat):Int)=ep b by omega]
  refine⟨_,_,_,_,Fn.arg (Fn.a7 [(1001,2004),(1002,2005)] (C0 (A++jR (eo b) 1++jR (dn b) 1++hJ 1 [(c2 b).toNat]) 2 [(ep b).toNat,(cB b).length] (.inr (.inl rfl)) (fun n hn=>by
   simp only[ap7,List.not_mem_nil,or_false] at hn;rcases hn with rfl |rfl <;>omega) az9 (by rw[ap3,ap3,ap3,jX,hi,sJ];simp;omega))) ⟨rfl,rfl,al,trivial⟩,aE,rfl,?_⟩
  have tX:=vZ 2 [(ep b).toNat,(cB b).length]
  have a2:A++jR (eo b) 1++jR (dn b) 1++hJ 1 [(c2 b).toNat]++hJ 2 [(ep b).toNat,(cB b).length]++(cB b).flatMap kD=A++j9 b:=by
   unfold j9 hJ;simp[av2]
  have aoU:(A++jR (eo b) 1++jR (dn b) 1++hJ 1 [(c2 b).toNat]++hJ 2 [(ep b).toNat,(cB b).length]).length<=9100000:=by
   rw[ap3,ap3,ap3,ap3,jX,hi,sJ,tX];simp;omega
  generalize A++jR (eo b) 1++jR (dn b) 1++hJ 1 [(c2 b).toNat]++hJ 2 [(ep b).toNat,(cB b).length]=An at*;refine ed [] (X:=Nat) (Mj L b 2001 k) (fun j=>C2 L 2001 (An++((cB b).take j).flatMap kD)) (fun j=>j<=(cB b).length) (fun j=>(cB b).length - j) 0 (ap9 _) ?_ ?_
  .exact ac.trans (ac.sub (K':=Mj L b 2005 k 0) (B':=C2 L 2005 (An++((cB b).take 0).flatMap kD)) aE ⟨ap1 (fun l=>some (ba.row _ .u8 l)) (at3 An).symm,rfl,rfl,trivial⟩) (ac.a7 2005 2001 rfl)
  intro j V;refine⟨fun h=>?_,fun h=>?_⟩
  .have fg:j < (cB b).length:=aA6
   have f0:=TX kD fg;obtain⟨d0,cU,dB⟩:=O.TU _ (ar4 fg)
   have gM:(((cB b).take j).flatMap kD).length<=256*132:=by
    refine av9 (C1 kD 132 _ fun p ao=>TV O (List.mem_of_mem_take ao)) (av5 _ ?_);rw[aq0];omega
   refine⟨az7,(cB b)[j],p3 rfl fg,rfl,?_⟩;generalize(cB b)[j]=p at*;generalize((cB b).take j).flatMap kD=T0 at*;refine az (Fn.arg (Fn.a7 [(1001,2001),(1002,2002)] (C0 (An++T0) 2 [(gb p).toNat] (.inr (.inl rfl)) (fun n hn=>by simp only[aq6] at hn;omega) az9 (by rw[ap3];omega))) ⟨rfl,rfl,Mi d0,trivial⟩) ?_;have ajx:=vZ 2 [(gb p).toNat];refine az (Fn.a7 [(1001,2002),(1002,2003)] (Mh (An++T0++hJ 2 [(gb p).toNat]) (lW p) 2 (.inr (.inl rfl)) az7 az7 (by rw[ap3,ap3,ajx];simp;omega))) ⟨az7,j+1,fg,az7,ac.trans (ac.sub (K':=Mj L b 2003 k (j+1)) (B':=C2 L 2003 (An++((cB b).take (j+1)).flatMap kD)) aE ⟨?_,rfl,rfl,trivial⟩) (ac.a7 2003 2001 rfl)⟩;rw[f0];refine ap1 (fun l=>some (ba.row _ .u8 l)) ?_;unfold kD hJ;simp[av2];rfl
  .have fg:j=(cB b).length:=by
      have: ¬j < (cB b).length:=aA6
      omega
   subst fg;rw[ar2];refine⟨az7,k+1,cl,az7,ac.sub aE ⟨?_,rfl,rfl,trivial⟩⟩;rw[ax,<-av2,eR,a2];rfl
 .have cl:k=L.length:=by
     have: ¬k < L.length:=aA6
     omega
  subst cl;exact⟨_,_,_,ac.dX 2001 rfl,rfl,(show fV L.length 1++(L.take L.length).flatMap j9=j' L by rw[ar2];rfl),aE,rfl⟩
end
section
end
section
abbrev fv:Type:=aD2×Int
def lX (n:Nat) (st:fv):aD2:=if st.2≠0\/st.1.length < n then[] else st.1.take n
def na (n:Nat) (st:fv):fv:=if st.2≠0 then st else if st.1.length < n then(st.1,10) else(st.1.drop n,0)
def nY (l:aD2):Nat:=l.foldl (fun a c=>a*256+c.toNat) 0
def Mk (l:aD2) (c:UInt8):nY (l++[c])=nY l*256+c.toNat:=by simp[nY,ax4]
def Ml (l:aD2):nY l < 256 ^l.length:=by
 have: ∀(l:aD2),nY l.reverse < 256 ^l.length:=fun l=>by
  induction l with
  |nil=>simp[nY]
  |cons c l bl=>
   rw[List.reverse_cons,Mk,as9,Nat.pow_succ];have:=c.toNat_lt;omega
 have h:=this l.reverse;simpa using h
def T1 (n:Nat) (st:fv):(lX n st).length<=n:=by
 unfold lX
 split
 .simp
 .rw[aq0];omega
def fm (w:Nat) (st:fv):fv×Nat:=(na w st,nY (lX w st))
def p5 (w:Nat) (st:fv):fv×aD2:=(na (fm w st).2 (fm w st).1,lX (fm w st).2 (fm w st).1)
abbrev pk (st:fv):av:=[(1001,.cells [.d (.cr .u8 st.1),.d (.int .i64 st.2)])]
def T2 (b:aD2) (O:b.length<=4294967296):Fn prog 52 [b0 .u8 b] [] [1001] (ap 1001) (pk (b,0)):=by
 refine aU [] func52 ?_;refine⟨rfl,?_,rfl,?_⟩
 .show 0+b.length<=4294967296;omega
 exact⟨rfl,_,_,_,ac.trans (ac.dX 5 rfl) (ac.a7 7 1001 rfl),rfl,rfl,aE,rfl⟩
def ajy (s:aD2) (e k:Int):Fn prog 175 [ab k,ap 1002] [(1001,.cells [.d (.cr .u8 s),.d (.int .i64 e)]),(1002,.cells [.ptr 1001 0])] [] (b0 .u8 []) [(1001,.cells [.d (.cr .u8 s),.d (.int .i64 (if e=0 then k else e))]),(1002,.cells [.ptr 1001 0])]:=by
 refine aU [] func175 ?_;refine⟨fun h=>?_,fun h=>?_⟩
 .rw[vj (show e=0 from gd h)];exact bd
 .rw[mu (show¬e=0 from oj h)];exact bd
def T3 (st:fv) (n:Nat):Fn prog 111 [ap 1001,ab (n:Nat),gT false] (pk st) [] (b0 .u8 (lX n st)) (pk (na n st)):=by
 obtain⟨s,e⟩:=st;refine aU [] func111 ?_;refine⟨rfl,fun h=>?_,fun E=>?_⟩
 .have h:(!decide (e=0))=true:=h;have U: ¬e=0:=aA6
  have hx:lX n (s,e)=[]:=by unfold lX;rw[vj (.inl U)]
  have ax:na n (s,e)=(s,e):=by unfold na;rw[vj U]
  rw[hx,ax];exact bd
 have E:(!decide (e=0))=false:=E;have U:e=0:=aC9
 subst U;refine dR ⟨fun h=>?_,fun h=>?_⟩
 .have h:(s.length:Int) < (n:Int):=gd h;have hx:lX n (s,0)=[]:=by unfold lX;rw[vj (.inr (by show s.length < n;omega))]
  have ax:na n (s,0)=(s,10):=by unfold na;rw[mu az9,vj (by show s.length < n;omega)]
  rw[hx,ax];exact az (Fn.a7 [(1002,3)] (ajy s 0 10)) bd
 .have h: ¬(s.length:Int) < (n:Int):=oj h
  have hx:lX n (s,0)=s.take n:=by
   unfold lX;rw[mu aB1]
  have ax:na n (s,0)=(s.drop n,0):=by unfold na;rw[mu az9,mu (by show¬s.length < n;omega)]
  rw[hx,ax];have m1:0<=(n:Int)/\(n:Int)<=(s.length:Int):=aA5
  refine⟨m1,m1,rfl,_,_,_,bu,rfl,rfl,⟨ap1 (fun l:aD2=>some (ba.cells [bw.d (D.cr bz.u8 l),bw.d (D.int IntKind.i64 0)])) ?_,trivial⟩,rfl⟩;show(List.take s.length s).drop ((n:Int)).toNat=s.drop n;rw[ar2];rfl
def ajz (a:Nat) (c:UInt8):(a*256) ||| c.toNat=a*256+c.toNat:=by have h:c.toNat < 2 ^8:=c.toNat_lt;have:=Nat.shiftLeft_add_eq_or_of_lt h a;rw[Nat.shiftLeft_eq] at this;exact this.symm
def uF (st:fv) (w:Nat) (hw:W w):Fn prog 54 [ap 1001,ab (w:Nat)] (pk st) [] (ab ((fm w st).2:Nat)) (pk (fm w st).1):=by
 have mR:w<=4:=by unfold W at hw;omega
 have ak:=T1 w st;have cq:=T3 st w;show Fn _ _ _ _ _ (ab ((nY (lX w st):Nat):Int)) (pk (na w st));generalize lX w st=x at*;generalize na w st=ajA at*;have aoV:nY x < 4294967296:=aq8 (Ml x) (av9 (ay6 az8 (show x.length<=4 by omega)) az8);refine aU [] func54 ?_;refine az (Mg w hw) <| az cq ⟨fun h=>ap0 (show(x.length:Int)=8 from gd h) az7,fun _=>ed [] (X:=Nat) (fun i=>[(5,ab ((nY (x.take i):Nat):Int)),(27,b0 .u8 x),(28,ab (x.length:Nat)),(29,ab (i:Nat))]) (fun _=>pk ajA) (fun i=>i<=x.length) (fun i=>x.length - i) 0 (ap9 _) ?_ ?_⟩
 .exact ac.sub aE aE
 intro i aG;refine⟨fun h=>?_,fun h=>?_⟩
 .have dC:i < x.length:=by
   have h:(i:Int) < (x.length:Int):=gd h;omega
  have ax:nY (x.take (i+1))=nY (x.take i)*256+(x[i]).toNat:=by rw[<-uD dC,Mk]
  have iZ:=Ml (x.take i);have xM:256 ^(x.take i).length<=256 ^3:=ay6 az8 aB8;have J:=(x[i]).toNat_lt;refine⟨az7,x[i],p3 rfl dC,?_⟩;generalize x[i]=c at*;generalize nY (x.take i)=a at*;have ajB:=ajz a c
  have af:((a:Int)*((2 ^(8:Int).toNat:Nat):Int)).toNat=a*256:=by
   show((a:Int)*256).toNat=_;omega
  have m1:0<=(a:Int)/\(0:Int)<=8/\(8:Int)<=64:=aA5
  have m2: -9223372036854775808<=(a:Int)*((2 ^(8:Int).toNat:Nat):Int)/\(a:Int)*((2 ^(8:Int).toNat:Nat):Int)<=9223372036854775807:=by
   show -9223372036854775808<=(a:Int)*256/\(a:Int)*256<=9223372036854775807;omega
  have m3: -9223372036854775808<=(c.toNat:Int)/\(c.toNat:Int)<=9223372036854775807:=aA5
  have jf:0<=(a:Int)*((2 ^(8:Int).toNat:Nat):Int)/\(a:Int)*((2 ^(8:Int).toNat:Nat):Int)<=9223372036854775807/\0<=(c.toNat:Int)/\(c.toNat:Int)<=9223372036854775807:=by
   show 0<=(a:Int)*256/\(a:Int)*256<=9223372036854775807/\_;omega
  refine⟨m1,m2,m3,jf,az7,i+1,dC,az7,ac.sub ⟨?_,rfl,rfl,rfl,trivial⟩ aE⟩;show(((((a:Int)*((2 ^(8:Int).toNat:Nat):Int)).toNat ||| ((c.toNat:Int)).toNat:Nat)):Int)=((nY (x.take (i+1)):Nat):Int);rw[ax,af,ax9,ajB]
 .have dC:i=x.length:=by
   have h: ¬(i:Int) < (x.length:Int):=oj h;omega
  subst dC;exact er bu rfl (show((nY (x.take x.length):Nat):Int)=_ by rw[ar2])
def Mm (st:fv) (w:Nat) (hw:W w):Fn prog 55 [ap 1001,ab (w:Nat)] (pk st) [] (bS (p5 w st).2) (pk (p5 w st).1):=by have E:=uF st w hw;have G:=T3 (fm w st).1 (fm w st).2;show Fn _ _ _ _ _ (bS (lX (fm w st).2 (fm w st).1)) (pk (na (fm w st).2 (fm w st).1));generalize(fm w st).2=n at*;generalize(fm w st).1=T4 at*;generalize lX n T4=x at*;generalize na n T4=aoW at*;refine aU [] func55 ?_;exact az E <| az (Fn.arg G aE) bd
def ajC (st:fv):Fn prog 56 [ap 1001] (pk st) [] (ab st.2) (pk st):=by refine aU [] func56 ?_;exact bd
def q4 (st:fv):Int:=if st.2=0/\0 < st.1.length then 11 else st.2
def ajD (st:fv):Fn prog 106 [ap 1001] (pk st) [] (ab (q4 st)) (pk st):=by
 obtain⟨s,e⟩:=st;refine aU [] func106 ?_;refine⟨fun h=>?_,fun h=>?_⟩
 .have U:e=0:=gd h;refine⟨fun h=>?_,fun h=>?_⟩
  .have h:(0:Int) < (s.length:Int):=gd h;have:q4 (s,e)=11:=by unfold q4;rw[vj ⟨U,by show 0 < s.length;omega⟩]
   rw[this];exact bd
  .have h: ¬(0:Int) < (s.length:Int):=oj h;have:q4 (s,e)=e:=by unfold q4;rw[mu (fun bf=>by have G:0 < s.length:=bf.2;omega)]
   rw[this];exact bd
 .have U: ¬e=0:=oj h;have:q4 (s,e)=e:=by unfold q4;rw[mu (fun bf=>U bf.1)]
  rw[this];exact bd
end
section
end
section
def T5 (n:Nat): ∀k,fV n (k+1)=fV (n/256) k++[r7 n 0]
 |0=>rfl
 |k+1=>by
  show r7 n (k+1)::fV n (k+1)=r7 (n/256) k::fV (n/256) k++[r7 n 0];rw[T5 n k,List.cons_append]
  congr 1
  unfold r7;rw[Nat.div_div_eq_div_mul,Nat.pow_succ,ax5 256]
def ajE (n:Nat): ∀k,n < 256 ^k->nY (fV n k)=n:=by
 intro k
 induction k generalizing n with
 |zero=>intro h;simp at h;subst h;rfl
 |succ k bl=>
  intro h;rw[T5,Mk,bl (n/256) (by rw[Nat.pow_succ] at h;omega)];unfold r7;rw[Nat.pow_zero,Nat.div_one,UInt8.toNat_ofNat'];omega
def T6 (x t:aD2):na x.length (x++t,0)=(t,0)/\lX x.length (x++t,0)=x:=by unfold na lX;rw[mu az9,mu az9,mu az9];exact⟨az9,az9⟩
def Ao {n w:Nat} (h:n < 256 ^w) (t:aD2):fm w (fV n w++t,0)=((t,0),n):=by have:=T6 (fV n w) t;rw[p4] at this;unfold fm;rw[this.1,this.2,ajE n w h]
def Mn {w:Nat} {x:aD2} (h:x.length < 256 ^w) (t:aD2):p5 w (jR x w++t,0)=((t,0),x):=by
 have E:fm w (jR x w++t,0)=((x++t,0),x.length):=by
  unfold jR;rw[av2];exact Ao h _
 have:=T6 x t;unfold p5;rw[E];simp only;rw[this.1,this.2]
def uG (st:fv):fv×vY:=((p5 2 (fm 2 st).1).1,(((fm 2 st).2:Int),(p5 2 (fm 2 st).1).2))
def gZ (st:fv):Nat->fv×List vY
 |0=>(st,[])
 |k+1=>((uG (gZ st k).1).1,(gZ st k).2++[(uG (gZ st k).1).2])
def E (st:fv):=p5 1 st
def G (st:fv):=p5 1 (E st).1
def ag (st:fv):=fm 1 (G st).1
def aS (st:fv):=fm 2 (ag st).1
def bG (st:fv):=fm 2 (aS st).1
def T7 (st:fv) (l:List vY):my:=((E st).2,(G st).2,((ag st).2:Int),((aS st).2:Int),l)
def jS (st:fv):fv×my:=((gZ (bG st).1 (bG st).2).1,T7 st (gZ (bG st).1 (bG st).2).2)
def nZ (lv:fv):Nat->Option (List my×fv)
 |0=>some ([],lv)
 |k+1=>match nZ lv k with
  |none=>none
  |some (l,st)=>if(jS st).1.2=0/\gy (l.map jz) (jz (jS st).2)=0 then some (l++[(jS st).2],(jS st).1) else none
def x2 (s:aD2):Option (List my):=match nZ (fm 1 (s,0)).1 (fm 1 (s,0)).2 with
 |none=>none
 |some (l,st)=>if q4 st=0 then some l else none
def GB {L:aE6} (aZ:nW L) {b:b9} (O:b∈L):v1 b:=by
 have nm: ∀x,x∈L->(eo x).length<=15:=fun x hx=>by
  have:=aZ.right x hx;simp only[hb,gN,ao8,as1] at this;omega
 have aw:=aZ.right b O;obtain⟨bR,b',a3,a4⟩:=CX aw;have a5:=ajq aw;have ft:=Ty aw;refine⟨by have:=nm b O;omega,?_,az7,az7,ft,fun p ao=>?_⟩
 .by_cases ao:dn b=[]
  .rw[ao];decide
  .obtain⟨x,hx⟩:=Gx (ajp aZ O ao);have E:=List.find?_some hx;simp only[as1] at E;have:=nm x (az3 hx);rw[E] at this;omega
 .have:=ajr aw p ao;omega
end
section
def GC (n:Nat) (st:fv):(na n st).1.length<=st.1.length:=by
 unfold na
 split
 .exact ao9 _
 .split
  .exact ao9 _
  .rw[au8];omega
def ajF (n:Nat) (st:fv):(lX n st).length<=st.1.length:=by
 unfold lX
 split
 .simp
 .rw[aq0];omega
def C3 (w:Nat) (st:fv):(fm w st).1.1.length<=st.1.length:=GC w st
def Mo (w:Nat) (st:fv):(p5 w st).1.1.length<=st.1.length/\(p5 w st).2.length<=st.1.length:=
 ⟨av9 (GC _ _) (GC w st),av9 (ajF _ _) (GC w st)⟩
def GD (w:Nat) (hw:w<=4) (st:fv):(fm w st).2 < 256 ^w:=
 aq8 (Ml _) (ay6 az8 (T1 w st))
def T8 (st:fv):(uG st).1.1.length<=st.1.length/\(CY (uG st).2).length<=st.1.length:=by have a:=C3 2 st;have b:=Mo 2 (fm 2 st).1;exact⟨av9 b.1 a,av9 b.2 a⟩
def T9 (st:fv): ∀k,(gZ st k).1.1.length<=st.1.length/\(gZ st k).2.length=k/\ ∀p,p∈(gZ st k).2->(CY p).length<=st.1.length
 |0=>⟨ao9 _,rfl,fun p ao=>by cases ao⟩
 |k+1=>by
  obtain⟨bR,b',a3⟩:=T9 st k;obtain⟨b1,b2⟩:=T8 (gZ st k).1;refine⟨av9 b1 bR,by show((gZ st k).2++[_]).length=_;rw[ap3,b'];rfl,fun p ao=>?_⟩;rcases ar7.1 ao with ao |ao
  .exact a3 p ao
  .simp only[aq6] at ao;subst ao;exact av9 b2 bR
def ajG (st:fv):(E st).1.1.length<=st.1.length/\(G st).1.1.length<=st.1.length/\(ag st).1.1.length<=st.1.length/\(aS st).1.1.length<=st.1.length/\(bG st).1.1.length<=st.1.length/\(E st).2.length<=st.1.length/\(G st).2.length<=st.1.length:=by have a:=Mo 1 st;have b:=Mo 1 (E st).1;have c:=C3 1 (G st).1;have d:=C3 2 (ag st).1;have e:=C3 2 (aS st).1;have bR:(E st).1.1.length<=st.1.length:=a.1;have b1:(G st).1.1.length<=(E st).1.1.length:=b.1;have cy:(ag st).1.1.length<=(G st).1.1.length:=c;have hA:(aS st).1.1.length<=(ag st).1.1.length:=d;have af:(bG st).1.1.length<=(aS st).1.1.length:=e;refine⟨bR,az7,az7,az7,az7,a.2,?_⟩;have:(G st).2.length<=(E st).1.1.length:=b.2;omega
def ajH {lv:fv} {k:Nat} (h:nZ lv k=none): ∀{m:Nat},k<=m->nZ lv m=none:=by
 intro m aD
 induction m with
 |zero=>
    obtain rfl:k=0:=aA5
    exact h
 |succ m bl=>
  rcases ax6 k (m+1) with E |E
  .unfold nZ;rw[bl az7]
  .obtain rfl:k=m+1:=aA5
   exact h
def ajI {s:aD2} {k:Nat} (Z:k<=(fm 1 (s,0)).2) (h:nZ (fm 1 (s,0)).1 k=none):x2 s=none:=by unfold x2;rw[ajH h Z]
def T' {lv:fv} {k:Nat} {l:List my} {st:fv} (h:nZ lv k=some (l,st)) (bf: ¬((jS st).1.2=0/\gy (l.map jz) (jz (jS st).2)=0)):nZ lv (k+1)=none:=by unfold nZ;rw[h];exact mu bf
def Ua {lv:fv} {k:Nat} {l:List my} {st:fv} (h:nZ lv k=some (l,st)) (E:(jS st).1.2=0) (G:gy (l.map jz) (jz (jS st).2)=0):nZ lv (k+1)=some (l++[(jS st).2],(jS st).1):=by
 conv=>lhs;unfold nZ
 rw[h];exact vj ⟨E,G⟩
abbrev Mp (st:fv):Nat×ba:=(2001,.cells [.d (.cr .u8 st.1),.d (.int .i64 st.2)])
abbrev Ub (n k:Nat):aW:=[(4,ap 1001),(5,ap 2001),(11,ab (n:Nat)),(12,ab (k:Nat))]
abbrev ajJ (l:List my) (st:fv):av:=Mp st::Me 1002 (l.map jz)
abbrev Mq (n k m j:Nat):aW:=[(4,ap 1001),(5,ap 2001),(6,ap 6),(11,ab (n:Nat)),(12,ab (k:Nat)),(24,ab (m:Nat)),(25,ab (j:Nat))]
abbrev Fw (st:fv):List bw:=[.d (.str (E st).2),.d (.str (G st).2),.d (.int .i64 ((ag st).2:Nat)),.d (.int .i64 ((aS st).2:Nat))]
abbrev Mr (l:List my) (lv st:fv) (r:Nat) (bE:List j8):av:=(r,.row 128 nU bE)::(6,.cells [.d (.str (E lv).2),.d (.str (G lv).2),.d (.int .i64 ((ag lv).2:Nat)),.d (.int .i64 ((aS lv).2:Nat)),.own r])::Mp st::Me 1002 (l.map jz)
def ajK:aN:=.cm [.one (.bH (.pointer none)),.one (.d (.int .i64 180))]
def ajL:aN:=.cm [.one (.ptr 1001 0),.one (.d (.int .i64 0))]
def ajM (s:aD2) (ax:s.length<=100000000) (d:Option (List my)) (H:x2 s=d):
  match d with
  |some l=>Fn prog 93 [b0 .u8 s] [] [1001,1002] ajL (kT (l.map jz))
  |none=>Fn prog 93 [b0 .u8 s] [] [] ajK []:=by
 cases d
 all_goals
  simp only;refine aU [10] func93 ?_;refine az Tq <| az (Fn.a7 [(1001,2001)] (T2 s az7)) <| az (Fn.a7 [(1001,2001)] (uF (s,0) 1 (.inl rfl))) ?_;have mS:=C3 1 (s,0);have km:=GD 1 az8 (s,0);have y8:=fun k h=>ajI (s:=s) (k:=k) h
  have ajN: ∀l st,nZ (fm 1 (s,0)).1 (fm 1 (s,0)).2=some (l,st)->x2 s=if q4 st=0 then some l else none:=fun l st h=>by unfold x2;rw[h]
  generalize(fm 1 (s,0)).2=n at*;generalize(fm 1 (s,0)).1=lv at*;have mS:lv.1.length<=100000000:=av9 mS ax;have km:n < 256:=by simpa using km
  refine ed [10] (X:=Nat×List my×fv) (fun x=>Ub n x.1) (fun x=>ajJ x.2.1 x.2.2) (fun x=>x.1<=n/\nZ lv x.1=some (x.2.1,x.2.2)/\x.2.2.1.length<=100000000/\(x.2.1.map jz).length<=64) (fun x=>n - x.1) (0,[],lv) ⟨ap9 _,rfl,mS,az9⟩ ?_ ?_
  .exact ac.sub aE aE
  rintro⟨k,l,st⟩ ⟨Z,jJ,h6,mm⟩;simp only at Z jJ h6 mm;refine⟨fun h=>?_,fun h=>?_⟩
  .have cl:k < n:=by
    have h:(k:Int) < (n:Int):=gd h;omega
   obtain⟨bR,b',a3,a4,a5,ft,qp⟩:=ajG st;have aD:=GD 2 az8 (aS st).1;have aD:(bG st).2 < 65536:=aD;have gl:=GD 1 az8 (G st).1;have s2:=GD 2 az8 (ag st).1;refine az (Fn.a7 [(1001,2001)] (Mm st 1 (.inl rfl))) <| az (Fn.a7 [(1001,2001)] (Mm (E st).1 1 (.inl rfl))) <| az (Fn.a7 [(1001,2001)] (uF (G st).1 1 (.inl rfl))) <| az (Fn.a7 [(1001,2001)] (uF (ag st).1 2 (.inr (.inl rfl)))) ⟨rfl,az (Fn.a7 [(1001,2001)] (uF (aS st).1 2 (.inr (.inl rfl)))) <| ed [10] (X:=Nat) (fun j=>Mq n k (bG st).2 j) (fun j=>Mr l st (gZ (bG st).1 j).1 2002 ((gZ (bG st).1 j).2.map r6)) (fun j=>j<=(bG st).2) (fun j=>(bG st).2 - j) 0 (ap9 _) ?_ ?_⟩
   .exact ac.trans (ac.yR 6 4 2002 128 nU rfl rfl rfl) (ac.sub aE aE)
   intro j V;obtain⟨b1,b2,b3⟩:=T9 (bG st).1 j;refine⟨fun h=>?_,fun h=>?_⟩
   .have fg:j < (bG st).2:=by
     have h:(j:Int) < ((bG st).2:Int):=gd h;omega
    have bk:=T8 (gZ (bG st).1 j).1;have uA:(gZ (bG st).1 (j+1)).1=(uG (gZ (bG st).1 j).1).1:=rfl
    have ajO:(gZ (bG st).1 (j+1)).2.map r6=(gZ (bG st).1 j).2.map r6++[r6 (uG (gZ (bG st).1 j).1).2]:=by
     show((gZ (bG st).1 j).2++[_]).map r6=_;rw[au2];rfl
    have fG:(p5 2 (fm 2 (gZ (bG st).1 j).1).1).2.length<=4294967296:=by
     have:(CY (uG (gZ (bG st).1 j).1).2).length<=(gZ (bG st).1 j).1.1.length:=bk.2;have this:(p5 2 (fm 2 (gZ (bG st).1 j).1).1).2.length<=(gZ (bG st).1 j).1.1.length:=this;omega
    refine az (Fn.a7 [(1001,2001)] (uF (gZ (bG st).1 j).1 2 (.inr (.inl rfl)))) <| az (Fn.a7 [(1001,2001)] (Mm (fm 2 (gZ (bG st).1 j).1).1 2 (.inr (.inl rfl)))) ⟨fG,?_,rfl,rfl,?_⟩
    .show((gZ (bG st).1 j).2.map r6).length+1<=4294967296;rw[aq3,b2];omega
    refine⟨az7,j+1,fg,az7,ac.trans (ac.sub (K':=Mq n k (bG st).2 (j+1)) (B':=Mr l st (gZ (bG st).1 (j+1)).1 36 ((gZ (bG st).1 (j+1)).2.map r6)) aE ⟨?_,rfl,rfl,rfl,rfl,trivial⟩) (ac.a7 36 2002 rfl)⟩;rw[ajO];rfl
   .have fg:j=(bG st).2:=by
     have h: ¬(j:Int) < ((bG st).2:Int):=oj h;omega
    subst fg;refine bx [] (ac.trans (cH (Mq n k (bG st).2 (bG st).2) (Mr l st (gZ (bG st).1 (bG st).2).1 2002 ((gZ (bG st).1 (bG st).2).2.map r6))) (ac.dX 2002 rfl)) <| az (Fn.a7 [(1001,2001)] (ajC (gZ (bG st).1 (bG st).2).1)) ⟨fun h=>?_,fun h=>?_⟩
    .have h:(!decide ((jS st).1.2=0))=true:=h;have x3:=y8 (k+1) cl (T' jJ (fun bf=>by rw[bf.1] at h;cases h))
     first
      |(have Uc:=H.symm.trans x3;contradiction)
      |exact bd
    have h:(!decide ((jS st).1.2=0))=false:=h;have U:(jS st).1.2=0:=aA6
    have r5:=L9 (l.map jz) (jz (jS st).2) az7 (show(E st).2.length<=4294967296 by omega) (by
     show((gZ (bG st).1 (bG st).2).2.map r6).length<=1000000
     rw[aq3,b2];omega) (fun p ao=>by
     obtain⟨q,aY,rfl⟩:=ar6.1 ao;have:=b3 q aY;show(CY q).length<=4294967296;omega)
    refine az r5 ⟨fun h=>?_,fun h=>?_⟩
    .have h:(!decide (gy (l.map jz) (jz (jS st).2)=0))=true:=h;have x3:=y8 (k+1) cl (T' jJ (fun bf=>by rw[bf.2] at h;cases h))
     first
      |(have Uc:=H.symm.trans x3;contradiction)
      |exact bd
    .have h:(!decide (gy (l.map jz) (jz (jS st).2)=0))=false:=h;have eR:gy (l.map jz) (jz (jS st).2)=0:=aA6
     have ajP:(l++[(jS st).2]).map jz=gQ (l.map jz) (jz (jS st).2):=by
      unfold gQ;rw[vj eR,au2];rfl
     refine⟨az7,(k+1,l++[(jS st).2],(jS st).1),⟨cl,Ua jJ U eR,?_,?_⟩,?_,?_⟩
     .show(gZ (bG st).1 (bG st).2).1.1.length<=100000000;omega
     .have:=(Md eR).2.2.1;simp only[aq3,ap3,List.length_singleton] at this⊢;omega
     .simp only;omega
     .refine ac.trans (ac.sub (K':=Ub n (k+1)) (B':=Mp (jS st).1::Me 1003 ((l++[(jS st).2]).map jz)) aE ⟨rfl,rfl,?_,trivial⟩) (ac.a7 1003 1002 rfl);rw[ajP];rfl
  .have cl:k=n:=by
    have h: ¬(k:Int) < (n:Int):=oj h;omega
   subst cl;have aw:=ajN l st jJ;refine az (Fn.a7 [(1001,2001)] (ajD st)) ⟨fun h=>?_,fun h=>?_⟩
   .have h:(!decide (q4 st=0))=true:=h;rw[mu aA6] at aw
    first
     |(have Uc:=H.symm.trans aw;contradiction)
     |exact bd
   .have h:(!decide (q4 st=0))=false:=h;rw[vj aA6] at aw
    first
     |(rw[H] at aw;injection aw with aw;subst aw;exact⟨_,_,_,bu,rfl,aE,aE,rfl⟩)
     |(rw[H] at aw;cases aw)
end
section
end
section
section
variable {P:aD9} {ids:aD3} {K:aW} {B:av}
end
def pm (es:aD4) (aF:Int):Bool:=CH ((bV (aI:=aj) (aK:=aj) es aF).getD (cM aj))
def Ms (es:aD4) (aF:Int):Nat->Nat
 |0=>0
 |k+1=>if pm es (aF+(k:Int))=true then Ms es aF k ||| 2 ^k else Ms es aF k
def Ud (es:aD4):Nat->aD2
 |0=>[]
 |n+1=>Ud es n++[UInt8.ofNat (Ms es (8*(n:Int)) 8)]
def uH (s g:Int):Nat:=((oH s g+7)/8).toNat
def ajQ {s g:Int} (ax:0<=s/\s<=4096) (aV:1<=g/\g<=64):oH s g<=8*(uH s g:Int)/\(8*(uH s g:Int) < oH s g+8)/\uH s g<=521:=by have h:=CT ax aV;unfold uH;omega
def ajR (s g:Int):aD2:=hJ 2 [s.toNat]++hJ 1 [g.toNat]
def encZ (s g:Int) (es:aD4):aD2:=ajR s g++Ud es (uH s g)
def v6 (es:aD4):Nat->List (aa aj×aa aj)
 |0=>[]
 |n+1=>if pm es (n:Int)=true then dw (aI:=aj) (aK:=aj) (v6 es n) (n:Int) (1:Int) else v6 es n
def lw (s g:Int) (es:aD4):Prop:= ∀aF,pm es aF=true->0<=aF/\aF < oH s g
end
section
def Ue (es:aD4): ∀(n:Nat) (aF:Int),bV (aI:=aj) (aK:=aj) (v6 es n) aF=if(0<=aF/\aF < (n:Int))/\pm es aF=true then some (1:Int) else none
 |0,aF=>by
  rw[mu az7];rfl
 |n+1,aF=>by
  have h:=Ue es n aF;unfold v6
  by_cases ao:pm es (n:Int)=true
  .rw[vj ao];obtain⟨d0,cU⟩:=y7 (aI:=aj) (aK:=aj) oW (n:Int) (1:Int) (v6 es n)
   by_cases e:aF=(n:Int)
   .subst e;rw[vj ⟨az7,ao⟩];exact d0
   .rw[cU aF e,h]
    by_cases q:(0<=aF/\aF < (n:Int))/\pm es aF=true
    .rw[vj q,vj ⟨az7,q.2⟩]
    .rw[mu q,mu (fun bf=>q ⟨az7,bf.2⟩)]
  .rw[mu ao,h]
   by_cases q:(0<=aF/\aF < (n:Int))/\pm es aF=true
   .rw[vj q,vj ⟨az7,q.2⟩]
   .rw[mu q,mu (fun bf=>by
     by_cases e:aF=(n:Int)
     .subst e;exact ao bf.2
     .exact q ⟨az7,bf.2⟩)]
def ajS {s g:Int} (ax:0<=s/\s<=4096) (aV:1<=g/\g<=64) {es:aD4} (aZ:lw s g es) (aF:Int):pm (v6 es (8*uH s g)) aF=pm es aF:=by
 have fc:=ajQ ax aV;have h:=Ue es (8*uH s g) aF;have aO:=aZ aF;show CH ((bV (aI:=aj) (aK:=aj) (v6 es (8*uH s g)) aF).getD (cM aj))=_;rw[h]
 cases ao:pm es aF
 .rw[mu (fun bf=>by cases bf.2)];rfl
 .have aO:=aO ao;rw[vj ⟨az7,rfl⟩];rfl
end
section
def Mt (l:aE3):List bq:=(aic l).filterMap (dy l)
def ajT {l:aE3} {e:bq} (h:e∈Mt l):e∈l:=by obtain⟨nm,_,G⟩:=List.mem_filterMap.1 h;exact(lV G).1
abbrev Uf:Type:=aD2×Bool×Bool×Int×Int×List (aa aj×aa aj)
def Ap (e:bq):Uf:=(e.nm,e.on,e.us,e.s,e.g,e.es)
def GE (e:bq):Uf:=(e.nm,e.on,false,e.s,e.g,v6 e.es (8*uH e.s e.g))
end
section
abbrev gR:bz:=.arr 16 .u8
abbrev tc:bz:=.bT (.int .i64) gR
structure cJ where
 n:Int
 R:Int
 uI:List (aa aj×aa gR)
 b8:List (aa aj×aa gR)
 je:List (aa tc)
abbrev jk (c d e f:Nat) (m:cJ):av:=[(c,.cells [.d (.int .i64 m.n),.d (.int .i64 m.R),.mp d,.mp e,.own f]),(d,.map aj gR m.uI),(e,.map aj gR m.b8),(f,.row 303 tc m.je)]
def hu (m:cJ):bc:=.iz 1001 (jk 1001 1002 1003 1004 m)
def q5 (n:Int):Bool:=decide (0<=n)&&decide (n<=4096)
def ajU (n:Int):Fn prog 275 [ab n] [] [] (gT (q5 n)) []:=by
 refine aU [] func275 ?_;refine⟨fun h=>?_,fun h=>?_⟩
 .exact er bu rfl (show decide (n<=4096)=q5 n by simp at h;simp[q5,h])
 .exact er bu rfl (show false=q5 n by simp at h;simp[q5];omega)
def ajV (n r:Int) (h:(q5 n&&decide (0<=r))=true):Fn prog 250 [ab n,ab r] [] [1001] (.cm [.one (.ptr 1001 0),dJ 0]) [(1001,.aA (hu ⟨n,r,[],[],[]⟩))]:=by
 refine aU [] func250 ?_;refine az (ajU n) ?_;simp only[ao8,as1] at h;refine⟨fun E=>?_,fun E=>?_⟩
 .exfalso;simp[h.1] at E
 refine⟨fun G=>?_,fun G=>?_⟩
 .exfalso;simp at G;omega
 exact⟨rfl,rfl,rfl,_,_,_,(ac.yR 18 4 1004 303 tc rfl rfl rfl).trans ((ac.a7 18 1001 rfl).trans ((ac.a7 15 1002 rfl).trans ((ac.a7 16 1003 rfl).trans (ac.close 1001 (jk 1001 1002 1003 1004 ⟨n,r,[],[],[]⟩) (o:=hu ⟨n,r,[],[],[]⟩) aE rfl fun _ _ _ _ h=>h)))),rfl,aE,aE,rfl⟩
end
section
def ajW (es:List (aa aj×aa gR)):Fn prog 208 [.c (.one (.mp 1001))] [(1001,.map aj gR es)] [2001] (.c (.one (.mp 2001))) [(1001,.map aj gR es),(2001,.map aj gR es)]:=
 S1 ab' aA0 es
end
section
abbrev Aq:aD3:=[1002,1003,1004]
def C4 {f:aE8} {args:List aN} {m g4:cJ} {aJ aP:av} {res:aN} {bb:aD3} (h:Fn prog f args (jk 1001 1002 1003 1004 m++aJ) bb res (jk 1001 1002 1003 1004 g4++aP))
  (E:nA 1001 Aq args (jk 1001 1002 1003 1004 m) aJ bb []=true) (G:nB 1001 (mh Aq bb []) res (jk 1001 1002 1003 1004 g4) aP=true):
  Fn prog f args ((1001,.aA (hu m))::aJ) [] res ((1001,.aA (hu g4))::aP):=
 (cz.close (bp:=jk 1001 1002 1003 1004 m) (dD:=fun _:Unit=>jk 1001 1002 1003 1004 g4) (aP:=fun _=>aP) (o:=hu m) (o':=fun _=>hu g4) Aq h.x (fun _ _ _ _ h=>h) (fun _ _ _ _ _ h=>h) E (fun _=>G)).fn
def cJ.kU (m:cJ) (at_ aT:Int):Bool:=decide (0<=at_)&&decide (aT<=m.n)&&decide (at_<=m.n - aT)
def ajX (m:cJ):Fn prog 272 [ap 1001] [(1001,.aA (hu m))] [] (ab m.n) [(1001,.aA (hu m))]:=by refine C4 (aJ:=[]) (aP:=[]) (bb:=[]) ?_ rfl rfl;refine aU [] func272 ?_;exact bd
def Ug (m:cJ):Fn prog 296 [ap 1001] (jk 1001 1002 1003 1004 m) [] (ab (m.b8.length:Nat)) (jk 1001 1002 1003 1004 m):=by refine aU [] func296 ?_;exact bd
def Mu (m:cJ) (at_ aT:Int) (au:0<=aT) (E:0<=m.n) (G:m.n<=4096):Fn prog 294 [ap 1001,ab at_,ab aT] (jk 1001 1002 1003 1004 m) [] (gT (m.kU at_ aT)) (jk 1001 1002 1003 1004 m):=by
 refine aU [] func294 ?_;refine⟨fun h=>?_,fun h=>?_⟩
 .have h:decide (0<=at_)=true:=h;refine⟨fun ag=>?_,fun ag=>?_⟩
  .have ag:decide (aT<=m.n)=true:=ag;have aS:aT<=m.n:=by simpa using ag
   refine⟨az7,?_⟩;exact er bu rfl (show decide (at_<=m.n - aT)=m.kU at_ aT by rw[cJ.kU,h,ag];rfl)
  .have ag:decide (aT<=m.n)=false:=ag;exact er bu rfl (show false=m.kU at_ aT by rw[cJ.kU,h,ag];rfl)
 .have h:decide (0<=at_)=false:=h;exact er bu rfl (show false=m.kU at_ aT by rw[cJ.kU,h];rfl)
def cJ.pn (m:cJ):cJ:={m with uI:=m.b8,je:=[]}
def ajY (m:cJ):Fn prog 277 [ap 1001] (jk 1001 1002 1003 1004 m) [2001,2002] gU (jk 1001 2001 1003 2002 m.pn):=by refine aU [] func277 ?_;exact az (Fn.a7 [(1001,1003)] (ajW m.b8)) ⟨_,_,_,ac.yR 1001 4 2002 303 tc rfl rfl rfl,rfl,trivial,aE,rfl⟩
end
section
def Uh {f:aE8} {args:List aN} {m g4:cJ} {aJ aP:av} {res:aN} {bb:aD3} {d e g:Nat} (l:aG0) (h:Fn prog f args (jk 1001 1002 1003 1004 m++aJ) bb res (jk 1001 d e g g4++aP))
  (ak:eq (lH l []) 1001=1001/\eq (lH l []) d=1002/\eq (lH l []) e=1003/\eq (lH l []) g=1004)
  (E:nA 1001 Aq args (jk 1001 1002 1003 1004 m) aJ bb []=true) (G:nB 1001 (mh Aq bb []) res (jk 1001 d e g g4) aP=true):
  Fn prog f args ((1001,.aA (hu m))::aJ) [] res ((1001,.aA (hu g4))::aP):=
 (cz.close (bp:=jk 1001 1002 1003 1004 m) (dD:=fun _:Unit=>jk 1001 d e g g4) (aP:=fun _=>aP) (o:=hu m) (o':=fun _=>hu g4) Aq h.x (fun _ _ _ _ h=>h) (fun _ I F w p bf=>by
  have:=j1.a7 l bf;obtain⟨af,al,bt,c3⟩:=ak;simp only[jk,kN,af,al,bt,c3,ba.eq,y0,bw.eq] at this;exact this) E (fun _=>G)).fn
def ajZ (m:cJ):Fn prog 277 [ap 1001] [(1001,.aA (hu m))] [] gU [(1001,.aA (hu m.pn))]:=
 Uh (aJ:=[]) (aP:=[]) [(2001,1002),(2002,1004)] (ajY m) ⟨rfl,rfl,rfl,rfl⟩ rfl rfl
end
section
abbrev aj0 (x y:aD2) (i:Nat):aW:=[(0,b0 .u8 x),(1,b0 .u8 y),(12,ab (x.length:Nat)),(13,ab (i:Nat))]
def aj1 {x y:aD2} {i:Nat} (hx:i < x.length) (aC:i < y.length) (h:x.take i=y.take i) (U:x[i]=y[i]):x.take (i+1)=y.take (i+1):=by rw[at2 hx,at2 aC,h,U]
def aj2 (x y:aD2) (hx:x.length<=4294967296) (aC:y.length<=4294967296):Fn prog 152 [b0 .u8 x,b0 .u8 y] [] [] (gT (decide (x=y))) []:=by
 refine aU [] func152 ?_;refine⟨fun h=>?_,fun h=>?_⟩
 .have h:(!decide ((x.length:Int)=(y.length:Nat)))=true:=h;have a6:x≠y:=fun e=>by rw[e] at h;simp at h
  rw[as7 a6];exact bd
 have h:(!decide ((x.length:Int)=(y.length:Nat)))=false:=h;have ak:x.length=y.length:=aD0
 refine ed [] (X:=Nat) (aj0 x y) (fun _=>[]) (fun i=>i<=x.length/\x.take i=y.take i) (fun i=>x.length - i) 0 ⟨ap9 _,rfl⟩ ?_ ?_
 .exact ac.sub aE trivial
 rintro i ⟨aG,cq⟩;refine⟨fun G=>?_,fun G=>?_⟩
 .have G:decide ((i:Int) < (x.length:Int))=true:=G;have dC:i < x.length:=by simpa using G
  have nQ:i < y.length:=aA5
  refine⟨az7,x[i],j2 (n:=i) dC,az7,y[i],j2 (n:=i) nQ,rfl,fun ag=>?_,fun ag=>?_⟩
  .have ag:(!decide ((UInt8.toNat x[i]:Int)=(UInt8.toNat y[i]:Nat)))=true:=ag
   have a6:x≠y:=fun e=>by
    subst e;simp at ag
   rw[as7 a6];exact bd
  .have ag:(!decide ((UInt8.toNat x[i]:Int)=(UInt8.toNat y[i]:Nat)))=false:=ag
   have U:x[i]=y[i]:=by
    have aS:(UInt8.toNat x[i]:Int)=(UInt8.toNat y[i]:Nat):=by simpa using ag
    exact UInt8.toNat_inj.1 az7
   exact⟨az7,i+1,⟨az7,aj1 dC nQ cq U⟩,az7,ac.sub aE trivial⟩
 .have G:decide ((i:Int) < (x.length:Int))=false:=G;have dC:i=x.length:=by simp at G;omega
  subst dC
  have U:x=y:=by
   rw[ar2] at cq;rw[cq,ak,ar2]
  rw[aq1 U];exact bd
end
section
structure v7 (e:bq):Prop where
 ok:mv e.s e.g=true
 f2:lw e.s e.g e.es
 nm:gN e.nm=true
end
section
def x4 (c:UInt8) (p:Int×Int):Int×Int:=((p.1+(UInt8.toNat c:Int)) % 65521,(p.2+(p.1+(UInt8.toNat c:Int)) % 65521) % 65521)
def n0 (x:aD2) (p:Int×Int):Int×Int:=x.foldl (fun p c=>x4 c p) p
def Ar (p:Int×Int):Prop:=(0<=p.1/\p.1 < 65521)/\(0<=p.2/\p.2 < 65521)
def aj3 {c:UInt8} {p:Int×Int} (h:Ar p):Ar (x4 c p):=by unfold Ar x4;simp only;have:=h.1;have:=h.2;omega
def GF: ∀{x:aD2} {p:Int×Int},Ar p->Ar (n0 x p)
 | [],_,h=>h
 |c::x,p,h=>GF (x:=x) (aj3 h)
def aj4 (x:aD2) (c:UInt8) (p:Int×Int):n0 (x++[c]) p=x4 c (n0 x p):=by unfold n0;rw[ax4];rfl
def lc (x:aD2):Int:=65536*(n0 x (1,0)).2+(n0 x (1,0)).1
def Ui (x:aD2):0<=lc x/\lc x < 4294967296:=by have h:=GF (x:=x) (p:=(1,0)) ⟨az8,az8⟩;unfold lc;have:=h.1;have:=h.2;omega
def aj5 (c:UInt8) (p:Int×Int) (h:Ar p):Fn prog 295 [mH (.d (.int .u8 (UInt8.toNat c:Int))),ap 1001,ap 1002] [(1001,.cells [.d (.int .i64 p.1)]),(1002,.cells [.d (.int .i64 p.2)])] [] (.cm [.one (.d (.int .i64 (x4 c p).1)),.one (.d (.int .i64 (x4 c p).2))]) [(1001,.cells [.d (.int .i64 p.1)]),(1002,.cells [.d (.int .i64 p.2)])]:=by
 have J:UInt8.toNat c < 256:=UInt8.toNat_lt c;obtain⟨⟨E,G⟩,ag,aS⟩:=h;refine aU [] func295 ?_;have cE: -9223372036854775808<=(UInt8.toNat c:Int)/\(UInt8.toNat c:Int)<=9223372036854775807:=aA5
 refine⟨cE,?_⟩;have cG: -9223372036854775808<=p.1+(UInt8.toNat c:Int)/\p.1+(UInt8.toNat c:Int)<=9223372036854775807:=aA5
 refine⟨cG,?_⟩;have dG:0<=p.1+(UInt8.toNat c:Int)/\(0:Int) < 65521:=aA5
 have e3: -9223372036854775808<=(p.1+(UInt8.toNat c:Int)) % 65521/\(p.1+(UInt8.toNat c:Int)) % 65521<=9223372036854775807:=aA5
 refine⟨dG,e3,?_⟩;have xb: -9223372036854775808<=p.2+(p.1+(UInt8.toNat c:Int)) % 65521/\p.2+(p.1+(UInt8.toNat c:Int)) % 65521<=9223372036854775807:=aA5
 refine⟨xb,?_⟩;have vp:0<=p.2+(p.1+(UInt8.toNat c:Int)) % 65521/\(0:Int) < 65521:=aA5
 have xc: -9223372036854775808<=(p.2+(p.1+(UInt8.toNat c:Int)) % 65521) % 65521/\(p.2+(p.1+(UInt8.toNat c:Int)) % 65521) % 65521<=9223372036854775807:=aA5
 exact⟨vp,xc,rfl,bd⟩
abbrev Uj (p:Int×Int):av:=[(3,.cells [.d (.int .i64 p.1)]),(4,.cells [.d (.int .i64 p.2)])]
abbrev aj6 (bE:aF4) (i:Nat):aW:=[(3,ap 3),(4,ap 4),(5,.c (.one (.cW 295 [.p 3 0,.p 4 0]))),(11,b0 (.ce .u8) bE),(12,ab (bE.length:Nat)),(13,ab (i:Nat))]
abbrev aj7 (bE:aF4) (i:Nat) (x:aD2) (j:Nat):aW:=[(3,ap 3),(4,ap 4),(5,.c (.one (.cW 295 [.p 3 0,.p 4 0]))),(11,b0 (.ce .u8) bE),(12,ab (bE.length:Nat)),(13,ab (i:Nat)),(17,b0 .u8 x),(18,ab (x.length:Nat)),(19,ab (j:Nat))]
def Uk {bE:aF4} {i:Nat} (h:i < bE.length):(bE.take (i+1)).flatten=(bE.take i).flatten++bE[i]:=by rw[at2 h,List.flatten_append];simp
def Mv (bE:aF4) (ak:bE.length<=1000000) (ao: ∀x∈bE,x.length<=4294967296):Fn prog 274 [b0 (.ce .u8) bE] [] [] (ab (lc bE.flatten)) []:=by
 refine aU [] func274 ?_;refine⟨rfl,rfl,ed [] (X:=Nat) (aj6 bE) (fun i=>Uj (n0 (bE.take i).flatten (1,0))) (fun i=>i<=bE.length) (fun i=>bE.length - i) 0 (ap9 _) ?_ ?_⟩
 .exact ac.sub aE aE
 intro i aG;refine⟨fun h=>?_,fun h=>?_⟩
 .have h:decide ((i:Int) < (bE.length:Int))=true:=h;have dC:i < bE.length:=aA6
  have hx:=ao _ (ar4 dC);refine⟨az7,bE[i],j2 (n:=i) dC,ed [] (X:=Nat) (fun j=>aj7 bE i bE[i] j) (fun j=>Uj (n0 ((bE.take i).flatten++bE[i].take j) (1,0))) (fun j=>j<=bE[i].length) (fun j=>bE[i].length - j) 0 (ap9 _) ?_ ?_⟩
  .refine ac.sub aE ⟨?_,?_,trivial⟩
   .rw[List.take_zero,at3];rfl
   .rw[List.take_zero,at3];rfl
  intro j V;refine⟨fun G=>?_,fun G=>?_⟩
  .have G:decide ((j:Int) < (bE[i].length:Int))=true:=G;have fg:j < bE[i].length:=by simpa using G
   have ax:n0 ((bE.take i).flatten++bE[i].take (j+1)) (1,0)=x4 bE[i][j] (n0 ((bE.take i).flatten++bE[i].take j) (1,0)):=by
    rw[at2 fg,<-av2,aj4]
   have bv:=GF (x:=(bE.take i).flatten++bE[i].take j) (p:=(1,0)) ⟨az8,az8⟩;refine⟨az7,bE[i][j],j2 (n:=j) fg,az (Fn.a7 [(1001,3),(1002,4)] (aj5 bE[i][j] _ bv)) ⟨az7,j+1,az7,az7,ac.sub aE ⟨?_,?_,trivial⟩⟩⟩
   .rw[ax];rfl
   .rw[ax];rfl
  .have G:decide ((j:Int) < (bE[i].length:Int))=false:=G;have fg:j=bE[i].length:=by simp at G;omega
   subst fg;refine⟨az7,i+1,az7,az7,ac.sub aE ⟨?_,?_,trivial⟩⟩
   .rw[Uk dC,ar2];rfl
   .rw[Uk dC,ar2];rfl
 .have h:decide ((i:Int) < (bE.length:Int))=false:=h;have dC:i=bE.length:=aD0
  subst dC;rw[ar2];obtain⟨⟨E,G⟩,ag,aS⟩:=GF (x:=bE.flatten) (p:=(1,0)) ⟨az8,az8⟩;have cE: -9223372036854775808<=65536*(n0 bE.flatten (1,0)).2/\65536*(n0 bE.flatten (1,0)).2<=9223372036854775807:=aA5
  refine⟨cE,?_⟩;have cG: -9223372036854775808<=65536*(n0 bE.flatten (1,0)).2+(n0 bE.flatten (1,0)).1/\65536*(n0 bE.flatten (1,0)).2+(n0 bE.flatten (1,0)).1<=9223372036854775807:=aA5
  exact⟨cG,bd⟩
end
section
abbrev uJ (c d:Nat) (R:Int) (es:List (aa .str×aa .aM)):av:=[(c,.cells [.d (.int .i64 R),.mp d]),(d,.map .str .aM es)]
def iG (es:List (aa .str×aa .aM)) (k:aD2):Option Nat:=(bV es (k:aa .str)).getD (cM .aM)
def Ul (R:Int) (es:List (aa .str×aa .aM)) (name:aD2) (b:Nat) (h:iG es name=some b):Fn prog 157 [ap 1001,bS name] (uJ 1001 1002 R es) [] (.cm [PQ (some b),dJ 0]) (uJ 1001 1002 R es):=by
 refine aU [] func157 ?_;refine⟨fun eb h'=>?_,fun h'=>?_⟩
 .exact er bu rfl ⟨h,rfl,trivial⟩
 .exfalso;have:iG es name=none:=h';rw[h] at this
  cases this
def aj8 (R:Int) (es:List (aa .str×aa .aM)) (name:aD2) (h:iG es name=none):Fn prog 157 [ap 1001,bS name] (uJ 1001 1002 R es) [] (.cm [oV,dJ 40]) (uJ 1001 1002 R es):=by
 refine aU [] func157 ?_;refine⟨fun eb h'=>?_,fun h'=>?_⟩
 .exfalso;have:iG es name=some eb:=h';rw[h] at this
  cases this
 .exact bd
def aj9 (R:Int) (h:0<=R):Fn prog 63 [ab R] [] [1001,1002] (.cm [.one (.ptr 1001 0),dJ 0]) (uJ 1001 1002 R []):=by
 refine aU [] func63 ?_;refine⟨fun E=>?_,fun E=>?_⟩
 .simp at E;omega
 exact⟨rfl,rfl,_,_,_,(ac.a7 9 1001 rfl).trans (ac.a7 7 1002 rfl),rfl,aE,aE,rfl⟩
def aj' (R:Int) (es:List (aa .str×aa .aM)) (fr to:aD2) (b:Nat) (ak:to.length<=4294967296) (h:gN to=true) (hn:iG es fr=some b):Fn prog 215 [ap 1001,bS fr,bS to] (uJ 1001 1002 R es) [] (ab 0) (uJ 1001 1002 R (dw (gB es (fr:aa .str)) (to:aa .str) (some b:aE2))):=by
 refine aU [] func215 ?_;refine az (pZ _ ak) ⟨fun E=>?_,fun E=>?_⟩
 .rw[h] at E;cases E
 refine az (Ul R es fr b hn) ⟨fun G=>?_,fun G=>?_⟩
 .exact ap0 G az8
 exact⟨trivial,bd⟩
end
section
abbrev Mw (c d q:Nat) (R:Int) (es:List (aa .str×aa .aM)) (L:List (Nat×bc)):av:=[(c,.cells [.d (.int .i64 R),.mp d]),(d,.map .str .aM es),(q,.aA (.bD L))]
def aka (R:Int) (es:List (aa .str×aa .aM)) (L:List (Nat×bc)) (name:aD2) (n:Int) (ak:name.length<=4294967296) (E:gN name=true) (G:(q5 n&&decide (0<=R))=true) (aS:iG es name=none) (bG:es.length < 16):
  cz prog 213 [ap 1001,bS name,ab n] (Mw 1001 1002 1003 R es L) [] (fun b:Nat=>.cm [PQ (some b),dJ 0]) (fun b=>Mw 1001 1002 1003 R (dw es (name:aa .str) (some b:aE2)) ((b,hu ⟨n,R,[],[],[]⟩)::L)):=by
 refine hR [8] func213 ?_;refine az (Fn.a7 [(1001,2001)] (ajV n R G)) <| az (pZ _ ak) ⟨fun af=>?_,fun af=>?_⟩
 .rw[E] at af;cases af
 refine⟨fun al=>?_,fun al=>?_⟩
 .exact ap0 al az8
 refine⟨fun eb bt=>?_,fun bt=>?_⟩
 .exfalso;have:iG es name=some eb:=bt;rw[aS] at this
  cases this
 refine⟨fun c3=>?_,fun c3=>?_⟩
 .exfalso;simp at c3;omega
 exact bB.fJ (du.name 8 2001 rfl rfl) fun b=>bx [] (bu) ⟨trivial,b,_,_,_,ac.put 1003 2001 az8 rfl rfl,rfl,aE,aE,rfl⟩
end
section
abbrev iS:=List (aa aj×aa gR)
def uK (x:aa gR):Prop:=List.length (α:=UInt8) x=16
def uK.wf {x:aa gR} (h:uK x):n3 gR x:=⟨h,fun _ _=>trivial⟩
end
section
def akb (a b:Int):(fD aj (a:aa aj) (b:aa aj)=true)↔a=b:=by show ym a b=true↔a=b;unfold ym;exact decide_eq_true_iff
end
section
def q6 {aK:bz} (es:List (aa aj×aa aK)):List Int:=es.map fun p=>(show Int from p.1)
def C5 (s:iS) (a:Int):aa gR:=(bV s (a:aa aj)).getD (cM gR)
def it (s:iS) (a:Int):aD2:=C5 s a
def p6 (s:iS) (a:Int) (k:Nat):aD2:=(List.range k).flatMap fun i=>it s (a+(i:Nat))
def v8 (s:iS):Prop:= ∀p∈s,uK p.2
def Um {aI aK:bz} {k:aa aI} {x:aa aK}: ∀{l:List (aa aI×aa aK)},bV l k=some x-> ∃p∈l,p.2=x
 | [],h=>by cases h
 |p::l,h=>by
  unfold bV at h
  split at h
  .injection h with h
   exact⟨p,aq4 ..,h⟩
  .obtain⟨q,aY,e⟩:=Um h;exact⟨q,ap4 _ aY,e⟩
def Un {s:iS} (h:v8 s) (a:Int):uK (C5 s a):=by
 unfold C5
 cases e:bV s (a:aa aj) with
 |none=>exact aq7
 |some x=>
  obtain⟨p,ao,e⟩:=Um e;rw[<-e];exact h p ao
def Uo (s:iS) (a:Int) (k:Nat):p6 s a (k+1)=p6 s a k++it s (a+(k:Nat)):=by unfold p6;rw[List.range_succ,List.flatMap_append];simp
def GG {s:iS} (h:v8 s) (a:Int): ∀k,(p6 s a k).length=16*k
 |0=>rfl
 |k+1=>by
  have e:(it s (a+(k:Nat))).length=16:=Un h _;rw[Uo,ap3,GG h a k];omega
abbrev Up (at_ aT:Int) (k r:Nat):aW:=[(0,ap 1001),(1,ab at_),(2,ab aT),(8,eX r),(20,ab aT),(21,ab (k:Nat))]
abbrev Uq (m:cJ) (r:Nat) (x:aD2):av:=jk 1001 1002 1003 1004 m++[(r,.row 5 .u8 x)]
def akc (m:cJ) (at_ aT:Int) (h:0<=aT) (aG:m.kU at_ aT=true) (E:0<=m.n) (G:m.n<=4096) (hw:v8 m.b8):Fn prog 269 [ap 1001,ab at_,ab aT] [(1001,.aA (hu m))] [] (.cm [.one (.d (.cr .u8 (p6 m.b8 at_ aT.toNat))),dJ 0]) [(1001,.aA (hu m))]:=by
 refine C4 (aJ:=[]) (aP:=[]) (bb:=[]) ?_ rfl rfl;refine aU [] func269 ?_;refine⟨fun E=>?_,fun _=>?_⟩
 .have E:aT < 0:=gd E;omega
 refine az (Mu m at_ aT h E G) ?_;rw[aG];refine dR ?_;simp only[cJ.kU,ao8,as1] at aG;obtain⟨⟨i1,i2⟩,i3⟩:=aG;refine ed [] (X:=Nat) (fun k=>Up at_ aT k 2003) (fun k=>Uq m 2003 (p6 m.b8 at_ k)) (fun k=>(k:Int)<=aT) (fun k=>aT.toNat - k) 0 h ?_ ?_
 .exact ac.trans (ac.nil 8 2003 5 .u8 rfl rfl) (ac.sub aE aE)
 intro k Z;refine⟨fun J=>?_,fun J=>?_⟩
 .have cl:(k:Int) < aT:=gd J;have mT:=Un hw (at_+(k:Nat));have bZ:=GG hw at_ k;refine⟨az7,rfl,C5 m.b8 (at_+(k:Nat)),⟨mT.wf,rfl⟩,?_⟩
  have af:(p6 m.b8 at_ k).length+(it m.b8 (at_+(k:Nat))).length<=4294967296:=by
   have:(it m.b8 (at_+(k:Nat))).length=16:=mT;omega
  refine⟨af,rfl,az7,k+1,az7,az7,ac.trans (ac.sub (K':=Up at_ aT (k+1) 34) (B':=Uq m 34 (p6 m.b8 at_ (k+1))) aE ⟨rfl,rfl,rfl,rfl,?_,trivial⟩) (ac.a7 34 2003 rfl)⟩;rw[Uo];rfl
 .have cl:k=aT.toNat:=by
   have: ¬(k:Int) < aT:=oj J;omega
  subst cl;exact⟨_,_,_,ac.dX 2003 rfl,rfl,aE,aE,rfl⟩
end
section
def GH (b:aD2) (k:Nat):aD2:=List.take 16 ((b.take ((((k:Nat):Int)+1)*16).toNat).drop (((k:Nat):Int)*16).toNat)
def r8 (b:aD2) (k:Nat):aa gR:=GH b k
def Mx {b:aD2} {k:Nat} (h:16*(k+1)<=b.length):uK (r8 b k):=by show(List.take 16 ((b.take _).drop _)).length=16;rw[aq0,au8,aq0];omega
def akd (b:aD2) (k:Nat):GH b k=(b.drop (16*k)).take 16:=by
 unfold GH;rw[show((((k:Nat):Int)+1)*16).toNat=16*k+16 by omega,show(((k:Nat):Int)*16).toNat=16*k by omega,List.drop_take,List.take_take]
 congr 1
 omega
abbrev GI (a:Int) (x:aa gR):aa tc:=(a,x)
def x5 (at_:Int) (b:aD2) (s:iS):Nat->iS
 |0=>s
 |k+1=>dw (x5 at_ b s k) (at_+(k:Nat):Int) (r8 b k)
def v' (at_:Int) (b:aD2) (l:List (aa tc)):Nat->List (aa tc)
 |0=>l
 |k+1=>v' at_ b l k++[GI (at_+(k:Nat)) (r8 b k)]
def My (at_:Int) (b:aD2) (l:List (aa tc)): ∀k,(v' at_ b l k).length=l.length+k
 |0=>rfl
 |k+1=>by rw[v',ap3,My];simp;omega
def lz (s:iS) (at_:Int):Nat->Nat
 |0=>0
 |k+1=>match(bV s (at_+(k:Nat):Int)).isSome with
  |true=>lz s at_ k
  |false=>lz s at_ k+1
def Ur (s:iS) (at_:Int): ∀k,lz s at_ k<=k
 |0=>ao9 _
 |k+1=>by
  have:=Ur s at_ k;unfold lz
  split <;>omega
def cJ.q7 (m:cJ) (at_:Int) (k:Nat):Bool:=decide (m.R < (m.b8.length+lz m.b8 at_ k:Nat))&&decide (0 < lz m.b8 at_ k)
def cJ.GJ (m:cJ) (at_:Int) (b:aD2):cJ:={m with b8:=x5 at_ b m.b8 (b.length/16),je:=v' at_ b m.je (b.length/16)}
def uL (b:aD2):Bool:=decide (b.length=0)|| !decide (b.length % 16=0)
abbrev ake (m:cJ) (at_:Int) (b:aD2) (k:Nat):aW:=[(0,ap 1001),(1,ab at_),(2,b0 .u8 b),(7,ab (b.length/16:Nat)),(8,ab (m.b8.length+lz m.b8 at_ k:Nat)),(35,ab (b.length/16:Nat)),(36,ab (k:Nat))]
abbrev Mz (m:cJ) (at_:Int) (b:aD2) (k:Nat):aW:=[(0,ap 1001),(1,ab at_),(2,b0 .u8 b),(7,ab (b.length/16:Nat)),(67,ab (b.length/16:Nat)),(68,ab (k:Nat))]
abbrev MA (m:cJ) (at_:Int) (b:aD2) (k r:Nat):av:=jk 1001 1002 1003 r {m with b8:=x5 at_ b m.b8 k,je:=v' at_ b m.je k}
def MB (b:aD2):uL b=(decide ((b.length:Int)=0)|| !decide ((b.length:Int) % 16=0)):=by
 have af:decide (b.length=0)=decide ((b.length:Int)=0):=by rw[Bool.eq_iff_iff,decide_eq_true_iff,decide_eq_true_iff];omega
 have al:decide (b.length % 16=0)=decide ((b.length:Int) % 16=0):=by rw[Bool.eq_iff_iff,decide_eq_true_iff,decide_eq_true_iff];omega
 rw[uL,af,al]
def MC {b:aD2} (ak:b.length<=4294967296):(0<=(b.length:Int)/\(0:Int) < 16)/\(-9223372036854775808<=(b.length:Int)/16/\(b.length:Int)/16<=9223372036854775807)/\(-9223372036854775808<=(b.length:Int) % 16/\(b.length:Int) % 16<=9223372036854775807):=aA5
def akf (m:cJ) (at_:Int) (b:aD2) (ak:b.length<=4294967296) (h:uL b=true):Fn prog 280 [ap 1001,ab at_,b0 .u8 b] [(1001,.aA (hu m))] [] (ab 1) [(1001,.aA (hu m))]:=by
 refine C4 (aJ:=[]) (aP:=[]) (bb:=[]) ?_ rfl rfl;rw[MB] at h;obtain⟨bR,b',a3⟩:=MC ak;refine aU [] func280 ?_;refine⟨bR,b',fun _=>?_,fun E=>?_⟩
 .exact bd
 refine⟨bR,a3,fun _=>?_,fun G=>?_⟩
 .exact bd
 .have E:decide ((b.length:Int)=0)=false:=E;have G:(!decide ((b.length:Int) % 16=0))=false:=G;rw[E,G] at h
  cases h
def akg (m:cJ) (at_:Int) (b:aD2) (ak:b.length<=4294967296) (h:uL b=false) (aG:m.kU at_ (b.length/16:Nat)=false) (E:0<=m.n) (G:m.n<=4096):Fn prog 280 [ap 1001,ab at_,b0 .u8 b] [(1001,.aA (hu m))] [] (ab 31) [(1001,.aA (hu m))]:=by refine C4 (aJ:=[]) (aP:=[]) (bb:=[]) ?_ rfl rfl;rw[MB,at1] at h;obtain⟨bR,b',a3⟩:=MC ak;refine aU [] func280 ?_;refine⟨bR,b',fun ag=>ap0 (h.1.symm.trans ag) az8,fun _=>⟨bR,a3,fun ag=>ap0 (h.2.symm.trans ag) az8,fun _=>az (Mu m at_ (b.length/16:Nat) az7 E G) ?_⟩⟩;rw[aG];exact gV bd
def akh (m:cJ) (at_:Int) (b:aD2) (ak:b.length<=4294967296) (h:uL b=false) (aG:m.kU at_ (b.length/16:Nat)=true) (E:0<=m.n) (G:m.n<=4096) (ag:m.b8.length<=4096) (hw:v8 m.b8) (aki:m.je.length+b.length<=4294967296):
  Fn prog 280 [ap 1001,ab at_,b0 .u8 b] (jk 1001 1002 1003 1004 m) [2004] (ab (match m.q7 at_ (b.length/16) with |true=>30 |false=>0)) (match m.q7 at_ (b.length/16) with |true=>jk 1001 1002 1003 1004 m |false=>jk 1001 1002 1003 2004 (m.GJ at_ b)):=by
 rw[MB,at1] at h;obtain⟨bR,b',a3⟩:=MC ak;refine aU [] func280 ?_;refine⟨bR,b',fun ag=>ap0 (h.1.symm.trans ag) az8,fun _=>⟨bR,a3,fun ag=>ap0 (h.2.symm.trans ag) az8,fun _=>az (Mu m at_ (b.length/16:Nat) az7 E G) ?_⟩⟩;rw[aG];refine dR ?_;simp only[cJ.kU,ao8,as1] at aG;obtain⟨⟨i1,i2⟩,i3⟩:=aG;refine az (Ug m) ?_;show bB _ _ _ _ _ _ _;have bI:((b.length:Int)/16)=((b.length/16:Nat):Int):=aA5
 have Kz:=Ur m.b8 at_;refine ed [] (X:=Nat) (ake m at_ b) (fun k=>jk 1001 1002 1003 1004 m) (fun k=>k<=b.length/16) (fun k=>b.length/16 - k) 0 (ap9 _) ?_ ?_
 .exact ac.sub ⟨rfl,rfl,rfl,bI,rfl,bI,rfl,trivial⟩ aE
 intro k Z;refine⟨fun J=>?_,fun J=>?_⟩
 .have cl:(k:Int) < (b.length/16:Nat):=gd J;have x0:=Kz k;refine⟨az7,rfl,?_⟩
  have ax:lz m.b8 at_ (k+1)=match(bV m.b8 (at_+(k:Nat):Int)).isSome with
    |true=>lz m.b8 at_ k
    |false=>lz m.b8 at_ k+1:=rfl
  refine⟨fun aS=>?_,fun aS=>?_⟩
  .have aS:(bV m.b8 (at_+(k:Nat):Int)).isSome=false:=by
    have aS:(!(bV m.b8 (at_+(k:Nat):Int)).isSome)=true:=aS;simpa using aS
   rw[aS] at ax;have ax:lz m.b8 at_ (k+1)=lz m.b8 at_ k+1:=ax;refine⟨az7,az7,k+1,az7,az7,ac.sub ⟨rfl,rfl,rfl,rfl,?_,rfl,rfl,trivial⟩ aE⟩;show _=_;rw[ax];omega
  .have aS:(bV m.b8 (at_+(k:Nat):Int)).isSome=true:=by
    have aS:(!(bV m.b8 (at_+(k:Nat):Int)).isSome)=false:=aS;simpa using aS
   rw[aS] at ax;refine⟨az7,k+1,az7,az7,ac.sub ⟨rfl,rfl,rfl,rfl,?_,rfl,rfl,trivial⟩ aE⟩;show _=_;rw[ax]
 .have cl:k=b.length/16:=by
   have: ¬(k:Int) < (b.length/16:Nat):=oj J;omega
  subst cl;have x0:=Kz (b.length/16);refine⟨fun cy=>?C6,fun cy=>?C7⟩
  case' C6=>
   have cy:decide (m.R < (m.b8.length+lz m.b8 at_ (b.length/16):Nat))=true:=cy;refine az (Ug m) ?_;refine⟨fun cu=>?MD,fun cu=>?akj⟩
  case MD=>
   have cu:decide (((m.b8.length:Nat):Int) < (m.b8.length+lz m.b8 at_ (b.length/16):Nat))=true:=cu
   have hf:m.q7 at_ (b.length/16)=true:=by
    have au:0 < lz m.b8 at_ (b.length/16):=by have:=gd cu;omega
    rw[cJ.q7,cy,aq1 au];rfl
   rw[hf];exact bd
  case' akj=>
   have cu:decide (((m.b8.length:Nat):Int) < (m.b8.length+lz m.b8 at_ (b.length/16):Nat))=false:=cu
   have hf:m.q7 at_ (b.length/16)=false:=by
    have au: ¬0 < lz m.b8 at_ (b.length/16):=by have:=oj cu;omega
    rw[cJ.q7,cy,as7 au];rfl
   clear cy cu
  case' C7=>
   have cy:decide (m.R < (m.b8.length+lz m.b8 at_ (b.length/16):Nat))=false:=cy
   have hf:m.q7 at_ (b.length/16)=false:=by
    rw[cJ.q7,cy];rfl
   clear cy
  all_goals
   rw[hf];refine ed [] (X:=Nat) (Mz m at_ b) (fun k=>MA m at_ b k 2004) (fun k=>k<=b.length/16) (fun k=>b.length/16 - k) 0 (ap9 _) ?_ ?_
   .exact ac.trans (cH (Mz m at_ b 0) (MA m at_ b 0 1004)) (ac.a7 1004 2004 rfl)
   intro k Z;refine⟨fun J=>?_,fun J=>?_⟩
   .have cl:(k:Int) < (b.length/16:Nat):=gd J;have mT:uK (r8 b k):=Mx az7;have mm:=My at_ b m.je k;have cE: -9223372036854775808<=(k:Int)*16/\(k:Int)*16<=9223372036854775807:=aA5
    have cG: -9223372036854775808<=(k:Int)+1/\(k:Int)+1<=9223372036854775807:=aA5
    have dG: -9223372036854775808<=((k:Int)+1)*16/\((k:Int)+1)*16<=9223372036854775807:=aA5
    have e3:0<=(k:Int)*16/\(k:Int)*16<=((k:Int)+1)*16/\((k:Int)+1)*16<=(b.length:Nat):=aA5
    refine⟨cE,cG,dG,e3,?_⟩
    have xb:0 < 16/\16<=((b.take (((k:Int)+1)*16).toNat).drop ((k:Int)*16).toNat).length:=by
     rw[au8,aq0];omega
    refine⟨xb,rfl,?_⟩;have vp: -9223372036854775808<=at_+(k:Nat)/\at_+(k:Nat)<=9223372036854775807:=aA5
    refine⟨vp,r8 b k,⟨mT.wf,rfl⟩,rfl,vp,rfl,GI (at_+(k:Nat)) (r8 b k),⟨⟨trivial,mT.wf⟩,rfl⟩,?_⟩
    have xc:(v' at_ b m.je k).length+ [GI (at_+(k:Nat)) (r8 b k)].length<=4294967296:=by
     rw[mm];simp only[as9,List.length_nil];omega
    exact⟨xc,rfl,rfl,az7,k+1,az7,az7,ac.trans (cH (Mz m at_ b (k+1)) (MA m at_ b (k+1) 99)) (ac.a7 99 2004 rfl)⟩
   .have cl:k=b.length/16:=by
     have: ¬(k:Int) < (b.length/16:Nat):=oj J;omega
    subst cl;exact bd
def cJ.write (m:cJ) (at_:Int) (b:aD2):cJ×Int:=match uL b with
 |true=>(m,1)
 |false=>match m.kU at_ (b.length/16:Nat) with
  |false=>(m,31)
  |true=>match m.q7 at_ (b.length/16) with
   |true=>(m,30)
   |false=>(m.GJ at_ b,0)
def akk (m:cJ) (at_:Int) (b:aD2) (ak:b.length<=1073741824) (E:0<=m.n) (G:m.n<=4096) (ag:m.b8.length<=4096) (hw:v8 m.b8) (aki:m.je.length<=1073741824):
  Fn prog 280 [ap 1001,ab at_,b0 .u8 b] [(1001,.aA (hu m))] [] (ab (m.write at_ b).2) [(1001,.aA (hu (m.write at_ b).1))]:=by
 unfold cJ.write
 cases af:uL b with
 |true=>exact akf m at_ b az7 af
 |false=>
  simp only
  cases al:m.kU at_ (b.length/16:Nat) with
  |false=>exact akg m at_ b az7 af al E G
  |true=>
   simp only;have h:=akh m at_ b az7 af al E G ag hw az7
   cases bt:m.q7 at_ (b.length/16) with
   |true=>rw[bt] at h;exact C4 (aJ:=[]) (aP:=[]) (bb:=[2004]) h rfl rfl
   |false=>rw[bt] at h;exact Uh (aJ:=[]) (aP:=[]) (bb:=[2004]) [(2004,1004)] h ⟨rfl,rfl,rfl,rfl⟩ rfl rfl
end
section
abbrev fh:=List (Nat×cJ)
def fo (L:fh):List (Nat×bc):=L.map fun p=>(p.1,hu p.2)
def jA:fh->Nat->Option cJ
 | [],_=>none
 |p::L,b=>if p.1=b then some p.2 else jA L b
def jl:fh->Nat->cJ->fh
 | [],_,_=>[]
 |p::L,b,m=>if p.1=b then(p.1,m)::L else p::jl L b m
def Us (b:Nat): ∀L:fh,eN (fo L) b=(jA L b).map hu
 | []=>rfl
 |p::L=>by
  show(if p.1=b then some (hu p.2) else eN (fo L) b)=_;unfold jA
  split
  .rfl
  .exact Us b L
def Ut (b:Nat) (m:cJ): ∀L:fh,gr (fo L) b (hu m)=fo (jl L b m)
 | []=>rfl
 |p::L=>by
  show(if p.1=b then(p.1,hu m)::fo L else(p.1,hu p.2)::gr (fo L) b (hu m))=_;unfold jl
  split
  .rfl
  .rw[Ut b m L];rfl
abbrev C8 (c d q:Nat) (R:Int) (es:List (aa .str×aa .aM)) (L:fh):av:=Mw c d q R es (fo L)
def GK {f:aE8} {args:List aN} {res:aN} {m g4:cJ} {L:fh} {b:Nat} (h:Fn prog f (ap 1001::args) [(1001,.aA (hu m))] [] res [(1001,.aA (hu g4))]) (cP:jA L b=some m)
  (E:(args.all fun v=> !v.has 1001)=true) (G:(!res.has 1001)=true):Fn prog f (di b::args) [(1003,.aA (.bD (fo L)))] [] res [(1003,.aA (.bD (fo (jl L b g4))))]:=by
 have:=(cz.bD (c:=1001) (q:=1003) (b:=b) (args:=args) (aJ:=[]) (bb:=[]) (X:=Unit) (res:=fun _=>res) (aP:=fun _=>[]) (o:=hu m) (o':=fun _=>hu g4) (L:=fo L) h.x (by rw[Us,cP];rfl) E ⟨rfl,rfl⟩ rfl (fun _=>G)).fn;rw[Ut] at this;exact this
def akl (R:Int) (es:List (aa .str×aa .aM)) (name:aD2):Fn prog 212 [ap 1001,bS name] (uJ 1001 1002 R es) [] (ab (match iG es name with |some _=>0 |none=>40)) (uJ 1001 1002 R (gB es (name:aa .str))):=by
 cases h:iG es name with
 |some b=>
  refine aU [] func212 ?_;exact az (Ul R es name b h) bd
 |none=>
  refine aU [] func212 ?_;exact az (aj8 R es name h) bd
structure oI (n:Int) (s:iS):Prop where
 ho:(q6 s).Nodup
 rg: ∀k∈q6 s,0<=k/\k < n
 wf:v8 s
structure hv (m:cJ):Prop where
 r9:0<=m.n
 c4:m.n<=4096
 b8:oI m.n m.b8
 uI:oI m.n m.uI
 akm: ∀w∈m.je,0<=(show Int from w.1)/\(show Int from w.1) < m.n
 akn: ∀w∈m.je,uK w.2
def mz (k:Int) (p:aa aj×aa gR):Bool:=fD aj (k:aa aj) p.1
def x6 (k:Int) (x:aa gR):aa aj×aa gR:=(k,x)
def C9 (p:aa aj×aa gR):Int:=p.1
def r' (s:iS) (k:Int) (x:aa gR):iS:=dw s (k:aa aj) x
def GL (k:Int) (x:aa gR):r' [] k x=[x6 k x]:=rfl
def As (p:aa aj×aa gR) (l:iS) (k:Int) (x:aa gR):r' (p::l) k x=match mz k p with |true=>x6 k x::l |false=>p::r' l k x:=rfl
def sa {k:Int} {p:aa aj×aa gR}:mz k p=true↔k=C9 p:=akb _ _
def uM (p:aa aj×aa gR) (l:iS):q6 (p::l)=C9 p::q6 l:=rfl
def ME (k:Int) (x:aa gR):C9 (x6 k x)=k:=rfl
def MF {k:Int} {x:aa gR} {j:Int}: ∀{s:iS},j∈q6 (r' s k x)↔j=k\/j∈q6 s
 | []=>by rw[GL,uM,ME,ap7]
 |p::s=>by
  rw[As]
  cases e:mz k p with
  |true=>
   rw[uM,uM,ME,<-sa.1 e];simp
  |false=>
   simp only;rw[uM,uM,ap7,ap7,MF];constructor
   .rintro(h |h |h)
    .exact .inr (.inl h)
    .exact .inl h
    .exact .inr (.inr h)
   .rintro(h |h |h)
    .exact .inr (.inl h)
    .exact .inl h
    .exact .inr (.inr h)
def Uu {k:Int} {x:aa gR}: ∀{s:iS},(q6 s).Nodup->(q6 (r' s k x)).Nodup
 | [],_=>by rw[GL,uM];exact as2.2 ⟨fun h=>aA7,av1⟩
 |p::s,h=>by
  rw[uM,as2] at h;rw[As]
  cases e:mz k p with
  |true=>
   simp only;rw[uM,ME,sa.1 e];exact as2.2 h
  |false=>
   have e:k≠C9 p:=fun bf=>by rw[sa.2 bf] at e;cases e
   simp only;rw[uM];refine as2.2 ⟨fun aD=>?_,Uu h.2⟩;rcases MF.1 aD with bf |bf
   .exact e bf.symm
   .exact h.1 bf
def Uv {k:Int} {x:aa gR} (hx:uK x): ∀{s:iS},v8 s->v8 (r' s k x)
 | [],_=>fun p ao=>by
  rw[GL] at ao;rcases ap7.1 ao with e |e
  .rw[e];exact hx
  .cases e
 |q::s,h=>fun p ao=>by
  rw[As] at ao
  split at ao
  .rcases ap7.1 ao with rfl |ao
   .exact hx
   .exact h p (ap4 _ ao)
  .rcases ap7.1 ao with rfl |ao
   .exact h _ (aq4 ..)
   .exact Uv hx (fun p ao=>h p (ap4 _ ao)) p ao
def oI.put {n:Int} {s:iS} (h:oI n s) {k:Int} {x:aa gR} (au:0<=k) (E:k < n) (hx:uK x):oI n (dw s (k:aa aj) x):=
 ⟨Uu h.ho,fun j V=>by
  rcases MF.1 V with rfl |V
  .exact⟨au,E⟩
  .exact h.rg j V,Uv hx h.wf⟩
def oI.nil (n:Int):oI n []:=⟨av1,fun k h=>aA7,fun p h=>aA7⟩
def GM: ∀(n:Nat) (l:aE5),l.Nodup->(∀k∈l,0<=k/\k < n)->l.length<=n
 |0,[],_,_=>ao9 _
 |0,k::l,_,h=>by have:=h k (aq4 ..);omega
 |n+1,l,hn,h=>by
  by_cases aD:(n:Int)∈l
  .have E:=GM n (l.erase (n:Int)) (hn.erase _) fun k Z=>by
    have fO:=(List.Nodup.mem_erase_iff hn).1 Z;have:=h k fO.2;have:=fO.1;omega
   rw[List.length_erase_of_mem aD] at E;omega
  .have:=GM n l hn fun k Z=>by
    have:=h k Z;have:k≠n:=fun e=>aD (e▸Z)
    omega
   omega
def oI.len {n:Int} {s:iS} (h:oI n s) (E:n<=4096):s.length<=4096:=by
 have:=GM 4096 (q6 s) h.ho fun k Z=>by have:=h.rg k Z;omega
 rwa[show(q6 s).length=s.length from aq3 _] at this
def hv.new {n R:Int} (h:q5 n=true):hv ⟨n,R,[],[],[]⟩:=by simp[q5] at h;exact⟨h.1,h.2,oI.nil _,oI.nil _,fun w hw=>(by cases hw),fun w hw=>(by cases hw)⟩
def hv.pn {m:cJ} (h:hv m):hv m.pn:=⟨h.r9,h.c4,h.b8,h.b8,fun w hw=>(by cases hw),fun w hw=>(by cases hw)⟩
def MG {n at_:Int} {b:aD2} (au:0<=at_) {s:iS} (h:oI n s): ∀k:Nat,at_+k<=n->16*k<=b.length->oI n (x5 at_ b s k)
 |0,_,_=>h
 |k+1,E,G=>(MG au h k az7 az7).put az7 az7 (Mx G)
def MH {at_:Int} {b:aD2} {l:List (aa tc)} {w:aa tc}: ∀k:Nat,w∈v' at_ b l k->w∈l\/ ∃i,i < k/\w=GI (at_+(i:Nat)) (r8 b i)
 |0,h=>.inl h
 |k+1,h=>by
  rcases ar7.1 h with h |h
  .rcases MH k h with h |⟨i,aG,e⟩
   .exact .inl h
   .exact .inr ⟨i,az7,e⟩
  .rw[aq6] at h;exact .inr ⟨k,az7,h⟩
def hv.write {m:cJ} (h:hv m) (at_:Int) (b:aD2):hv (m.write at_ b).1:=by
 unfold cJ.write
 split
 .exact h
 .split
  .exact h
  .rename_i aG;simp only[cJ.kU,ao8,as1] at aG;obtain⟨⟨i1,i2⟩,i3⟩:=aG
   split
   .exact h
   .refine⟨h.r9,h.c4,MG i1 h.b8 _ (by show at_+_<=m.n;omega) az7,h.uI,fun w hw=>?_,fun w hw=>?_⟩
    .rcases MH _ hw with hw |⟨i,aG,rfl⟩
     .exact h.akm w hw
     .show 0<=at_+(i:Nat)/\at_+(i:Nat) < m.n;omega
    .rcases MH _ hw with hw |⟨i,aG,rfl⟩
     .exact h.akn w hw
     .exact Mx az7
end
section
abbrev p7 (bF:Nat):aa .fn:=((276,[bF]):Nat×aD3)
abbrev n1 (bF a b:Nat):aa .fn:=((279,[bF,a,b]):Nat×aD3)
abbrev MI (d:Nat) (e:Int) (eG:List (aa .fn)) (L:List (Nat×bc)):av:=[(1001,.cells [.ptr 1002 0]),(1002,.cells [.own d,.d (.int .i64 e)]),(d,.row 121 .fn eG),(1005,.aA (.bD L))]
abbrev ako (e:Int) (eG:List (aa .fn)) (L:List (Nat×bc)):av:=MI 1006 e eG L
def Uw (at_:Int) (x:aD2) (bF:Nat) (e:Int) (eG:List (aa .fn)) (L:List (Nat×bc)) (ak:eG.length<=1000000):
  cz prog 278 [ab at_,b0 .u8 x,ap 1001,di bF] (ako e eG L) [2006] (X:=Nat×Nat) (fun _=>gU) (fun g=>MI 2006 e (eG++[n1 bF g.1 g.2]) ((g.2,g5 (.cr .u8 x))::(g.1,g5 (.int .i64 at_))::L)):=by
 refine hR [1] func278 ?_;refine⟨rfl,rfl,bB.fJ (du.box 4 4 1005 rfl rfl az8 rfl) fun ej=>bB.fJ (du.box 5 5 1005 rfl rfl az8 rfl) fun e4=>bx [] (bu) ?_⟩;have O:eG.length+1<=4294967296:=aA5
 exact⟨O,rfl,rfl,(ej,e4),_,_,_,(cH [] (MI 13 e (eG++[n1 bF ej e4]) ((e4,g5 (.cr .u8 x))::(ej,g5 (.int .i64 at_))::L))).trans (ac.a7 13 2006 rfl),rfl,trivial,aE,rfl⟩
def akp {bF s:Nat} {m:cJ} {L:List (Nat×bc)} {M:fh} (cP:eN L bF=some (g5 (.aM (some s)))) (ah:jA M s=some m):
  Fn prog 276 [di bF] [(1005,.aA (.bD L)),(1003,.aA (.bD (fo M)))] [] (ab 0) [(1005,.aA (.bD L)),(1003,.aA (.bD (fo (jl M s m.pn))))]:=by
 refine aU [] func276 ?_;refine bo (BR (q:=1005) rfl underlying231 rfl rfl rfl cP) ?_;exact az (GK (ajZ m) ah rfl rfl) bd
def akq {bF s ej e4:Nat} {at_:Int} {x:aD2} {m:cJ} {L:List (Nat×bc)} {M:fh} (G:eN L bF=some (g5 (.aM (some s)))) (aS:eN L ej=some (g5 (.int .i64 at_))) (bG:eN L e4=some (g5 (.cr .u8 x)))
  (ah:jA M s=some m) (ai:hv m) (hx:x.length<=1073741824) (ak:m.je.length<=1073741824):
  Fn prog 279 [di bF,di ej,di e4] [(1005,.aA (.bD L)),(1003,.aA (.bD (fo M)))] [] (ab (m.write at_ x).2) [(1005,.aA (.bD L)),(1003,.aA (.bD (fo (jl M s (m.write at_ x).1))))]:=by
 refine aU [] func279 ?_;refine bo (BR (q:=1005) rfl underlying231 rfl rfl rfl G) ?_;refine bo (BR (q:=1005) rfl underlying3 rfl rfl rfl aS) ?_;refine bo (BR (q:=1005) rfl underlying27 rfl rfl rfl bG) ?_;exact az (GK (akk m at_ x hx ai.r9 ai.c4 (ai.b8.len ai.c4) ai.b8.wf ak) ah rfl rfl) bd
end
section
def akr (x:aD2) (hx:x.length<=4294967296):Fn prog 199 [b0 .u8 x] [] [2001] (eX 2001) (pj 2001 x):=by
 refine aU [1] func199 ?_;refine bB.hP eC aA0 ⟨_,PZ rfl rfl underlying27,fun v e h=>?_⟩;obtain⟨b,O,rfl,rfl⟩:=h
 cases b
 .refine⟨rfl,?_⟩;have ak:0+x.length<=4294967296:=aA5
  exact⟨ak,rfl,_,_,_,ac.a7 7 2001 rfl,rfl,rfl,aE,rfl⟩
 .have O:=O rfl;subst O;exact⟨_,_,_,ac.nil 2 2001 5 .u8 rfl rfl,rfl,rfl,aE,rfl⟩
def sb (x:aD2):aD2:=x++fV (lc x).toNat 4
def Ux (x:aD2) (hx:x.length<=1000000):Fn prog 281 [b0 .u8 x] [] [] (b0 .u8 (sb x)) []:=by
 have h:=Ui x;refine aU [2] func281 ?_;refine az (akr x az7) ?_;refine az (Mv [x] az9 (fun y aC=>by rw[aq6] at aC;rw[aC];omega)) ?_;have af:([x]:aF4).flatten=x:=by simp
 rw[af];refine az (Fn.arg (Fn.a7 [(1001,2001),(1002,3002)] (C0 x 4 [(lc x).toNat] (by unfold W;omega) (fun n hn=>by rw[aq6] at hn;rw[hn];omega) az9 az7)) ⟨rfl,rfl,Mi h.1,trivial⟩) <| bx [] (ac.dX 3002 rfl) ?_;exact er bu rfl (show x++hJ 4 [(lc x).toNat]=sb x by unfold sb hJ;simp)
def dO (n:Int):Int:=max (n - 2) 0/2
def GN (n:Int) (au:0<=n) (E:n<=4096):Fn prog 273 [ab n] [] [] (ab (dO n)) []:=by
 refine aU [] func273 ?_;have cE: -9223372036854775808<=n - 2/\n - 2<=9223372036854775807:=aA5
 refine⟨cE,?_⟩;have cG:0<=max (n - 2) 0/\(0:Int) < 2:=aA5
 have dG: -9223372036854775808<=max (n - 2) 0/2/\max (n - 2) 0/2<=9223372036854775807:=aA5
 exact⟨cG,dG,bd⟩
def MJ (n:Int) (au:0<=n) (E:n<=4096):Fn prog 271 [ab n] [] [] (ab (dO n*16)) []:=by
 refine aU [] func271 ?_;refine az (GN n au E) ?_;have dG: -9223372036854775808<=dO n*16/\dO n*16<=9223372036854775807:=by unfold dO;omega
 exact⟨dG,bd⟩
end
section
abbrev Uy:bz:=.bT .str (.ce aj)
abbrev Uz:=aa Uy
abbrev aks (k:Uz):List Int:=k.2
def x7 (p:Nat×cJ) (L:fh) (b:Nat):jA (p::L) b=if p.1=b then some p.2 else jA L b:=rfl
abbrev akt:=Nat×(aa .str×aa .aM)
def yI (e:akt):Option Nat:=e.2.2
def uN (p:aa .str×aa .aM):aD2:=p.1
def q8 (p:aa .str×aa .aM):Option Nat:=p.2
structure td (es:List (aa .str×aa .aM)) (L:fh) (W:Nat):Prop where
 ex: ∀p∈es,∃a,q8 p=some a/\a∈L.map (·.1)
 ho:(es.map q8).Nodup
 MK:(L.map (·.1)).Nodup
 ok: ∀p∈L,hv p.2
 ML: ∀p∈L,p.2.je.length<=W
def UA {a:Nat} {m:cJ}: ∀{L:fh},jA L a=some m->(a,m)∈L
 | [],h=>by cases h
 |p::L,h=>by
  rw[x7] at h
  split at h
  .rename_i e;injection h with h
   rw[<-e,<-h];exact aq4 ..
  .exact ap4 _ (UA h)
end
section
def GO {b:Nat} {m:cJ}: ∀{L:fh},jA L b=some m->jl L b m=L
 | [],h=>by cases h
 |p::L,h=>by
  rw[x7] at h;show(if p.1=b then(p.1,m)::L else p::jl L b m)=_
  split at h
  .rename_i e;injection h with h
   rw[vj e,<-h]
  .rename_i e;rw[mu e,GO h]
def aku (a b:aD2):(fD .str (a:aa .str) (b:aa .str)=true)↔a=b:=by show yn a b=true↔a=b;unfold yn;exact decide_eq_true_iff
end
section
def nb (b:aD2):aD2×Bool:=if b.length < 4 then([],false) else if sb (b.take (b.length - 4))=b then(b.take (b.length - 4),true) else([],false)
def akv (b:aD2) (O:b.length<=1000000):Fn prog 270 [b0 .u8 b] [] [] (.cm [.one (.d (.cr .u8 (nb b).1)),.one (.d (.bool (nb b).2))]) []:=by
 unfold nb;refine aU [] func270 ?_;refine⟨fun c=>?_,fun c=>?_⟩
 .have c:(b.length:Int) < 4:=gd c;rw[vj (show b.length < 4 by omega)];exact bd
 have c: ¬(b.length:Int) < 4:=oj c;rw[mu (show¬b.length < 4 by omega)];have q: -9223372036854775808<=(b.length:Int) - 4/\(b.length:Int) - 4<=9223372036854775807:=aA5
 have cG:0<=(b.length:Int) - 4/\(b.length:Int) - 4<=(b.length:Nat):=aA5
 have e:((b.length:Int) - 4).toNat=b.length - 4:=aA5
 have ak:(b.take (b.length - 4)).length<=1000000:=aB8
 have ax:(sb (b.take (b.length - 4))).length<=4294967296:=by
  unfold sb;rw[ap3,p4];omega
 have bt:List.drop 0 (List.take ((b.length:Int) - 4).toNat b)=b.take (b.length - 4):=by rw[e,List.drop_zero]
 refine⟨q,cG,az (Fn.arg (Ux (b.take (b.length - 4)) ak) ⟨bt,trivial⟩) <| az (aj2 (sb (b.take (b.length - 4))) b ax az7) ⟨fun d=>?_,fun d=>?_⟩⟩
 .have d: ¬sb (b.take (b.length - 4))=b:=by simpa using d
  rw[mu d];exact bd
 .have d:sb (b.take (b.length - 4))=b:=by simpa using d
  rw[vj d];exact⟨q,cG,az (Fn.arg (KE (b.take (b.length - 4)) az7) ⟨bt,trivial⟩) bd⟩
def At {m:cJ} {L:fh} {b:Nat} (cP:jA L b=some m):Fn prog 272 [di b] [(1003,.aA (.bD (fo L)))] [] (ab m.n) [(1003,.aA (.bD (fo L)))]:=by
 have:=GK (ajX m) cP rfl rfl
 rwa[GO cP] at this
def UB {m:cJ} {L:fh} {b:Nat} (cP:jA L b=some m) (h:hv m) (at_ aT:Int) (au:0<=aT) (aG:m.kU at_ aT=true):Fn prog 269 [di b,ab at_,ab aT] [(1003,.aA (.bD (fo L)))] [] (.cm [.one (.d (.cr .u8 (p6 m.b8 at_ aT.toNat))),dJ 0]) [(1003,.aA (.bD (fo L)))]:=by
 have:=GK (akc m at_ aT au aG h.r9 h.c4 h.b8.wf) cP rfl rfl
 rwa[GO cP] at this
def nc (m:cJ) (k:Int):aD2:=p6 m.b8 k 1
def iH (x:aD2):Nat×Nat×Nat:=((fm 4 (x,0)).2,(fm 4 (fm 4 (x,0)).1).2,(fm 4 (fm 4 (fm 4 (x,0)).1).1).2)
def po (m:cJ) (k:Int):aD2:=p6 m.b8 (2+k*dO m.n) (dO m.n).toNat
def pp (m:cJ) (k:Int):aD2×Int:=match(nb (nc m k)).2 with
 |false=>([],0)
 |true=>match decide (((iH (nb (nc m k)).1).1:Int) < 1)||decide ((1073741824:Int) < ((iH (nb (nc m k)).1).1:Int))||decide (dO m.n*16 < ((iH (nb (nc m k)).1).2.1:Int)) with
  |true=>([],0)
  |false=>match decide (lc ((po m k).take (iH (nb (nc m k)).1).2.1)=((iH (nb (nc m k)).1).2.2:Int)) with
   |false=>([],0)
   |true=>((po m k).take (iH (nb (nc m k)).1).2.1,((iH (nb (nc m k)).1).1:Int))
def C' {n:Int} (G:2<=n) (E:n<=4096):0<=dO n/\2+dO n+dO n<=n:=by unfold dO;omega
def akw {m:cJ} (ai:hv m) (G:2<=m.n) (k:Int):(po m k).length=16*(dO m.n).toNat:=GG ai.b8.wf _ _
def akx {m:cJ} (ai:hv m) (G:2<=m.n) (k:Int) (Z:k=0\/k=1) {s:Nat} {M:fh} (ah:jA M s=some m):Fn prog 249 [di s,ab k] [(1003,.aA (.bD (fo M)))] [] (.cm [.one (.d (.cr .u8 (pp m k).1)),.one (.d (.int .i64 (pp m k).2))]) [(1003,.aA (.bD (fo M)))]:=by
 have km:=ai.c4;have dC:m.kU k 1=true:=by simp only[cJ.kU,ao8,as1];omega
 obtain⟨a0,bR⟩:=C' G km;unfold pp;refine aU [] func249 ?_;refine az (UB ah ai k 1 az8 dC) ?_
 have bf:(nc m k).length<=1000000:=by
  have:=GG ai.b8.wf k 1;unfold nc;omega
 refine az (akv (nc m k) bf) <| dR ?_
 cases vf:(nb (nc m k)).2 with
 |false=>
  exact gV bd
 |true=>
  refine dR ?_
  have hx:(nb (nc m k)).1.length<=4294967296:=by
   unfold nb
   split
   .simp
   .split
    .show((nc m k).take _).length<=_;rw[aq0];omega
    .simp
  generalize(nb (nc m k)).1=x at hx⊢;refine az (T2 x hx) ?_;refine az (uF (x,0) 4 (by unfold W;omega)) ?_;refine az (uF (fm 4 (x,0)).1 4 (by unfold W;omega)) ?_;refine az (uF (fm 4 (fm 4 (x,0)).1).1 4 (by unfold W;omega)) ⟨fun cy=>?_,fun cy=>?_⟩
  .have cy:decide (((iH x).1:Int) < 1)=true:=cy;rw[cy];exact bd
  have cy:decide (((iH x).1:Int) < 1)=false:=cy;rw[cy];refine⟨fun cu=>?_,fun cu=>?_⟩
  .have cu:decide ((1073741824:Int) < ((iH x).1:Int))=true:=cu;rw[cu];exact bd
  have cu:decide ((1073741824:Int) < ((iH x).1:Int))=false:=cu;rw[cu];refine az (At ah) <| az (MJ m.n ai.r9 ai.c4) ⟨fun gl=>?_,fun gl=>?_⟩
  .have gl:decide (dO m.n*16 < ((iH x).2.1:Int))=true:=gl;rw[gl];exact bd
  have gl:decide (dO m.n*16 < ((iH x).2.1:Int))=false:=gl;rw[gl];have bZ:=akw ai G k
  have mm:(iH x).2.1<=(po m k).length:=by
   have:=oj gl;omega
  refine az (At ah) <| az (GN m.n ai.r9 ai.c4) ?_;have cE: -9223372036854775808<=k*dO m.n/\k*dO m.n<=9223372036854775807:=by rcases Z with rfl |rfl <;>omega
  have cG: -9223372036854775808<=2+k*dO m.n/\2+k*dO m.n<=9223372036854775807:=by rcases Z with rfl |rfl <;>omega
  have nQ:m.kU (2+k*dO m.n) (dO m.n)=true:=by
   simp only[cJ.kU,ao8,as1];rcases Z with rfl |rfl <;>omega
  refine⟨cE,cG,az (At ah) <| az (GN m.n ai.r9 ai.c4) <| az (UB ah ai (2+k*dO m.n) (dO m.n) a0 nQ) ?_⟩;have dG:0<=((iH x).2.1:Int)/\((iH x).2.1:Int)<=((po m k).length:Nat):=aA5
  refine⟨dG,?_⟩;have c3:([List.drop 0 (List.take (((iH x).2.1:Nat):Int).toNat (po m k))]:List aD2)=[(po m k).take (iH x).2.1]:=rfl;refine az (Fn.arg (Mv [(po m k).take (iH x).2.1] az9 (fun y aC=>by rw[aq6] at aC;rw[aC,aq0];omega)) ⟨c3,trivial⟩) ?_;have gi:([(po m k).take (iH x).2.1]:List aD2).flatten=(po m k).take (iH x).2.1:=by simp
  rw[gi];refine⟨fun s2=>?_,fun s2=>?_⟩
  .have s2:(!decide (lc ((po m k).take (iH x).2.1)=((iH x).2.2:Int)))=true:=s2;have Cj:decide (lc ((po m k).take (iH x).2.1)=((iH x).2.2:Int))=false:=by simpa using s2
   rw[Cj];exact bd
  .have s2:(!decide (lc ((po m k).take (iH x).2.1)=((iH x).2.2:Int)))=false:=s2;have Cj:decide (lc ((po m k).take (iH x).2.1)=((iH x).2.2:Int))=true:=by simpa using s2
   rw[Cj];refine bo (abr eC rfl rfl rfl rfl rfl rfl dG.1 dG.2) ?_;exact bd
def hc (m:cJ):Nat->Int×aD2×Int
 |0=>(-1,[],0)
 |j+1=>if(hc m j).2.2 < (pp m (j:Nat)).2 then((j:Nat),(pp m (j:Nat)).1,(pp m (j:Nat)).2) else hc m j
abbrev aky (m:cJ) (s j:Nat):aW:=[(0,di s),(5,ab (hc m j).1),(6,ab (hc m j).2.2),(7,b0 .u8 (hc m j).2.1),(11,ab (j:Nat))]
def UC {m:cJ} (ai:hv m) (G:2<=m.n) {s:Nat} {M:fh} (ah:jA M s=some m):Fn prog 211 [di s] [(1003,.aA (.bD (fo M)))] [] (.cm [.one (.d (.int .i64 (hc m 2).1)),.one (.d (.cr .u8 (hc m 2).2.1)),.one (.d (.int .i64 (hc m 2).2.2))]) [(1003,.aA (.bD (fo M)))]:=by
 refine aU [] func211 ?_;refine ed [] (X:=Nat) (aky m s) (fun _=>[(1003,.aA (.bD (fo M)))]) (fun j=>j<=2) (fun j=>2 - j) 0 az8 ?_ ?_
 .exact ac.sub aE aE
 intro j V;refine⟨fun h=>?_,fun h=>?_⟩
 .have h:(j:Int) < 2:=gd h;refine az (akx ai G (j:Nat) az7 ah) ⟨fun c=>?_,fun c=>?_⟩
  .have c:(hc m j).2.2 < (pp m (j:Nat)).2:=gd c;have e:hc m (j+1)=(((j:Nat):Int),(pp m (j:Nat)).1,(pp m (j:Nat)).2):=vj c;refine⟨az7,j+1,az7,az7,ac.sub ⟨rfl,?_,?_,?_,rfl,trivial⟩ aE⟩
   .rw[e];rfl
   .rw[e];rfl
   .rw[e];rfl
  .have c: ¬(hc m j).2.2 < (pp m (j:Nat)).2:=oj c;have e:hc m (j+1)=hc m j:=mu c;refine⟨az7,j+1,az7,az7,ac.sub ⟨rfl,?_,?_,?_,rfl,trivial⟩ aE⟩
   .rw[e];rfl
   .rw[e];rfl
   .rw[e];rfl
 .have h: ¬(j:Int) < 2:=oj h;have fM:j=2:=aA5
  subst fM;exact bd
end
section
abbrev iT:=Option (Int×aD2)
inductive x8 (L:List (Nat×bc)) (bF:Nat):aa .fn->iT->Prop
 |f:x8 L bF (p7 bF) none
 |w {a b:Nat} {at_:Int} {x:aD2}:eN L a=some (g5 (.int .i64 at_))->eN L b=some (g5 (.cr .u8 x))->x8 L bF (n1 bF a b) (some (at_,x))
def pq (L:List (Nat×bc)) (bF:Nat):List (aa .fn)->List iT->Prop
 | [],[]=>True
 |f::l,t::m=>x8 L bF f t/\pq L bF l m
 |_,_=>False
def UD {a:Nat} {o:bc}: ∀{L:List (Nat×bc)},eN L a=some o->a∈L.map (·.1)
 | [],h=>by cases h
 |(b,q)::L,h=>by
  unfold eN at h
  split at h
  .rename_i e;rw[aq5];exact ap7.2 (.inl e.symm)
  .rw[aq5];exact ap4 _ (UD h)
def Da {a b:Nat} {o q:bc} {L:List (Nat×bc)} (h:eN L a=some o) (hn:b∉L.map (·.1)):eN ((b,q)::L) a=some o:=by
 have a6: ¬b=a:=fun e=>hn (e▸UD h)
 unfold eN;rw[mu a6];exact h
def x8.pQ {L:List (Nat×bc)} {bF b:Nat} {q:bc} (hn:b∉L.map (·.1)) {f:aa .fn} {t:iT} (h:x8 L bF f t):x8 ((b,q)::L) bF f t:=by
 cases h with
 |f=>exact .f
 |w E G=>exact .w (Da E hn) (Da G hn)
def pq.pQ {L:List (Nat×bc)} {bF b:Nat} {q:bc} (hn:b∉L.map (·.1)): ∀{l:List (aa .fn)} {m:List iT},pq L bF l m->pq ((b,q)::L) bF l m
 | [],[],_=>trivial
 |f::l,t::m,h=>⟨h.1.pQ hn,pq.pQ hn h.2⟩
 | [],_::_,h=>h.elim
 |_::_,[],h=>h.elim
def pq.Au {L:List (Nat×bc)} {bF:Nat} {f:aa .fn} {t:iT} (G:x8 L bF f t): ∀{l:List (aa .fn)} {m:List iT},pq L bF l m->pq L bF (l++[f]) (m++[t])
 | [],[],_=>⟨G,trivial⟩
 |f::l,t::m,h=>⟨h.1,pq.Au G h.2⟩
 | [],_::_,h=>h.elim
 |_::_,[],h=>h.elim
def pq.len {L:List (Nat×bc)} {bF:Nat}: ∀{l:List (aa .fn)} {m:List iT},pq L bF l m->l.length=m.length
 | [],[],_=>rfl
 |f::l,t::m,h=>by rw[as9,as9,pq.len h.2]
 | [],_::_,h=>h.elim
 |_::_,[],h=>h.elim
def x9 (x:D):(g5 x).ot:=fun I F w p h=>(h.1 _).2 rfl
structure p8 (L:List (Nat×bc)) (bF s:Nat) (eG:List (aa .fn)) (gc:List iT):Prop where
 an: ∀p∈L,p.2.ot
 ao:eN L bF=some (g5 (.aM (some s)))
 aw:pq L bF eG gc
def p8.write {L:List (Nat×bc)} {bF s a b:Nat} {eG:List (aa .fn)} {gc:List iT} {at_:Int} {x:aD2} (h:p8 L bF s eG gc) (hn:(((b,g5 (.cr .u8 x))::(a,g5 (.int .i64 at_))::L).map (·.1)).Nodup):
  p8 ((b,g5 (.cr .u8 x))::(a,g5 (.int .i64 at_))::L) bF s (eG++[n1 bF a b]) (gc++[some (at_,x)]):=by
 rw[aq5,as2,aq5,as2] at hn;obtain⟨c4,ec,mn⟩:=hn;rw[ap7,not_or] at c4
 have O:b∉((a,g5 (.int .i64 at_))::L).map (·.1):=by
  rw[aq5,ap7,not_or];exact c4
 refine⟨fun p ao=>?_,Da (Da h.ao ec) O,pq.Au (.w (Da ?_ O) ?_) ((h.aw.pQ ec).pQ O)⟩
 .rcases ap7.1 ao with rfl |ao
  .exact x9 _
  .rcases ap7.1 ao with rfl |ao
   .exact x9 _
   .exact h.an p ao
 .unfold eN;rw[vj rfl]
 .unfold eN;rw[vj rfl]
def p8.pn {L:List (Nat×bc)} {bF s:Nat} {eG:List (aa .fn)} {gc:List iT} (h:p8 L bF s eG gc):p8 L bF s (eG++[p7 bF]) (gc++[none]):=⟨h.an,h.ao,h.aw.Au .f⟩
abbrev tf (e:Int) (eG:List (aa .fn)) (L:List (Nat×bc)):av:=[(1001,.cells [.d (.cr .fn eG),.d (.int .i64 e)]),(1005,.aA (.bD L))]
def q9 (s:Nat) (gc:List iT) (e:Int):bc where
 bn:=fun I F w p=> ∃(bF:Nat) (eG:List (aa .fn)) (L:List (Nat×bc)),p8 L bF s eG gc/\j1 1001 (tf e eG L) I F w p
 cg:=fun I F w I' w' p ⟨bF,eG,L,Z,h⟩ U bj aO=>⟨bF,eG,L,Z,(bc.iz 1001 (tf e eG L)).cg I F w I' w' p h U bj aO⟩
def oJ (b:aD2) (j:Nat):aD2:=laid (List.replicate 16 0) 0 16 (b.drop (16*j))
def kV (b:aD2) (k kE:Int):Nat->List iT
 |0=>[]
 |j+1=>kV b k kE j++[some (2+k*kE+(j:Nat),oJ b j)]
def x' (b:aD2) (k kE:Int): ∀j,(kV b k kE j).length=j
 |0=>rfl
 |j+1=>by rw[kV,ap3,x'];rfl
def jm (b:aD2):Nat:=(b.length+15)/16
def uO (b:aD2) (n:Int):aD2:=sb (hJ 4 [(n+1).toNat,b.length,(lc b).toNat])
def sc (b:aD2) (k kE n:Int):List iT:=kV b k kE (jm b)++[none]++[some (k,uO b n)]++[none]
abbrev UE (b:aD2) (bF:Nat) (n k:Int) (j:Nat):aW:=[(1,b0 .u8 b),(2,di bF),(8,ab n),(9,ab k),(10,ap 10),(11,.c (.one (.cW 276 [.d (.aM (some bF))]))),(12,.c (.one (.cW 278 [.p 10 0,.d (.aM (some bF))]))),(13,ab (16*(j:Nat)))]
abbrev UF (M:fh) (d:Nat) (eG:List (aa .fn)) (L:List (Nat×bc)):av:=[(10,.cells [.ptr 37 0]),(37,.cells [.own d,.d (.int .i64 0)]),(d,.row 121 .fn eG),(1005,.aA (.bD L)),(1003,.aA (.bD (fo M)))]
def akz {m:cJ} (ai:hv m) (G:2<=m.n) {s:Nat} {M:fh} (ah:jA M s=some m) (b:aD2) (O:(b.length:Int)<=dO m.n*16) (GP:(hc m 2).2.2 < 1073741824) (GQ:0<=(hc m 2).2.2) (iQ: -1<=(hc m 2).1/\(hc m 2).1<=1):
  Fn prog 251 [di s,b0 .u8 b] [(1003,.aA (.bD (fo M)))] [2001] (.cm [.one (.ptr 2001 0),dJ 0]) [(1003,.aA (.bD (fo M))),(2001,.aA (q9 s (sc b (((hc m 2).1+1) % 2) (dO m.n) (hc m 2).2.2) 0))]:=by
 obtain⟨a0,bR⟩:=C' G ai.c4;have km:=ai.c4;have fG:b.length<=1000000:=aA5
 refine aU [8,18,20] func251 ?_;refine⟨rfl,az (UC ai G ah) ?_⟩;generalize hc m 2=bb at GP GQ iQ⊢;obtain⟨wa,aoX,n⟩:=bb;simp only at GP GQ iQ⊢;refine az (At ah) <| az (MJ m.n ai.r9 ai.c4) ⟨fun c=>?_,fun _=>?_⟩
 .have c:dO m.n*16 < (b.length:Int):=gd c;omega
 refine⟨fun c=>ap0 (gd c) az7,fun _=>?_⟩;have cE: -9223372036854775808<=wa+1/\wa+1<=9223372036854775807:=aA5
 have cG:0<=wa+1/\(0:Int) < 2:=aA5
 have dG: -9223372036854775808<=(wa+1) % 2/\(wa+1) % 2<=9223372036854775807:=aA5
 refine⟨cE,cG,dG,?_⟩;have Z:(wa+1) % 2=0\/(wa+1) % 2=1:=aA5
 generalize(wa+1) % 2=k at Z⊢;refine⟨rfl,rfl,bB.le (ac.t7 1005 rfl) <| bB.le (ac.yR 37 0 3006 121 .fn rfl rfl rfl) <| bB.fJ (du.box 2 2 1005 rfl rfl az8 rfl) fun bF=>bx [] (bu) ?_⟩;refine ed [12,15] (X:=Nat×List (aa .fn)×List (Nat×bc)) (fun x=>UE b bF n k x.1) (fun x=>UF M 3006 x.2.1 x.2.2) (fun x=>x.1<=jm b/\p8 x.2.2 bF s x.2.1 (kV b k (dO m.n) x.1)) (fun x=>jm b - x.1) (0,[],[(bF,g5 (.aM (some s)))]) ⟨ap9 _,fun p ao=>(by rw[aq6] at ao;rw[ao];exact x9 _),by unfold eN;rw[vj rfl],trivial⟩ ?_ ?_
 .exact ac.sub aE aE
 rintro⟨j,eG,L⟩ ⟨V,cT⟩;have V:j<=jm b:=V;have cT:p8 L bF s eG (kV b k (dO m.n) j):=cT;have bZ:=cT.aw.len;rw[x'] at bZ;refine⟨fun J=>?_,fun J=>?_⟩
 .have J:(16*(j:Nat):Int) < (b.length:Nat):=gd J;have fg:j < jm b:=by unfold jm;omega
  refine⟨⟨rfl,az8,az8⟩,rfl,?_⟩;have xb:0<=(16*(j:Nat):Int)/\(16*(j:Nat):Int)<=(b.length:Nat):=aA5
  refine⟨xb,az8,bB.le (ac.dX 46 rfl) <| bB.hP eC aA0 <| bo (BR (q:=1005) rfl underlying231 rfl rfl rfl cT.ao) ?_⟩;refine mN ((At ah).x) fun _=>mN ((GN m.n ai.r9 ai.c4).x) fun _=>?_
  have vp: -9223372036854775808<=k*dO m.n/\k*dO m.n<=9223372036854775807:=by rcases Z with rfl |rfl <;>omega
  have xc: -9223372036854775808<=2+k*dO m.n/\2+k*dO m.n<=9223372036854775807:=by rcases Z with rfl |rfl <;>omega
  have Jb:0<=(16*(j:Nat):Int)/\(0:Int) < 16:=aA5
  have akA: -9223372036854775808<=(16*(j:Nat):Int)/16/\(16*(j:Nat):Int)/16<=9223372036854775807:=aA5
  have Db:(16*(j:Nat):Int)/16=(j:Nat):=aA5
  have akB: -9223372036854775808<=2+k*dO m.n+(16*(j:Nat):Int)/16/\2+k*dO m.n+(16*(j:Nat):Int)/16<=9223372036854775807:=by rcases Z with rfl |rfl <;>omega
  refine⟨vp,xc,Jb,akA,akB,mN (cz.a7 [(1001,10),(1002,37),(1006,3006),(2006,4006)] (Uw (2+k*dO m.n+(16*(j:Nat):Int)/16) _ bF 0 eG L az7)) fun g=>bB.fJ (du.BO 1005 ?_ rfl) fun dx=>?_⟩
  .intro p ao;rcases ap7.1 ao with rfl |ao
   .exact x9 _
   .rcases ap7.1 ao with rfl |ao
    .exact x9 _
    .exact cT.an p ao
  have nM:laid (List.replicate (Int.toNat 16) 0) 0 (List.replicate (Int.toNat 16) (0:UInt8)).length (List.drop (16*(j:Nat):Int).toNat (List.take b.length b))=oJ b j:=by
   unfold oJ;rw[ar2,show(16*(j:Nat):Int).toNat=16*j by omega];rfl
  have akC:p8 ((g.2,g5 (.cr .u8 (oJ b j)))::(g.1,g5 (.int .i64 (2+k*dO m.n+(16*(j:Nat):Int)/16)))::L) bF s (eG++[n1 bF g.1 g.2]) (kV b k (dO m.n) (j+1)):=by
   have bG:=cT.write (a:=g.1) (b:=g.2) (at_:=2+k*dO m.n+(16*(j:Nat):Int)/16) (x:=oJ b j) (by rw[<-nM];exact dx.down);have akD:(some (2+k*dO m.n+(16*(j:Nat):Int)/16,oJ b j):iT)=some (2+k*dO m.n+(j:Nat),oJ b j):=by rw[Db]
   rw[akD] at bG;exact bG
  have akE: -9223372036854775808<=(16*(j:Nat):Int)+16/\(16*(j:Nat):Int)+16<=9223372036854775807:=aA5
  refine bx [] (bu) ⟨akE,?_⟩;refine⟨(j+1,eG++[n1 bF g.1 g.2],(g.2,g5 (.cr .u8 (oJ b j)))::(g.1,g5 (.int .i64 (2+k*dO m.n+(16*(j:Nat):Int)/16)))::L),⟨fg,akC⟩,by show jm b - (j+1) < jm b - j;omega,ac.trans (ac.sub (K':=UE b bF n k (j+1)) (B':=UF M 4006 (eG++[n1 bF g.1 g.2]) ((g.2,g5 (.cr .u8 (oJ b j)))::(g.1,g5 (.int .i64 (2+k*dO m.n+(16*(j:Nat):Int)/16)))::L)) ⟨rfl,rfl,rfl,rfl,rfl,rfl,rfl,?_,trivial⟩ ⟨rfl,rfl,rfl,?_,rfl,trivial⟩) (ac.a7 4006 3006 rfl)⟩
  .show(16*(j:Nat):Int)+16=16*((j+1:Nat):Int);omega
  .rw[<-nM];rfl
 .have J: ¬(16*(j:Nat):Int) < (b.length:Nat):=oj J;have fg:j=jm b:=by unfold jm at V⊢;omega
  subst fg;have ax:=Ui b;have lg:jm b<=100000:=by unfold jm;omega
  have r1: -9223372036854775808<=n+1/\n+1<=9223372036854775807:=aA5
  refine⟨r1,?_⟩;refine az (Mv [b] az9 (fun y aC=>by rw[aq6] at aC;rw[aC];omega)) ?_;have af:([b]:aF4).flatten=b:=by simp
  rw[af]
  have al:([n+1,((b.length:Nat):Int),lc b]:List Int)=tb [(n+1).toNat,b.length,(lc b).toNat]:=by
   show _=[(((n+1).toNat:Nat):Int),((b.length:Nat):Int),(((lc b).toNat:Nat):Int)];rw[show(((n+1).toNat:Nat):Int)=n+1 by omega,show(((lc b).toNat:Nat):Int)=lc b by omega]
  refine⟨_,_,_,_,Fn.arg (Fn.a7 [(1002,5002)] (TS 4 [(n+1).toNat,b.length,(lc b).toNat] (by unfold W;omega) (fun x hx=>by
   simp only[ap7,List.not_mem_nil,or_false] at hx;rcases hx with rfl |rfl |rfl <;>omega) az9)) ⟨rfl,rfl,al,trivial⟩,trivial,rfl,?_⟩
  have jd:eG.length+1<=4294967296:=aA5
  refine⟨jd,rfl,rfl,bB.le (ac.dX 5002 rfl) <| bB.hP eC aA0 ?_⟩;have akF:(hJ 4 [(n+1).toNat,b.length,(lc b).toNat]).length<=1000000:=by rw[vZ];simp
  refine mN ((Ux (hJ 4 [(n+1).toNat,b.length,(lc b).toNat]) akF).x) fun _=>?_
  refine mN (cz.a7 [(1001,10),(1002,37),(1006,83),(2006,4006)] (Uw k (uO b n) bF 0 (eG++[p7 bF]) L (by rw[ap3];simp;omega))) fun g=>?_
  have iZ:(eG++[p7 bF]++[n1 bF g.1 g.2]).length+1<=4294967296:=aB1
  refine⟨iZ,rfl,rfl,bB.fJ (du.BO 1005 ?_ rfl) fun dx=>?_⟩
  .intro p ao;rcases ap7.1 ao with rfl |ao
   .exact x9 _
   .rcases ap7.1 ao with rfl |ao
    .exact x9 _
    .exact cT.an p ao
  have akG:=(cT.pn.write (a:=g.1) (b:=g.2) (at_:=k) (x:=uO b n) dx.down).pn;exact bx [] (ac.dX 98 rfl) ⟨_,_,_,(ac.a7 37 2001 rfl).trans (ac.close 2001 [(2001,.cells [.d (.cr .fn (eG++[p7 bF]++[n1 bF g.1 g.2]++[p7 bF])),.d (.int .i64 0)]),(1005,.aA (.bD ((g.2,g5 (.cr .u8 (uO b n)))::(g.1,g5 (.int .i64 k))::L)))] (o:=q9 s (sc b k (dO m.n) n) 0) aE rfl fun I F w p h=>⟨bF,_,_,akG,j1.a7 [(2001,1001)] h⟩),rfl,aE,aE,rfl⟩
end
section
def UG {f:aE8} {args:List aN} {s:Nat} {gc MM:List iT} {e ca:Int} {aJ aP:av} {res:aN} (J:iX prog f=true)
  (h: ∀(bF:Nat) (eG:List (aa .fn)) (L:List (Nat×bc)),p8 L bF s eG gc-> ∃(Av:List (aa .fn)),p8 L bF s Av MM/\Fn prog f args (tf e eG L++aJ) [] res (tf ca Av L++aP))
  (E: ∀(eG:List (aa .fn)) (L:List (Nat×bc)),nA 1001 [1005] args (tf e eG L) aJ [] []=true) (G: ∀(eG:List (aa .fn)) (L:List (Nat×bc)),nB 1001 [1005] res (tf ca eG L) aP=true):
  Fn prog f args ((1001,.aA (q9 s gc e))::aJ) [] res ((1001,.aA (q9 s MM ca))::aP):=by
 refine Fn.BN (Y:={y:Nat×List (aa .fn)×List (Nat×bc)//p8 y.2.2 y.1 s y.2.1 gc}) (qD:=fun y=>bc.iz 1001 (tf e y.1.2.1 y.1.2.2)) J (fun I F w p ⟨bF,eG,L,Z,aV⟩=>⟨⟨(bF,eG,L),Z⟩,aV⟩) fun⟨⟨bF,eG,L⟩,Z⟩=>?_
 obtain⟨Av,akH,hf⟩:=h bF eG L Z;exact(cz.close (bp:=tf e eG L) (dD:=fun _:Unit=>tf ca Av L) (aP:=fun _=>aP) (o:=bc.iz 1001 (tf e eG L)) (o':=fun _=>q9 s MM ca) [1005] hf.x (fun _ _ _ _ h=>h) (fun _ I F w p aV=>⟨bF,Av,L,akH,aV⟩) (E eG L) (fun _=>G Av L)).fn
def akI (s:Nat) (gc:List iT) (e:Int):Fn prog 252 [ap 1001] [(1001,.aA (q9 s gc e))] [] (ab (gc.length:Nat)) [(1001,.aA (q9 s gc e))]:=by
 refine UG (aJ:=[]) (aP:=[]) aA0 (fun bF eG L Z=>⟨eG,Z,?_⟩) (fun _ _=>rfl) fun _ _=>rfl
 refine aU [] func252 ?_;exact er bu rfl (ap1 (fun n:Nat=>(n:Int)) Z.aw.len)
def uP (m:cJ):iT->cJ×Int
 |none=>(m.pn,0)
 |some (a,x)=>m.write a x
def GR {α:Type} (f:α) (l:List α):List.drop 1 (List.take (f::l).length (f::l))=l:=by rw[ar2];rfl
def akJ {s:Nat} {st:iT} {rest:List iT} {M:fh} {m:cJ} (ah:jA M s=some m) (ai:hv m) (ak:m.je.length<=1073741824) (hx: ∀a x,st=some (a,x)->x.length<=1073741824) (U:(uP m st).2=0):
  Fn prog 253 [ap 1001] [(1001,.aA (q9 s (st::rest) 0)),(1003,.aA (.bD (fo M)))] [] (.cm [.one (.d (.bool (decide ((rest.length:Int)=0)))),dJ 0]) [(1001,.aA (q9 s rest 0)),(1003,.aA (.bD (fo (jl M s (uP m st).1))))]:=by
 refine UG (aJ:=[(1003,.aA (.bD (fo M)))]) (aP:=[(1003,.aA (.bD (fo (jl M s (uP m st).1))))]) aA0 (fun bF eG L Z=>?_) (fun _ _=>rfl) fun _ _=>rfl
 match eG,Z with
 | [],Z=>exact Z.aw.elim
 |f::l,Z=>
  refine⟨l,⟨Z.an,Z.ao,Z.aw.2⟩,?_⟩;have bZ:=Z.aw.2.len;have e1:=Z.aw.1
  cases e1 with
  |f=>
   refine aU [] func253 ?_;refine⟨fun c=>?_,fun _=>?_⟩
   .have c:(((p7 bF::l).length:Nat):Int)=0:=gd c;simp at c;omega
   refine⟨az8,p7 bF,rfl,az (akp Z.ao ah) ?_⟩;have q:0<=(1:Int)/\(1:Int)<=(((p7 bF::l).length:Nat):Int):=by rw[as9];omega
   refine⟨q,dR <| gV ⟨rfl,_,_,_,bu,rfl,⟨?_,rfl,trivial⟩,⟨?_,rfl,rfl,trivial⟩,rfl⟩⟩
   .show decide (((List.drop 1 (List.take (p7 bF::l).length (p7 bF::l))).length:Int)=0)=_;rw[GR,bZ]
   .show some (ba.cells [.d (.cr .fn (List.drop 1 (List.take (p7 bF::l).length (p7 bF::l)))),.d (.int .i64 0)])=_;rw[GR]
  | @w a b at_ x aS bG=>
   have U:(m.write at_ x).2=0:=U;have hw:=akq Z.ao aS bG ah ai (hx at_ x rfl) ak;rw[U] at hw;refine aU [] func253 ?_;refine⟨fun c=>?_,fun _=>?_⟩
   .have c:(((n1 bF a b::l).length:Nat):Int)=0:=gd c;simp at c;omega
   refine⟨az8,n1 bF a b,rfl,az hw ?_⟩;have q:0<=(1:Int)/\(1:Int)<=(((n1 bF a b::l).length:Nat):Int):=by rw[as9];omega
   refine⟨q,dR <| gV ⟨rfl,_,_,_,bu,rfl,⟨?_,rfl,trivial⟩,⟨?_,rfl,rfl,trivial⟩,rfl⟩⟩
   .show decide (((List.drop 1 (List.take (n1 bF a b::l).length (n1 bF a b::l))).length:Int)=0)=_;rw[GR,bZ]
   .show some (ba.cells [.d (.cr .fn (List.drop 1 (List.take (n1 bF a b::l).length (n1 bF a b::l)))),.d (.int .i64 0)])=_;rw[GR]
end
section
def sd (n:Int):iT->Prop
 |none=>True
 |some (a,x)=>0<=a/\a < n/\x.length=16
def akK {n:Int} {s:iS} (h:oI n s):(s.length:Int)<=max n 0:=by
 have:=GM n.toNat (q6 s) h.ho fun k Z=>by have:=h.rg k Z;omega
 rw[show(q6 s).length=s.length from aq3 _] at this;omega
def UH {k:Int} {x:aa gR}: ∀{s:iS},(bV s (k:aa aj)).isSome=true->(r' s k x).length=s.length
 | [],h=>by cases h
 |p::s,h=>by
  rw[As]
  cases e:mz k p with
  |true=>rfl
  |false=>
   have G:(bV s (k:aa aj)).isSome=true:=by
    have h:(match mz k p with |true=>some p.2 |false=>bV s (k:aa aj)).isSome=true:=h;rw[e] at h;exact h
   simp only[as9];rw[UH G]
def UI {k:Int} {x:aa gR}: ∀{s:iS},(bV s (k:aa aj)).isSome=false->(r' s k x).length=s.length+1
 | [],_=>rfl
 |p::s,h=>by
  rw[As];have h:(match mz k p with |true=>some p.2 |false=>bV s (k:aa aj)).isSome=false:=h
  cases e:mz k p with
  |true=>rw[e] at h;cases h
  |false=>
   rw[e] at h;simp only[as9];rw[UI h]
def UJ {m:cJ} (ai:hv m) (aw:m.n<=m.R) {a:Int} {x:aD2} (h:sd m.n (some (a,x))):m.write a x=(m.GJ a x,0):=by
 obtain⟨E,G,ag⟩:=h;have af:uL x=false:=by unfold uL;rw[ag];rfl
 have al:m.kU a (x.length/16:Nat)=true:=by
  rw[ag];simp only[cJ.kU,ao8,as1];omega
 have Z:(oI m.n (x5 a x m.b8 1)):=MG E ai.b8 1 az7 az7
 have bZ:((x5 a x m.b8 1).length:Nat)=m.b8.length+lz m.b8 a 1:=by
  show(r' m.b8 (a+(0:Nat)) (r8 x 0)).length=m.b8.length+(match(bV m.b8 (a+(0:Nat):Int)).isSome with |true=>0 |false=>0+1)
  cases e:(bV m.b8 (a+(0:Nat):Int)).isSome with
  |true=>exact UH e
  |false=>exact UI e
 have bt:m.q7 a (x.length/16)=false:=by
  rw[ag];unfold cJ.q7;rw[Bool.and_eq_false_iff];left;refine as7 fun br=>?_
  have bG:=akK Z;have:=ai.r9;have br:m.R < ((m.b8.length+lz m.b8 a 1:Nat):Int):=br;rw[<-bZ] at br;omega
 unfold cJ.write;rw[af];simp only;rw[al];simp only;rw[bt]
def nd (m:cJ) (l:List iT):cJ:=l.foldl (fun m st=>(uP m st).1) m
def Aw (m:cJ) (l:List iT) (st:iT):nd m (l++[st])=(uP (nd m l) st).1:=by unfold nd;rw[ax4];rfl
structure MN (m g4:cJ) (i:Nat):Prop where
 ok:hv g4
 n:g4.n=m.n
 R:g4.R=m.R
 h5:g4.je.length<=m.je.length+i
def UK {m:cJ} (ai:hv m) (aw:m.n<=m.R) {st:iT} (h:sd m.n st):(uP m st).2=0/\MN m (uP m st).1 1:=by
 match st,h with
 |none,_=>exact⟨rfl,ai.pn,rfl,rfl,ap9 _⟩
 |some (a,x),h=>
  have e:=UJ ai aw h;have hw:=ai.write a x;show(m.write a x).2=0/\MN m (m.write a x).1 1;rw[e] at hw⊢;refine⟨rfl,hw,rfl,rfl,?_⟩;show(v' a x m.je (x.length/16)).length<=_;rw[My,h.2.2];exact ao9 _
def Dc {m:cJ} (ai:hv m) (aw:m.n<=m.R): ∀(i:Nat) (l:List iT),(∀st∈l,sd m.n st)->i<=l.length->MN m (nd m (l.take i)) i
 |0,l,_,_=>⟨ai,rfl,rfl,ao9 _⟩
 |i+1,l,h,aG=>by
  have bl:=Dc ai aw i l h az7;rw[at2 aG,Aw];have G:=(UK bl.ok (by rw[bl.n,bl.R];exact aw) (st:=l[i]) (by rw[bl.n];exact h _ (ar4 aG))).2;exact⟨G.ok,G.n.trans bl.n,G.R.trans bl.R,by have:=G.h5;have:=bl.h5;omega⟩
def UL {a:Nat} {m1 m2:cJ}: ∀L:fh,jl (jl L a m1) a m2=jl L a m2
 | []=>rfl
 |p::L=>by
  show jl (if p.1=a then(p.1,m1)::L else p::jl L a m1) a m2=if p.1=a then(p.1,m2)::L else p::jl L a m2
  by_cases e:p.1=a
  .rw[vj e,vj e];show(if p.1=a then(p.1,m2)::L else _)=_;rw[vj e]
  .rw[mu e,mu e];show(if p.1=a then _ else p::jl (jl L a m1) a m2)=_;rw[mu e,UL]
def UM {a:Nat} {m g4:cJ}: ∀{L:fh},jA L a=some m->jA (jl L a g4) a=some g4
 | [],h=>by cases h
 |p::L,h=>by
  rw[x7] at h;show jA (if p.1=a then(p.1,g4)::L else p::jl L a g4) a=_
  by_cases e:p.1=a
  .rw[vj e,x7,vj e]
  .rw[mu e] at h⊢;rw[x7,mu e];exact UM h
def akL (b:aD2) (j:Nat):(oJ b j).length=16:=by unfold oJ laid;simp only[ap3,aq0,au8,aq7];omega
def UN (b:aD2) (n:Int):(uO b n).length=16:=by unfold uO sb;rw[ap3,p4,vZ];rfl
def UO {b:aD2} {k kE:Int} {st:iT}: ∀{j:Nat},st∈kV b k kE j-> ∃i:Nat,i < j/\st=some (2+k*kE+(i:Nat),oJ b i)
 |0,h=>by cases h
 |j+1,h=>by
  rw[kV,ar7,aq6] at h;rcases h with h |h
  .obtain⟨i,E,G⟩:=UO h;exact⟨i,az7,G⟩
  .exact⟨j,az7,h⟩
def UP {m:cJ} (ai:hv m) (G:2<=m.n) {b:aD2} (O:(b.length:Int)<=dO m.n*16) {k:Int} (Z:k=0\/k=1) (n:Int): ∀st∈sc b k (dO m.n) n,sd m.n st:=by
 obtain⟨a0,bR⟩:=C' G ai.c4;intro st e1;unfold sc at e1;simp only[ar7,aq6] at e1;rcases e1 with((h |h) |h) |h
 .obtain⟨i,E,rfl⟩:=UO h;have:(i:Int) < dO m.n:=by unfold jm at E;omega
  refine⟨?_,?_,akL b i⟩
  .rcases Z with rfl |rfl <;>omega
  .rcases Z with rfl |rfl <;>omega
 .rw[h];trivial
 .rw[h];exact⟨az7,az7,UN b n⟩
 .rw[h];trivial
def akM (b:aD2) (k kE n:Int):(sc b k kE n).length=jm b+3:=by unfold sc;simp[x']
abbrev akN (N i:Nat):aW:=[(5,ap 3001),(6,ab 0),(17,ab (N:Nat)),(18,ab (i:Nat))]
abbrev akO (s:Nat) (gc:List iT) (M:fh):av:=[(3001,.aA (q9 s gc 0)),(1003,.aA (.bD (fo M)))]
def akP {m:cJ} (ai:hv m) (aw:m.n<=m.R) {s:Nat} {M:fh} (ah:jA M s=some m) {gc:List iT} (ax: ∀st∈gc,sd m.n st) (ak:m.je.length+gc.length<=1000000) {i:Nat} (aG:i < gc.length):
  Fn prog 253 [ap 1001] [(1001,.aA (q9 s (gc.drop i) 0)),(1003,.aA (.bD (fo (jl M s (nd m (gc.take i))))))] [] (.cm [.one (.d (.bool (decide (((gc.drop (i+1)).length:Int)=0)))),dJ 0])
   [(1001,.aA (q9 s (gc.drop (i+1)) 0)),(1003,.aA (.bD (fo (jl M s (nd m (gc.take (i+1)))))))]:=by
 have E:=Dc ai aw i gc ax az7;have e1:=ax _ (ar4 aG)
 have G:=akJ (s:=s) (st:=gc[i]) (rest:=gc.drop (i+1)) (M:=jl M s (nd m (gc.take i))) (UM ah) E.ok (by have:=E.h5;omega) (fun a x e=>by
  rw[e] at e1;have:=e1.2.2;omega) (UK E.ok (by rw[E.n,E.R];exact aw) (by rw[E.n];exact e1)).1
 rw[UL,<-Aw,<-at2 aG,<-aw3 aG] at G;exact G
def akQ {m:cJ} (ai:hv m) (G:2<=m.n) (aw:m.n<=m.R) (ak:m.je.length<=10000) {s:Nat} {M:fh} (ah:jA M s=some m) (b:aD2) (O:(b.length:Int)<=dO m.n*16) (GP:(hc m 2).2.2 < 1073741824) (GQ:0<=(hc m 2).2.2) (iQ: -1<=(hc m 2).1/\(hc m 2).1<=1):
  Fn prog 214 [di s,b0 .u8 b] [(1003,.aA (.bD (fo M)))] [] (ab 0) [(1003,.aA (.bD (fo (jl M s (nd m (sc b (((hc m 2).1+1) % 2) (dO m.n) (hc m 2).2.2))))))]:=by
 have yG:=akz ai G ah b O GP GQ iQ;have bv:=UP ai G O (k:=((hc m 2).1+1) % 2) az7 (hc m 2).2.2;have h6:=akM b (((hc m 2).1+1) % 2) (dO m.n) (hc m 2).2.2;obtain⟨a0,bR⟩:=C' G ai.c4;have km:=ai.c4;have lg:jm b<=100000:=by unfold jm;omega
 generalize sc b (((hc m 2).1+1) % 2) (dO m.n) (hc m 2).2.2=gc at yG bv h6⊢;refine aU [] func214 ?_;refine az (Fn.a7 [(2001,3001)] yG) <| dR <| az (Fn.a7 [(1001,3001)] (akI s gc 0)) <| ed [] (X:=Nat) (fun i=>akN gc.length i) (fun i=>akO s (gc.drop i) (jl M s (nd m (gc.take i)))) (fun i=>i<=gc.length) (fun i=>gc.length - i) 0 (ap9 _) ?_ ?_
 .refine ac.sub aE ⟨rfl,?_,trivial⟩;show _=some (ba.aA (.bD (fo (jl M s m))));rw[GO ah];rfl
 intro i aG;refine⟨fun h=>?_,fun h=>?_⟩
 .have h:decide ((i:Int) < (gc.length:Nat))=true:=h;have dC:i < gc.length:=aA6
  exact az (Fn.a7 [(1001,3001)] (akP ai aw ah bv az7 dC)) ⟨az7,i+1,az7,az7,ac.sub aE aE⟩
 .have h:decide ((i:Int) < (gc.length:Nat))=false:=h;have dC:i=gc.length:=aD0
  subst dC;rw[ar2];exact bd
end
section
def MO (x:aa gR):aD2:=x
def Ax:aD2:=List.replicate 16 0
def akR (a:Int):it [] a=Ax:=rfl
def Dd (p:aa aj×aa gR) (s:iS) (a:Int):it (p::s) a=match mz a p with |true=>MO p.2 |false=>it s a:=by
 unfold it C5;show(match mz a p with |true=>some p.2 |false=>bV s (a:aa aj)).getD (cM gR)=_
 cases mz a p <;>rfl
def UQ (k:Int) (x:aa gR) (a:Int): ∀s:iS,it (r' s k x) a=if k=a then MO x else it s a
 | []=>by
  rw[GL,Dd,akR]
  by_cases h:k=a
  .rw[vj h,show mz a (x6 k x)=true from sa.2 h.symm];rfl
  .rw[mu h,show mz a (x6 k x)=false from aw6.2 fun e=>h (sa.1 e).symm]
 |p::s=>by
  rw[As]
  cases e:mz k p with
  |true=>
   have e:=sa.1 e;simp only;rw[Dd,Dd]
   by_cases h:k=a
   .rw[vj h,show mz a (x6 k x)=true from sa.2 h.symm];rfl
   .rw[mu h,show mz a (x6 k x)=false from aw6.2 fun al=>h (sa.1 al).symm,show mz a p=false from aw6.2 fun al=>h (e.trans (sa.1 al).symm)]
  |false=>
   have e: ¬k=C9 p:=fun h=>by rw[sa.2 h] at e;cases e
   simp only;rw[Dd,Dd,UQ k x a s]
   by_cases h:k=a
   .simp only[vj h,show mz a p=false from aw6.2 fun al=>e (h.trans (sa.1 al))]
   .simp only[mu h]
def akS (m:cJ) {a:Int} {x:aD2} (hx:x.length=16) (i:Int):it (m.GJ a x).b8 i=if a=i then x else it m.b8 i:=by
 show it (x5 a x m.b8 (x.length/16)) i=_;rw[hx];show it (r' m.b8 (a+(0:Nat)) (r8 x 0)) i=_;rw[UQ,show a+((0:Nat):Int)=a by omega]
 have e:MO (r8 x 0)=x:=by
  show GH x 0=x;rw[akd];show(x.drop 0).take 16=x;rw[List.drop_zero,<-hx,ar2]
 rw[e]
def UR {m:cJ} (ai:hv m) (aw:m.n<=m.R) {a:Int} {x:aD2} (h:sd m.n (some (a,x))) (i:Int):it (uP m (some (a,x))).1.b8 i=if a=i then x else it m.b8 i:=by show it (m.write a x).1.b8 i=_;rw[UJ ai aw h];exact akS m h.2.2 i
def MP {m:cJ} (ai:hv m) (aw:m.n<=m.R) {b:aD2} {k kE:Int} (i:Int): ∀j:Nat,(∀st∈kV b k kE j,sd m.n st)->
  it (nd m (kV b k kE j)).b8 i=if 2+k*kE<=i/\i < 2+k*kE+(j:Nat) then oJ b (i - (2+k*kE)).toNat else it m.b8 i
 |0,_=>by
  show it m.b8 i=_;rw[mu az7]
 |j+1,h=>by
  have E: ∀st∈kV b k kE j,sd m.n st:=fun st ax=>h st (ar7.2 (.inl ax))
  have G:sd m.n (some (2+k*kE+(j:Nat),oJ b j)):=h _ (ar7.2 (.inr (aq6.2 rfl)));have bl:=MP ai aw i j E;have Z:=Dc ai aw j (kV b k kE j) E (by rw[x'];exact ao9 _);rw[au0 (by rw[x'];exact ao9 _)] at Z;rw[kV,Aw,UR Z.ok (by rw[Z.n,Z.R];exact aw) (by rw[Z.n];exact G),bl]
  by_cases e:2+k*kE+(j:Nat)=i
  .rw[vj e,vj az7]
   congr 1
   omega
  .rw[mu e]
   by_cases al:2+k*kE<=i/\i < 2+k*kE+(j:Nat)
   .rw[vj al,vj az7]
   .rw[mu al,mu az7]
def kF (n R:Int):cJ:=⟨n,R,[],[],[]⟩
def uQ (n R:Int) (b:aD2):cJ:=nd (kF n R) (sc b 0 (dO n) 0)
structure US (m:cJ) (n R:Int) (b:aD2):Prop where
 ok:hv m
 n:m.n=n
 R:m.R=R
 h5:m.je=[]
 akT:m.uI=m.b8
 b7:it m.b8 0=uO b 0
 kZ:it m.b8 1=Ax
 aoY: ∀i:Nat,it m.b8 (2+(i:Nat))=if i < jm b then oJ b i else Ax
def akU {n R:Int} (hn:q5 n=true) (G:2<=n) (aw:n<=R) {b:aD2} (O:(b.length:Int)<=dO n*16):US (uQ n R b) n R b:=by
 have ai:hv (kF n R):=hv.new hn;have ax:=UP (m:=kF n R) ai G O (k:=0) (.inl rfl) 0;obtain⟨a0,bR⟩:=C' G ai.c4;have dA:=Dc ai aw _ _ ax (ao9 _);rw[ar2] at dA;have E: ∀st∈kV b 0 (dO n) (jm b),sd n st:=fun st h=>ax st (by unfold sc;simp only[ar7];exact .inl (.inl (.inl h)))
 have hw:=Dc ai aw (jm b) (kV b 0 (dO n) (jm b)) E (by rw[x'];exact ao9 _);rw[au0 (by rw[x'];exact ao9 _)] at hw;have mT:hv (nd (kF n R) (kV b 0 (dO n) (jm b))).pn:=hw.ok.pn
 have e:uQ n R b=(uP (nd (kF n R) (kV b 0 (dO n) (jm b))).pn (some (0,uO b 0))).1.pn:=by
  unfold uQ sc;rw[Aw,Aw,Aw];rfl
 have De: ∀i,it (uQ n R b).b8 i=if 0=i then uO b 0 else it (nd (kF n R) (kV b 0 (dO n) (jm b))).b8 i:=fun i=>by
  rw[e]
  exact UR mT (by show(nd (kF n R) (kV b 0 (dO n) (jm b))).n<=(nd (kF n R) (kV b 0 (dO n) (jm b))).R;rw[hw.n,hw.R];exact aw) (by
   show sd (nd (kF n R) (kV b 0 (dO n) (jm b))).n _;rw[hw.n];exact⟨az8,by show(0:Int) < n;omega,UN b 0⟩) i
 have aO: ∀i,it (kF n R).b8 i=Ax:=fun i=>rfl
 refine⟨dA.ok,dA.n,dA.R,by rw[e];rfl,by rw[e];rfl,?_,?_,fun i=>?_⟩
 .rw[De,vj rfl]
 .rw[De,mu az8,MP ai aw 1 _ E,mu az7,aO]
 .rw[De,mu az7,MP ai aw _ _ E,aO]
  by_cases aG:i < jm b
  .rw[vj az7,vj aG]
   congr 1
   omega
  .rw[mu az7,mu aG]
def akV:(nb Ax).2=false:=by kernel_rfl
def akW (s:iS) (a:Int):p6 s a 1=it s a:=by unfold p6;rw[show List.range 1=[0] from rfl,az2,List.flatMap_nil,at3];show it s (a+((0:Nat):Int))=_;rw[show a+((0:Nat):Int)=a by omega]
def UT {m:cJ} {k:Int} (h:it m.b8 k=Ax):pp m k=([],0):=by
 unfold pp
 have e:(nb (nc m k)).2=false:=by
  unfold nc;rw[akW,h];exact akV
 rw[e]
def GS (n R:Int):hc (kF n R) 2=(-1,[],0):=by
 have au:pp (kF n R) ((0:Nat):Int)=([],0):=UT rfl;have E:pp (kF n R) ((1:Nat):Int)=([],0):=UT rfl
 have af:hc (kF n R) 1=(-1,[],0):=by
  unfold hc;rw[au];exact mu (show¬(0:Int) < 0 by decide)
 unfold hc;rw[af,E];exact mu (show¬(0:Int) < 0 by decide)
end
section
def UU {L:aE6} {b:b9}:gy L b=0↔hb b=true/\L.find? (fun y=>decide (eo y=eo b))=none/\L.length < 64/\(dn b≠[]-> ∃x,L.find? (fun y=>decide (eo y=dn b))=some x/\c2 x=c2 b):=by
 constructor
 .intro h;obtain⟨bR,b',a3,a4⟩:=Md h;refine⟨bR,(Gw _ _).1 b',a3,fun ao=>?_⟩;have au:=a4 (by simpa using ao);obtain⟨x,hx⟩:=Gx au;refine⟨x,hx,?_⟩
  by_cases O:c2 x=c2 b
  .exact O
  .exfalso;have dF:=hx;rw[<-Am] at dF;unfold pi at dF;rw[vj au] at dF;unfold gy at h;rw[dF] at h
   split at h
   .cases h
   split at h
   .cases h
   rw[vj (by simp[ao,O])] at h
   cases h
 .rintro⟨bR,b',a3,a4⟩;have PP:=(Gw _ _).2 b';unfold gy;rw[mu (by rw[bR];simp;omega)]
  by_cases ao:dn b=[]
  .rw[mu (by simp[ao]),mu (by simp[ao])]
  .obtain⟨x,hx,O⟩:=a4 ao
   have au:0<=eW L (dn b):=by
    rcases Int.lt_or_le (eW L (dn b)) 0 with h |h
    .rw[(Gw _ _).1 h] at hx;cases hx
    .exact h
   have dF:=hx;rw[<-Am] at dF;unfold pi at dF;rw[vj au] at dF;rw[mu aB1,dF,mu (by simp[O])]
def q' (L:aE6):Prop:= ∀(k:Nat) (b:b9),L[k]? =some b->gy (L.take k) b=0
def q'.nil:q' []:=fun k b h=>by simp at h
def q'.add {L:aE6} (h:q' L) (b:b9):q' (gQ L b):=by
 unfold gQ
 split
 .rename_i a2;intro k c J;rcases TG k c J with E |⟨rfl,rfl⟩
  .have Z:=(ap6.1 E).1;rw[List.take_append_of_le_length az7];exact h k c E
  .rw[List.take_left];exact a2
 .exact h
def akX {α:Type} (L:List α) {k j:Nat} (h:k<=j):(L.eraseIdx k).take j=(L.take (j+1)).eraseIdx k:=by
 refine aw5 fun i=>?_
 rw[au4,ay4,ay4,au4,au4]
 by_cases G:i < k
 .have a:i < j:=aA5
  have b:i < j+1:=aA5
  simp[G,a,b]
 .by_cases E:i < j
  .simp[E,G]
  .simp[E,G]
def q'.drop {L:aE6} (h:q' L) (nm:aD2):q' (Al L nm):=by
 unfold Al
 split
 .rename_i a2;obtain⟨E,G⟩:=TK a2;obtain⟨x,hx⟩:=Gx E;have b1:=List.find?_some hx;simp only[as1] at b1
  have Gd:L[(eW L nm).toNat]? =some x:=by
   have b':=Am L nm;unfold pi at b';rw[vj E,hx] at b';exact b'
  generalize(eW L nm).toNat=q at*;have aY:=(ap6.1 Gd).1;intro j b O;have akY:b∈L:=List.mem_of_mem_eraseIdx (at9 O);rw[ay4] at O
  split at O
  .rename_i akZ
   have:(L.eraseIdx q).take j=L.take j:=by
    refine aw5 fun i=>?_
    rw[au4,au4,ay4]
    by_cases ag:i < j
    .rw[vj ag,vj ag,vj az7]
    .rw[mu ag,mu ag]
   rw[this];exact h j b O
  .rename_i akZ;rw[akX L az7];have ah:=UU.1 (h (j+1) b O);have MQ:(L.take (j+1))[q]? =some x:=by rw[au4,vj az7];exact Gd
   generalize L.take (j+1)=M at*;obtain⟨bR,b',a3,a4⟩:=ah;have ak0:dn b≠nm:=TJ G akY;refine UU.2 ⟨bR,?_,Nat.lt_of_le_of_lt (List.length_eraseIdx_le _ _) a3,fun ao=>?_⟩
   .rw[Mf _ M q x MQ (by
     have:=List.find?_eq_none.1 b' x (at9 MQ);simpa using this)]
    exact b'
   .rw[Mf _ M q x MQ (by rw[b1];simpa using fun e=>ak0 e.symm)];exact a4 ao
 .exact h
def Ay (p:j8):vY:=(gb p,lW p)
def wb (b:b9):my:=(eo b,dn b,c2 b,ep b,(cB b).map Ay)
def UV (b:b9):jz (wb b)=b:=by
 have h: ∀l:List j8,(l.map Ay).map r6=l:=fun l=>by rw[at6];exact List.map_id l
 exact ap1 (fun l:List j8=>((eo b,dn b,c2 b,ep b,l):b9)) (h (cB b))
def UW (L:aE6):(L.map wb).map jz=L:=by rw[at6,show(jz∘wb)=id from funext UV,List.map_id]
def ak1 {p:j8} (h:0<=gb p/\gb p<=65535/\(lW p).length<=128) (t:aD2):uG (kD p++t,0)=((t,0),Ay p):=by
 have af:fm 2 (kD p++t,0)=((jR (lW p) 2++t,0),(gb p).toNat):=by
  unfold kD;rw[av2];exact Ao az7 _
 have al:p5 2 (jR (lW p) 2++t,0)=((t,0),lW p):=Mn az7 t;unfold uG;rw[af];simp only;rw[al];refine Prod.ext rfl (Prod.ext ?_ rfl);show(((gb p).toNat:Nat):Int)=gb p;omega
def UX {bE:List j8} (h: ∀p,p∈bE->0<=gb p/\gb p<=65535/\(lW p).length<=128) (t:aD2): ∀k,k<=bE.length->gZ (bE.flatMap kD++t,0) k=(((bE.drop k).flatMap kD++t,0),(bE.take k).map Ay)
 |0,_=>by simp[gZ]
 |k+1,Z=>by
  have cl:k < bE.length:=aA5
  have bl:=UX h t k az7;unfold gZ;rw[bl];simp only;rw[aw3 cl,az2,av2,ak1 (h _ (ar4 cl))];simp only;rw[<-uD cl,au2];rfl
def ak2 {b:b9} (h:v1 b) (t:aD2):jS (j9 b++t,0)=((t,0),wb b):=by
 obtain⟨cp,dK,kP,iB,aoZ,ak3⟩:=h
 have af:E (j9 b++t,0)=((jR (dn b) 1++(fV (c2 b).toNat 1++(fV (ep b).toNat 2++(fV (cB b).length 2++((cB b).flatMap kD++t)))),0),eo b):=by
  unfold j9 E;simp only[av2];exact Mn az7 _
 have al:G (j9 b++t,0)=((fV (c2 b).toNat 1++(fV (ep b).toNat 2++(fV (cB b).length 2++((cB b).flatMap kD++t))),0),dn b):=by
  unfold G;rw[af];exact Mn az7 _
 have bt:ag (j9 b++t,0)=((fV (ep b).toNat 2++(fV (cB b).length 2++((cB b).flatMap kD++t)),0),(c2 b).toNat):=by
  unfold ag;rw[al];exact Ao az7 _
 have c3:aS (j9 b++t,0)=((fV (cB b).length 2++((cB b).flatMap kD++t),0),(ep b).toNat):=by
  unfold aS;rw[bt];exact Ao az7 _
 have gi:bG (j9 b++t,0)=(((cB b).flatMap kD++t,0),(cB b).length):=by
  unfold bG;rw[c3];exact Ao az7 _
 have hM:=UX ak3 t (cB b).length (ao9 _);rw[List.drop_length,ar2] at hM;unfold jS T7;rw[gi];simp only;rw[hM,af,al,bt,c3];refine Prod.ext rfl ?_;show(eo b,dn b,(((c2 b).toNat:Nat):Int),(((ep b).toNat:Nat):Int),(cB b).map Ay)=(eo b,dn b,c2 b,ep b,(cB b).map Ay);rw[show(((c2 b).toNat:Nat):Int)=c2 b by omega,show(((ep b).toNat:Nat):Int)=ep b by omega]
def UY {L:aE6} (eR:q' L) (hw: ∀b,b∈L->v1 b): ∀k,k<=L.length->nZ (L.flatMap j9,0) k=some ((L.take k).map wb,((L.drop k).flatMap j9,0))
 |0,_=>by simp[nZ]
 |k+1,Z=>by
  have cl:k < L.length:=aA5
  have bl:=UY eR hw k az7;rw[aw3 cl,az2] at bl;have O:=ak2 (hw _ (ar4 cl)) ((L.drop (k+1)).flatMap j9)
  have:=Ua bl (by rw[O]) (by
   rw[O,UW];show gy (L.take k) (jz (wb L[k]))=0;rw[UV];exact eR k _ (ao7 cl))
  rw[O] at this;rw[this,<-uD cl,au2];rfl
def ak4 {L:aE6} (eR:q' L) (hw: ∀b,b∈L->v1 b) (ak:L.length<=64):x2 (j' L)=some (L.map wb):=by have af:fm 1 (j' L,0)=((L.flatMap j9,0),L.length):=Ao az7 _;have al:=UY eR hw L.length (ao9 _);rw[ar2,List.drop_length] at al;unfold x2;rw[af];simp only;rw[al];simp[q4]
end
section
end
section
abbrev UZ:aD2:=[97]
abbrev ak5:aD2:=[98]
abbrev ak6 (b:Nat):List (aa .str×aa .aM):=dw [] (UZ:aa .str) (some b:aE2)
abbrev ef (b:Nat):List (aa .str×aa .aM):=dw (gB (ak6 b) (UZ:aa .str)) (ak5:aa .str) (some b:aE2)
end
section
abbrev gF:=List (aa .str×aa .aM)
def lY (es:gF) (k:aD2) (a:aE2):gF:=dw es (k:aa .str) (a:aa .aM)
def jB (es:gF) (k:aD2):gF:=gB es (k:aa .str)
def GT (k:aD2) (a:aE2):aa .str×aa .aM:=(k,a)
def ya (k:aD2) (p:aa .str×aa .aM):Bool:=fD .str (k:aa .str) p.1
def ak7 {k:aD2} {p:aa .str×aa .aM}:ya k p=true↔k=uN p:=aku _ _
def MR (k:aD2) (a:aE2):lY [] k a=[GT k a]:=rfl
def MS (p:aa .str×aa .aM) (l:gF) (k:aD2) (a:aE2):lY (p::l) k a=match ya k p with |true=>GT k a::l |false=>p::lY l k a:=rfl
def U0 (p:aa .str×aa .aM) (l:gF) (k:aD2):jB (p::l) k=match ya k p with |true=>l |false=>p::jB l k:=rfl
def U1 (p:aa .str×aa .aM) (l:gF) (k:aD2):iG (p::l) k=match ya k p with |true=>q8 p |false=>iG l k:=by
 unfold iG;show(match ya k p with |true=>some p.2 |false=>bV l (k:aa .str)).getD (cM .aM)=_
 cases ya k p <;>rfl
def MT (k:aD2): ∀l:gF,(jB l k).Sublist l
 | []=>List.Sublist.refl _
 |p::l=>by
  rw[U0]
  split
  .exact List.sublist_cons_self _ _
  .exact(MT k l).cons_cons p
def U2 {k:aD2} {a:aE2} {x:aE2}: ∀{l:gF},x∈(lY l k a).map q8->x=a\/x∈l.map q8
 | [],h=>by
  rw[MR,List.map_singleton,aq6] at h;exact .inl h
 |p::l,h=>by
  rw[MS] at h
  split at h
  .rcases ap7.1 h with h |h
   .exact .inl h
   .exact .inr (ap4 _ h)
  .rcases ap7.1 h with h |h
   .exact .inr (h▸aq4 ..)
   .rcases U2 h with h |h
    .exact .inl h
    .exact .inr (ap4 _ h)
def MU {k:aD2} {a:aE2}: ∀{l:gF},(l.map q8).Nodup->a∉l.map q8->((lY l k a).map q8).Nodup
 | [],_,_=>by rw[MR];simp
 |p::l,h,hn=>by
  rw[aq5,as2] at h;rw[aq5,ap7,not_or] at hn;rw[MS]
  split
  .rw[aq5];exact as2.2 ⟨hn.2,h.2⟩
  .rw[aq5];refine as2.2 ⟨fun aD=>?_,MU h.2 hn.2⟩;rcases U2 aD with e |e
   .exact hn.1 e.symm
   .exact h.1 e
def MV {k:aD2} {a:Nat}: ∀{l:gF},iG l k=some a->GT k (some a)∈l
 | [],h=>by cases h
 |p::l,h=>by
  rw[U1] at h
  split at h
  .rename_i e;have e:=ak7.1 e;refine ap7.2 (.inl ?_);show(k,(some a:aE2))=p;rw[<-h,e];rfl
  .exact ap4 _ (MV h)
def Df {k:aD2} {a:aE2} {p:aa .str×aa .aM}: ∀{l:gF},p∈lY l k a->p=GT k a\/p∈l
 | [],h=>by rw[MR,aq6] at h;exact .inl h
 |q::l,h=>by
  rw[MS] at h
  split at h
  .rcases ap7.1 h with h |h
   .exact .inl h
   .exact .inr (ap4 _ h)
  .rcases ap7.1 h with h |h
   .exact .inr (h▸aq4 ..)
   .rcases Df h with h |h
    .exact .inl h
    .exact .inr (ap4 _ h)
def U3 {k:aD2} {a:Nat}: ∀{l:gF},iG l k=some a->(l.map q8).Nodup->(some a:aE2)∉(jB l k).map q8/\(jB l k).length+1=l.length
 | [],h,_=>by cases h
 |p::l,h,hn=>by
  rw[aq5,as2] at hn;rw[U1] at h;rw[U0]
  cases e:ya k p with
  |true=>
   rw[e] at h;have h:q8 p=some a:=h;exact⟨h▸hn.1,rfl⟩
  |false=>
   rw[e] at h;obtain⟨E,G⟩:=U3 h hn.2;refine⟨?_,by simp only[as9];omega⟩;simp only;rw[aq5,ap7,not_or];exact⟨fun al=>hn.1 (al▸ar8 (f:=q8) (MV h)),E⟩
def td.mO {es:gF} {L:fh} {W:Nat} (h:td es L W) (k:aD2):td (jB es k) L W:=
 ⟨fun p ao=>h.ex p ((MT k es).subset ao),h.ho.sublist ((MT k es).map _),h.MK,h.ok,h.ML⟩
def td.add {es:gF} {L:fh} {W:Nat} (h:td es L W) {k:aD2} {b:Nat} {m:cJ} (O:b∉L.map (·.1)) (aD:hv m) (ak:m.je.length<=W):td (lY es k (some b)) ((b,m)::L) W:=by
 refine⟨fun p ao=>?_,MU h.ho fun hx=>?_,as2.2 ⟨O,h.MK⟩,fun p ao=>?_,fun p ao=>?_⟩
 .rcases Df ao with rfl |ao
  .exact⟨b,rfl,aq4 ..⟩
  .obtain⟨a,E,G⟩:=h.ex p ao;exact⟨a,E,ap4 _ G⟩
 .obtain⟨p,ao,e⟩:=ar6.1 hx;obtain⟨a,E,G⟩:=h.ex p ao;rw[e] at E;injection E with E
  exact O (E▸G)
 .rcases ap7.1 ao with rfl |ao
  .exact aD
  .exact h.ok p ao
 .rcases ap7.1 ao with rfl |ao
  .exact ak
  .exact h.ML p ao
def td.a7 {es:gF} {L:fh} {W:Nat} (h:td es L W) {fr to:aD2} {a:Nat} (hf:iG es fr=some a):td (lY (jB es fr) to (some a)) L W:=by
 refine⟨fun p ao=>?_,MU (h.mO fr).ho (U3 hf h.ho).1,h.MK,h.ok,h.ML⟩;rcases Df ao with rfl |ao
 .obtain⟨a',E,G⟩:=h.ex _ (MV hf);exact⟨a',E,G⟩
 .exact(h.mO fr).ex p ao
end
section
def U4 {m:cJ} {I F:Nat->Prop} {w:aD8} {p:bm} (h:(hu m).bn I F w p):F p.bh:=by obtain⟨ρ,cd,E,G,ag,aS⟩:=h;obtain⟨bj,_⟩:=G 1001 _ rfl;exact(aS _).2 ⟨1001,_,rfl,(bj _).2 (by rw[E])⟩
def U5 {I:Nat->Prop} {w:aD8} {b:Nat}: ∀{L:fh} {F:Nat->Prop},fz I w (fo L) F->b∈L.map (·.1)->F b
 | [],_,_,h=>by cases h
 |p::L,F,⟨cF,cN,q,E,G,ag,aS,bG⟩,h=>by
  rcases ap7.1 h with h |h
  .exact(E b).2 (.inl (by rw[h];have:=U4 aS;rwa[ag] at this))
  .exact(E b).2 (.inr (U5 bG h))
def du.ak8 {ids:aD3} {K:aW} {B:av} (q:Nat) {L:fh} {b:Nat} {m:cJ} (aY:ae B q=some (.aA (.bD (fo ((b,m)::L))))):du ids K B (X:=PLift (b∉L.map (·.1))) (fun _=>K) (fun _=>B):=by rintro N C a w ⟨hn,H,ρ,F,ah,ar⟩;have bk:fz (bX C B F w) w (fo ((b,m)::L)) (F q):=ah.holds q _ aY;obtain⟨cF,cN,p,E,G,ag,aS,bG⟩:=bk;refine⟨⟨fun O=>?_⟩,hn,H,ρ,F,ah,ar⟩;have af:=U4 aS;rw[ag] at af;exact G _ af (U5 bG O)
end
section
abbrev tg:aD2:=[108,105,115,116]
abbrev gn:aD2:=[108,105,115,116,46,110,101,119]
abbrev oK (c d:Nat) (L:aE6):av:=[(c,.cells [.own d]),(d,.row 84 r3 L)]
end
section
def ak9 {m:cJ} (ai:hv m) (G:2<=m.n) {s:Nat} {M:fh} (ah:jA M s=some m) (b:aD2) (O:dO m.n*16 < (b.length:Int)):
  Fn prog 251 [di s,b0 .u8 b] [(1003,.aA (.bD (fo M)))] [] (.cm [oV,dJ 1]) [(1003,.aA (.bD (fo M)))]:=by
 refine aU [] func251 ?_;exact⟨rfl,az (UC ai G ah) <| az (At ah) <| az (MJ m.n ai.r9 ai.c4) ⟨fun _=>bd,fun c=>ap0 O (oj c)⟩⟩
def ak' {m:cJ} (ai:hv m) (G:2<=m.n) {s:Nat} {M:fh} (ah:jA M s=some m) (b:aD2) (O:dO m.n*16 < (b.length:Int)):
  Fn prog 214 [di s,b0 .u8 b] [(1003,.aA (.bD (fo M)))] [] (ab 1) [(1003,.aA (.bD (fo M)))]:=by
 refine aU [] func214 ?_;exact az (ak9 ai G ah b O) <| gV bd
def wc (n:Int) (Q:aE6):Int:=if((j' Q).length:Int)<=dO n*16 then 0 else 1
def uR (n:Int) (es:gF) (Q:aE6) (b:Nat):gF:=if((j' Q).length:Int)<=dO n*16 then lY (jB (lY (jB es gn) gn (some b)) gn) tg (some b) else lY (jB es gn) gn (some b)
def th (n R:Int) (Q:aE6) (b:Nat):cJ:=if((j' Q).length:Int)<=dO n*16 then uQ n R (j' Q) else kF n R
def ala (R n:Int) (GU:2<=n) (hn:q5 n=true) (aw:n<=R) (es:gF) {M:fh} (E:iG (jB es gn) gn=none) (G:(jB es gn).length < 16) (ag: ∀b,iG (lY (jB es gn) gn (some b)) gn=some b) {Q:aE6} (aY:Q.length<=255) (hw: ∀b,b∈Q->v1 b):
  cz prog 163 [ap 3001,ap 1001,ab n] (C8 1001 1002 1003 R es M++oK 3001 3002 Q) [] (X:={b:Nat//b∉M.map (·.1)}) (fun _=>ab (wc n Q))
   (fun g=>C8 1001 1002 1003 R (uR n es Q g.1) ((g.1,th n R Q g.1)::M)++oK 3001 3002 Q):=by
 have tJ: ∀b,jA ((b,kF n R)::M) b=some (kF n R):=fun b=>by rw[x7,vj rfl]
 refine hR [2,3] func163 ?_;refine az (akl R es gn) <| bB.hP eC aA0 ?_;refine⟨Nat,_,_,fun b=>_,fun b=>_,aka R (jB es gn) (fo M) gn n az8 rfl (by rw[hn,aq1 (show 0<=R by omega)];rfl) E G,aE,rfl,fun _=>rfl,fun b=>bB.fJ (du.ak8 1003 (L:=M) (b:=b) (m:=kF n R) rfl) fun O=>bx [] (bu) <| dR <| az (Fn.a7 [(1001,3001),(1002,3002)] (TZ Q aY hw)) ?_⟩
 by_cases J:((j' Q).length:Int)<=dO n*16
 .have u6:=akQ (m:=kF n R) (hv.new (n:=n) (R:=R) hn) GU aw (ap9 _) (tJ b) (j' Q) J (by rw[GS];decide) (by rw[GS];decide) (by rw[GS];decide);rw[GS] at u6;have hj:jl ((b,kF n R)::M) b (uQ n R (j' Q))=(b,uQ n R (j' Q))::M:=vj rfl
  have u6:Fn prog 214 [di b,b0 .u8 (j' Q)] [(1003,.aA (.bD (fo ((b,kF n R)::M))))] [] (ab 0) [(1003,.aA (.bD (fo ((b,uQ n R (j' Q))::M))))]:=by
   rw[<-hj];exact u6
  refine az u6 <| dR <| az (aj' R (lY (jB es gn) gn (some b)) gn tg b az8 rfl (ag b)) ?_;have af:wc n Q=0:=vj J;have al:uR n es Q b=_:=vj J;have bt:th n R Q b=_:=vj J;exact⟨⟨b,O.down⟩,_,_,_,bu,rfl,af.symm,⟨rfl,ap1 (fun x=>some (ba.map .str .aM x)) al.symm,ap1 (fun x=>some (ba.aA (.bD (fo ((b,x)::M))))) bt.symm,rfl,rfl,trivial⟩,rfl⟩
 .have u6:=ak' (m:=kF n R) (hv.new (n:=n) (R:=R) hn) GU (tJ b) (j' Q) (by show dO n*16 < _;omega);refine az u6 <| gV ?_;have af:wc n Q=1:=mu J;have al:uR n es Q b=_:=mu J;have bt:th n R Q b=_:=mu J;exact⟨⟨b,O.down⟩,_,_,_,bu,rfl,af.symm,⟨rfl,ap1 (fun x=>some (ba.map .str .aM x)) al.symm,ap1 (fun x=>some (ba.aA (.bD (fo ((b,x)::M))))) bt.symm,rfl,rfl,trivial⟩,rfl⟩
end
section
def kW (u:bq->bq) (fp:aD3) (l:aE3):List bq:=l.map fun x=>if x.ad∈fp then u x else x
def alb (u:bq->bq) (l:aE3):kW u [] l=l:=by unfold kW;refine(ar9 fun x _=>?_).trans (List.map_id' l);rw[mu az9]
def U6 {u:bq->bq} {fp:aD3} {l:aE3} (h: ∀e,e∈l->e.ad∈fp):kW u fp l=l.map u:=by unfold kW;exact ar9 fun x hx=>vj (h x hx)
def alc {u:bq->bq} (a8: ∀e,(u e).ad=e.ad) {fp:aD3} {a:Nat} (ha:a∉fp) (l:aE3):m' (kW u fp l) a u=kW u (fp++[a]) l:=by
 unfold m' kW;rw[at6];refine ar9 fun x _=>?_
 show(if(if x.ad∈fp then u x else x).ad=a then u (if x.ad∈fp then u x else x) else(if x.ad∈fp then u x else x))=if x.ad∈fp++[a] then u x else x
 by_cases E:x.ad∈fp
 .have G: ¬(u x).ad=a:=by rw[a8];exact fun e=>ha (e▸E)
  rw[vj E,mu G,vj (List.mem_append_left _ E)]
 .rw[mu E]
  by_cases G:x.ad=a
  .rw[vj G,vj (by rw[G];simp)]
  .rw[mu G,mu (by simp[E,G])]
structure p9 (u:bq->bq):Prop where
 nm: ∀e,(u e).nm=e.nm
 ad: ∀e,(u e).ad=e.ad
 eF: ∀e,(u e).eF=e.eF
 on: ∀e,(u e).on=e.on
 us: ∀e,(u e).us=e.us
 ok: ∀e,(0<=e.s/\e.s<=4096)/\(1<=e.g/\e.g<=64)/\e5 e.es->(0<=(u e).s/\(u e).s<=4096)/\(1<=(u e).g/\(u e).g<=64)/\e5 (u e).es
def p9.MW {u:bq->bq} (a8:p9 u) {l:aE3} (h:e' l) (fp:aD3):e' (kW u fp l):=by
 have key: ∀{mj:Type} (f:bq->mj),(∀e,f (u e)=f e)->(kW u fp l).map f=l.map f:=fun f hf=>by
  unfold kW;rw[at6];refine ar9 fun x _=>?_
  show f (if x.ad∈fp then u x else x)=f x
  split
  .exact hf x
  .rfl
 refine⟨by rw[key _ a8.nm];exact h.gE,by rw[key _ a8.ad];exact h.mY,by rw[key _ a8.eF];exact h.vW,fun e U=>?_,by unfold kW;rw[aq3];exact h.len⟩;obtain⟨x,hx,rfl⟩:=ar6.1 U;obtain⟨co,cZ,ei,eI⟩:=h.ok x hx
 by_cases J:x.ad∈fp
 .rw[vj J];obtain⟨ka,oL,p'⟩:=a8.ok x ⟨co,cZ,ei⟩;exact⟨ka,oL,p',by rw[a8.nm];exact eI⟩
 .rw[mu J];exact⟨co,cZ,ei,eI⟩
def p9.wN {u:bq->bq} (a8:p9 u) (fp:aD3) (l:aE3):eP (kW u fp l)=eP l:=by
 unfold eP kW;rw[at6];refine ar9 fun x _=>?_
 show jy (if x.ad∈fp then u x else x)=jy x
 split
 .unfold jy;rw[a8.nm,a8.ad]
 .rfl
def p9.D {u:bq->bq} (a8:p9 u) (fp:aD3) (l:aE3):m9 (kW u fp l)=m9 l:=by
 unfold m9 kW;rw[at6];refine ar9 fun x _=>?_
 show vT (if x.ad∈fp then u x else x)=vT x
 split
 .unfold vT;rw[a8.nm,a8.ad,a8.eF,a8.on,a8.us]
 .rfl
def p9.M {u:bq->bq} (a8:p9 u) {l:aE3} (h:e' l) {fp:aD3} {e:bq} (U:e∈l) (ha:e.ad∉fp):gr (kR (kW u fp l)) e.eF (e9 (u e).s (u e).g (u e).es)=kR (kW u (fp++[e.ad]) l):=by have aD:e∈kW u fp l:=ar6.2 ⟨e,U,mu ha⟩;rw[<-alc a8.ad ha,<-Tb (a8.MW h fp) aD (a8.eF e)]
def p9.get {u:bq->bq} (a8:p9 u) {l:aE3} (h:e' l) {fp:aD3} {e:bq} (U:e∈l) (ha:e.ad∉fp):eN (kR (kW u fp l)) e.eF=some (e9 e.s e.g e.es):=
 (a8.MW h fp).M (ar6.2 ⟨e,U,mu ha⟩)
def p9.map {u:bq->bq} (a8:p9 u) {l:aE3} (h:e' l):e' (l.map u):=by have:=a8.MW h (l.map (·.ad));rw[U6 fun e U=>ar8 U] at this;exact this
abbrev qa:=Nat×(aa .str×aa .aM)
def uS (p:qa):Option Nat:=p.2.2
structure wd (l:aE3) (lx:List qa) (b8 fp:aD3):Prop where
 MX: ∀p,p∈lx-> ∀a,uS p=some a->(p.1∈b8↔a∈fp)
def ald {l:aE3} {lx:List qa} (ax:lx.map (·.2)=eP l) {p:qa} (ao:p∈lx): ∃e,e∈l/\p.2=jy e:=by
 have:p.2∈eP l:=by rw[<-ax];exact ar8 ao
 obtain⟨e,U,al⟩:=ar6.1 this;exact⟨e,U,al.symm⟩
def ale {l:aE3} (h:e' l) {lx:List qa} (ax:lx.map (·.2)=eP l):(lx.map uS).Nodup:=by
 have:lx.map uS=(l.map (·.ad)).map some:=by
  have e:lx.map uS=(lx.map (·.2)).map (fun q:aa .str×aa .aM=>(show Option Nat from q.2)):=by rw[at6];rfl
  rw[e,ax];unfold eP;rw[at6,at6];rfl
 rw[this];exact List.Pairwise.map _ (fun a b MY e=>MY (by injection e)) h.mY
def wd.nil (l:aE3) (lx:List qa):wd l lx [] []:=⟨fun _ _ _ _=>by simp⟩
def wd.step {l:aE3} {lx:List qa} {b8 fp:aD3} (h:wd l lx b8 fp) (O:(lx.map (·.1)).Nodup) (ha:(lx.map uS).Nodup) {p:qa} (ao:p∈lx) {a:Nat} (e:uS p=some a):wd l lx (b8++[p.1]) (fp++[a]):=by
 refine⟨fun q aY b c7=>?_⟩;have E:=h.MX q aY b c7
 have G:q.1=p.1↔b=a:=⟨fun af=>by
  have:=xW O aY ao af;subst this;rw[e] at c7;injection c7 with bt
  exact bt.symm,fun af=>by
  have:=xW ha aY ao (c7.trans (by rw[af,e]));rw[this]⟩
 simp only[ar7,aq6,E,G]
def yb (b8:aD3) (l:List qa):List qa:=l.filter fun p=> !b8.contains p.1
def alf {b8:aD3} {l:List qa} {p:qa} (ao:p∈l) (hn:p.1∉b8):(yb (b8++[p.1]) l).length < (yb b8 l).length:=by
 have e:yb (b8++[p.1]) l=(yb b8 l).filter fun q=> !decide (q.1=p.1):=by
  unfold yb;rw[List.filter_filter];refine List.filter_congr fun q _=>?_
  by_cases e:q.1=p.1 <;>simp[e]
 rw[e];have aD:p∈yb b8 l:=ay0.2 ⟨ao,by simp[hn]⟩;exact List.length_filter_lt_length_iff_exists.2 ⟨p,aD,az9⟩
abbrev alg (rJ:Nat) (u:bq->bq) (l:aE3) (b bU:Nat) (lx:List qa) (b8 fp:aD3):av:=[(1001,.cells [.mp 1002]),(1002,.aA (.xd b .str .aM lx bU)),(1003,.aA (.bD (m9 l))),(1004,.aA (.bD (kR (kW u fp l)))),(rJ,.aA (.xe b bU b8 bU))]
def kX (fr bJ:Int) (e:bq):bq:={e with es:=if e.on=true then m6 e.s e.g e.es fr bJ else e.es}
def U7 (fr bJ:Int):p9 (kX fr bJ):=by
 refine⟨fun _=>rfl,fun _=>rfl,fun _=>rfl,fun _=>rfl,fun _=>rfl,fun e h=>⟨h.1,h.2.1,?_⟩⟩;show e5 (if e.on=true then m6 e.s e.g e.es fr bJ else e.es)
 split
 .exact LW h.2.2 fr bJ
 .exact h.2.2
def MZ {l:aE3} (h:e' l) (fr bJ:Int):Fn prog 121 [ap 1001,ab fr,ab bJ] (eV l) [] gU (eV (l.map (kX fr bJ))):=by
 have a8:=U7 fr bJ;obtain⟨pW,hq,hr⟩:=k8 L0;obtain⟨Tc,Ad,Ae⟩:=k8 L1;refine aU [0] func121 ?_;refine bB.fJ (du.abh 1002 rfl) fun x=>?_
 obtain⟨b,lx,bU,GV,alh,br⟩:=x;have O:(lx.map (·.1)).Nodup:=alh.imp fun h=>by omega
 have ha:=ale h GV;refine bx [] (bu) <| bo (abj (d:=12) rfl underlying196 rfl rfl) ?_;refine ed [1] (X:=aD3×aD3) (fun _=>[(1,ab fr),(2,ab bJ),(12,ap 12)]) (fun x=>alg 12 (kX fr bJ) l b bU lx x.1 x.2) (fun x=>wd l lx x.1 x.2) (fun x=>(yb x.1 lx).length) ([],[]) (wd.nil l lx) ?_ ?_
 .exact ac.sub aE ⟨rfl,rfl,rfl,(by show _=some (ba.aA (.bD (kR (kW (kX fr bJ) [] l))));rw[alb];rfl),rfl,trivial⟩
 rintro⟨b8,fp⟩ Dg;have Dg:wd l lx b8 fp:=Dg;refine bB.hP eC aA0 ⟨_,abl (c:=1002) (r:=12) rfl rfl rfl rfl (fun p ao=>br _ (ar8 ao)) (ao9 _),fun v e ay=>?_⟩;rcases ay with⟨p,ao,jb,rfl,rfl⟩ |⟨dA,rfl,rfl⟩
 .obtain⟨e,U,GW⟩:=ald GV ao;have M0:uS p=some e.ad:=by unfold uS;rw[GW]
  have U8:e.ad∉fp:=fun aD=>jb ((Dg.MX p ao e.ad M0).2 aD)
  have e1:=Dg.step O ha ao M0;have qE:=alf ao jb;have cx:=h.D U;have ah:=a8.get h U U8;have i5:=a8.M h U U8;obtain⟨co,cZ,ei,eI⟩:=h.ok e U;have hj:=LZ (LA e.s e.g e.es fr bJ co cZ) ah rfl rfl rfl rfl;have J:(if e.on=true then m6 e.s e.g e.es fr bJ else e.es)=(kX fr bJ e).es:=rfl;have hx:p.2.2=(some e.ad:aE2):=M0;refine bo (abo (c:=1002) (r:=12) (p:=p) rfl rfl rfl rfl ao) ?_;refine bo (fun N=>kr (b:=e.ad) rfl aC3 N) ?_;refine bo (fun N=>kO rfl underlying212 rfl rfl hq aB3 rfl N) ?_;refine bo (ml (q:=1003) rfl underlying4 rfl rfl rfl cx rfl) ?_;refine⟨fun yc=>?_,fun yc=>?_⟩
  .have yc:e.on=true:=yc;rw[vj yc] at J;rw[J] at hj;change Fn _ _ _ _ _ _ [(1004,.aA (.bD (gr (kR (kW (kX fr bJ) fp l)) e.eF (e9 (kX fr bJ e).s (kX fr bJ e).g (kX fr bJ e).es))))] at hj;rw[i5] at hj;refine bo (fun N=>kr (b:=e.ad) rfl aC3 N) ?_;refine bo (fun N=>kO rfl underlying212 rfl rfl Ad (by rw[Ae];decide) rfl N) ?_;refine bo (ml (q:=1003) rfl underlying85 rfl rfl rfl cx rfl) ?_;exact az hj ⟨(b8++[p.1],fp++[e.ad]),e1,qE,ac.sub aE aE⟩
  .have yc:e.on=false:=yc;rw[mu (by rw[yc];decide)] at J;have af:e9 (kX fr bJ e).s (kX fr bJ e).g (kX fr bJ e).es=e9 e.s e.g e.es:=by rw[<-J];rfl
   rw[af,zb ah] at i5;exact⟨(b8++[p.1],fp++[e.ad]),e1,qE,ac.sub aE ⟨rfl,rfl,rfl,ap1 (fun aF=>some (ba.aA (.bD aF))) i5,rfl,trivial⟩⟩
 .have xu: ∀e,e∈l->e.ad∈fp:=fun e U=>by
   have:jy e∈lx.map (·.2):=by rw[GV];exact ar8 U
   obtain⟨p,ao,al⟩:=ar6.1 this;exact(Dg.MX p ao e.ad (by unfold uS;rw[al])).1 (dA p ao)
  have yI:=U6 (u:=kX fr bJ) xu;have oD:lx.map (·.2)=eP (l.map (kX fr bJ)):=by rw[GV,<-yI,a8.wN]
  have rT:m9 l=m9 (l.map (kX fr bJ)):=by rw[<-yI,a8.D]
  exact⟨_,_,_,ac.abi 1002 rfl,rfl,trivial,⟨rfl,ap1 (fun aF=>some (ba.map .str .aM aF)) oD,ap1 (fun aF=>some (ba.aA (.bD aF))) rT,ap1 (fun aF=>some (ba.aA (.bD (kR aF)))) yI,trivial⟩,rfl⟩
end
section
section
variable {ids:aD3} {K:aW} {B:av}
def cb.set {ρ:Nat->bm} {I:Nat->Prop} {w:aD8} {s t:bw} (e1: ∀v,dU ρ I w s v->dU ρ I w t v): ∀{l:List bw} {aB:aD7} {j:Nat},l[j]? =some s->cb ρ I w l aB->cb ρ I w (l.set j t) aB
 | [],_,j,V,_=>by cases j <;>cases V
 |x::l,_,0,V,⟨v,r,e,E,G⟩=>by
  injection V with V
  subst V;exact⟨v,r,e,e1 v E,G⟩
 |x::l,_,j+1,V,⟨v,r,e,E,G⟩=>⟨v,r,e,E,cb.set e1 (l:=l) (j:=j) V G⟩
def ac.Az (c j:Nat) {l:List bw} (J:ae B c=some (.cells l)) (V:l[j]? =some (.bH (.pointer none))):ac ids K B K ((c,.cells (l.set j (.d (.aM none))))::B):=by
 rintro N C a w ⟨hn,H,ρ,F,ah,ar⟩
 obtain⟨bK,a2⟩:=ah.hz (w':=w) (ch:=.cells (l.set j (.d (.aM none)))) J (cR.refl _ _) fun I aZ=>by
  obtain⟨E,aB,T,G,ag⟩:=ah.holds c _ J;exact⟨E,aB,T,G,cb.set (s:=.bH (.pointer none)) (t:=.d (.aM none)) (fun v h=>h) V (cb.mono aZ _ _ (fun _ _=>rfl) ag)⟩
 exact⟨hn,H,ρ,F,bK,ar.mono a2 fun _ _ _=>rfl⟩
def ac.ali (q:Nat) {p:Nat×bc} {L:List (Nat×bc)} (aY:ae B q=some (.aA (.bD (p::L)))):ac ids K B K ((q,.aA (.bD [p]))::B):=by
 rintro N C a w ⟨hn,H,ρ,F,ah,ar⟩;obtain⟨cF,cN,x,co,cZ,ei,eI,t1⟩:fz _ w (p::L) (F q):=ah.holds q _ aY;obtain⟨bK,a2⟩:=ah.ER (w':=w) (ch:=.aA (.bD [p])) aY cF (fun b O=>(co b).2 (.inl O)) (cR.refl _ _) fun I aZ=>⟨cF,fun _=>False,x,fun b=>by simp,fun _ _ h=>h,ei,p.2.cg _ _ _ _ _ _ eI aZ (fun _ _=>rfl) (ao9 _),fun _ h=>h⟩
 exact⟨hn,H,ρ,_,bK,ar.mono a2 fun _ _ _=>rfl⟩
def ac.U9 (q:Nat) {L:List (Nat×bc)} (aY:ae B q=some (.aA (.bD L))):ac ids K B K ((q,.aA (.bD []))::B):=by
 rintro N C a w ⟨hn,H,ρ,F,ah,ar⟩;obtain⟨bK,a2⟩:=ah.ER (w':=w) (ch:=.aA (.bD [])) aY (fun _=>False) (fun b O=>O.elim) (cR.refl _ _) fun I aZ=>fun _ h=>h
 exact⟨hn,H,ρ,_,bK,ar.mono a2 fun _ _ _=>rfl⟩
def Dh (_:bm):bc where
 bn:=fun _ F _ _=> ∀x,¬F x
 cg:=fun _ _ _ _ _ _ h _ _ _=>h
def ac.se (q d:Nat) {ch:ba} (aY:ae B q=some ch):ac ids K B K ((q,.bY d Dh)::B):=by
 rintro N C a w ⟨hn,H,ρ,F,ah,ar⟩;obtain⟨bK,a2⟩:=ah.ER (w':=w) (ch:=.bY d Dh) aY (fun _=>False) (fun b O=>O.elim) (cR.refl _ _) fun I aZ=>fun _ h=>h
 exact⟨hn,H,ρ,_,bK,ar.mono a2 fun _ _ _=>rfl⟩
def ac.alj (q d:Nat) (aY:gS ids K B q=true) (a6:d≠q):ac ids K B K ((q,.bY d Dh)::B):=by rintro N C a w ⟨hn,H,ρ,F,ah,ar⟩;have cC:=kK aY;obtain⟨bK,a2⟩:=ah.make (ch:=.bY d Dh) (w':=w) aY (Below.refl _ _) (ρ q) (fun _=>False) (fun _ h=>h.elim) (fun I _ _=>fun _ h=>h);exact⟨hn,H,_,_,bK,ar.mono a2 fun s c J=>dt _ _ (fun e=>by subst e;rw[cC.1 s] at J;cases J)⟩
def ac.GX (q c d m b:Nat) (bp:av) {cA:ba} (aY:ae B q=some cA) (t2:(ci bp).contains q=false) (dh:kI B bp) (aD:ae B m=some (.bY c (eO b))):ac ids K B K ((q,.bY d (nH b c d bp))::oU (ci bp) B):=by
 rintro N C a w ⟨hn,H,ρ,F,ah,ar⟩;have t2:=vn t2;have ak: ∀{d ch},ae bp d=some ch->ae B d=some ch:=fun {d ch} h=>kn dh h
 have vo: ∀{e ch},ae ((q,ba.bY d (nH b c d bp))::oU (ci bp) B) e=some ch->e=q\/e∈ci bp->e=q/\ch= .bY d (nH b c d bp):=fun {e ch} U aD=>by
  rw[cn] at U
  split at U
  .rename_i al;injection U with U;exact⟨al.symm,U.symm⟩
  .rename_i al;rcases aD with aD |aD
   .exact ap0 aD.symm al
   .rw[xa,vj aD] at U;cases U
 obtain⟨bK,a2⟩:=ah.step (B':=(q,.bY d (nH b c d bp))::oU (ci bp) B) (ρ':=ρ) (F':=dm F q (fun x=> ∃e ch,ae bp e=some ch/\F e x)) (w':=w) (fun e=>e=q\/e∈ci bp) (fun _=>False) (cR.refl _ _)
  (fun e ch U aD=>by
   rw[cn,mu (fun h=>aD (.inl h.symm)),xa,mu (fun h=>aD (.inr h))] at U;exact U)
  (fun _ _=>rfl) (fun e aD=>dt _ _ (fun h=>aD (.inl h))) (fun _ _ h=>h) (fun _ h=>h.elim) (fun _ _ _ _ _ _ h=>h)
  (fun e ch U aD a2=>by
   obtain⟨rfl,rfl⟩:=vo U aD;rw[dr];exact⟨ρ,F,ou (N:=N) (a:=a) ah aA3,rfl,fun d ch h=>Holds.cg a2 (fun _ _=>rfl) (ao9 _) ch (fun _ _=>rfl) (ah.holds d ch (ak h)),fun d cY ch ch' b h h' a6=>ah.e0 d cY ch ch' b (ak h) (ak h') a6,fun b=>Iff.rfl⟩)
  (fun e ch U aD x hx=>by
   obtain⟨rfl,rfl⟩:=vo U aD;rw[dr] at hx;obtain⟨cY,ch',E,G⟩:=hx;exact⟨(ah.own cY ch' (ak E) x G).1,.inl ⟨cY,ch',ak E,.inr (f1.2 ⟨ch',E⟩),G⟩⟩)
  (fun e ca ch ch' x U hk aD gj a6=>ap0 ((vo U aD).1.trans (vo hk gj).1.symm) a6)
 exact⟨hn,H,ρ,_,bK,ar.mono a2 fun _ _ _=>rfl⟩
end
inductive kY where
 |no
 |dv (top base:aD2) (l:aD3) (over:Bool)
 |pl (top base:aD2) (over:Bool)
 |pu (nm:aD2) (n rm:Int) (l:aD3) (g:aD6) (over done:Bool)
abbrev sf (top base:aD2) (l:aD3) (over:Bool):av:=[(2001,.cells (Lr top base over)),(2002,.map aj aj (fR l))]
abbrev uT (top base:aD2) (over:Bool):av:=[(2001,.cells (F9 top base over))]
abbrev nf (z:Int) (nm:aD2) (n rm:Int) (l:aD3) (g:aD6) (over done:Bool):av:=[(2001,.cells (CL nm z n rm over done)),(2002,.map aj aj (fR l)),(2003,.map aj jx (j7 g))]
def U' (z:Int) (b:Nat):kY->bm->bc
 | .no=>Dh
 | .dv top base l over=>nH b 2001 1001 (sf top base l over)
 | .pl top base over=>nH b 2001 1001 (uT top base over)
 | .pu nm n rm l g over done=>nH b 2001 1001 (nf z nm n rm l g over done)
abbrev GY (T b:Nat):Value:=.iface T (.pointer (some ⟨b,0,none⟩))
def ra (b:Nat):kY->Value
 | .no=>.nilIface
 | .dv .. =>GY 80 b
 | .pl .. =>GY 143 b
 | .pu .. =>GY 81 b
def AA (b:Nat):kY->Option Nat
 | .dv .. =>some b
 |_=>none
def we (b:Nat):kY->Option Nat
 | .pu .. =>some b
 |_=>none
def wg:kY->Int
 | .no=>0
 | .dv .. =>1
 | .pl .. =>2
 | .pu .. =>3
abbrev Di:=Int×Int×List (aa aj×aa aj)
structure Made where
 fS:b9
 eB:aD2
 eg:Option (Nat×Di)
def alk:Option (Nat×Di)->List (Nat×bc)
 |none=>[]
 |some p=>[(p.1,e9 p.2.1 p.2.2.1 p.2.2.2)]
abbrev tj (l:aE3):bc:=.iz 1001 (eV l)
abbrev tk (Q:aE6):bc:=.iz 1001 (kT Q)
structure bQ where
 z:Nat
 R:Nat
 L:List aL
 aX:aD2
 db:Nat
 ds:List bq
 es:gF
 M:fh
 lb:Nat
 Q:List b9
 b:Nat
 bL:kY
 bO:Made
abbrev GZ (z:Int) (aX:aD2) (db lb:Nat) (kd:Int) (gG:aE7) (dv pu:aE2) (m:Made):List bw:=[.d (.int .i64 z),.d (.str aX),.ptr 1001 0,.d (.aM (some db)),.ptr 1201 0,.d (.aM (some lb)),.d (.int .i64 kd),.bH gG,.d (.aM dv),.d (.aM pu),
 .d (.str (eo m.fS)),.d (.str (dn m.fS)),.d (.int .i64 (c2 m.fS)),.d (.int .i64 (ep m.fS)),.d (.cr nU (cB m.fS)),.d (.str m.eB),.d (.aM (m.eg.map (·.1)))]
abbrev alm (w:bQ):List bw:=GZ w.z w.aX w.db w.lb (wg w.bL) (ra w.b w.bL) (AA w.b w.bL) (we w.b w.bL) w.bO
abbrev Va (w:bQ):Nat×ba:=(1401,.cells (alm w))
abbrev Vb (w:bQ):Nat×ba:=(1501,.bY 1001 (U' w.z w.b w.bL))
abbrev Vc (w:bQ):Nat×ba:=(1601,.aA (.bD (alk w.bO.eg)))
abbrev aln (w:bQ):Nat×ba:=(1101,.aA (.bD [(w.db,tj w.ds)]))
abbrev Vd (w:bQ):Nat×ba:=(1301,.aA (.bD [(w.lb,tk w.Q)]))
def G0 (z R:Int) (L:aD5):bc:=.iz 1001 (bM z R L)
def yd (es:gF) (M:fh):bc:=.iz 1201 (C8 1201 1202 1203 4096 es M)
abbrev mA (z R:Nat) (L:aD5):Nat×ba:=(1001,.aA (G0 z R L))
abbrev wh (es:gF) (M:fh):Nat×ba:=(1201,.aA (yd es M))
abbrev cS (w:bQ):av:=[mA w.z w.R w.L,aln w,wh w.es w.M,Vd w,Va w,Vb w,Vc w]
section
variable {f:aE8} {args:List aN} {z R:Nat} {L:aD5} {aJ:av} {bb:aD3} {res:aN}
def cz.Ve {X:Type} {res:X->aN} {L':X->List aL} {aP:X->av} (h:cz prog f args (bM z R L++aJ) bb res (fun g=>bM z R (L' g)++aP g)) (E:nA 1001 [1002,1003,1004] args (bM z R L) aJ bb bb=true)
  (G: ∀g,nB 1001 (mh [1002,1003,1004] bb bb) (res g) (bM z R (L' g)) (aP g)=true):cz prog f args (mA z R L::aJ) bb res (fun g=>mA z R (L' g)::aP g):=
 cz.close (o':=fun g=>G0 z R (L' g)) [1002,1003,1004] h (fun _ _ _ _ h=>h) (fun _ _ _ _ _ h=>h) E G
def Fn.ye {L':aD5} {aP:av} (h:Fn prog f args (bM z R L++aJ) bb res (bM z R L'++aP)) (E:nA 1001 [1002,1003,1004] args (bM z R L) aJ bb bb=true)
  (G:nB 1001 (mh [1002,1003,1004] bb bb) res (bM z R L') aP=true):Fn prog f args (mA z R L::aJ) bb res (mA z R L'::aP):=
 (cz.Ve (X:=Unit) (L':=fun _=>L') (aP:=fun _=>aP) (res:=fun _=>res) h.x E fun _=>G).fn
def Fn.ch {L':aD5} (h:Fn prog f args (bM z R L) [] res (bM z R L')) (E:nA 1001 [1002,1003,1004] args (bM z R L) [] [] []=true:=by first |rfl |decide)
  (G:nB 1001 (mh [1002,1003,1004] [] []) res (bM z R L') []=true:=by first |rfl |decide):Fn prog f args [mA z R L] [] res [mA z R L']:=
 Fn.ye (aJ:=[]) (aP:=[]) (by rw[at3,at3];exact h) E G
end
def bc.iU {X:Type} (o:X->bc):bc where
 bn:=fun I F w p=> ∃g,(o g).bn I F w p
 cg:=fun I F w I' w' p ⟨g,h⟩ U bj aO=>⟨g,(o g).cg I F w I' w' p h U bj aO⟩
def cz.iU {P:aD9} {f:aE8} {args:List aN} {aJ:av} {bb:aD3} {res:aN} {X:Type} {q:Nat} {o:X->bc} {aP:av} (h:cz P f args aJ bb (fun _=>res) (fun g=>(q,.aA (o g))::aP)):Fn P f args aJ bb res ((q,.aA (.iU o))::aP):=by
 refine⟨h.1,fun ρ F I w bW bR b' a3 a4 a5 ft=>(h.2 ρ F I w bW bR b' a3 a4 a5 ft).mono ?_⟩;rintro e w' ⟨g,x,ρ',F',af,al,bt,I',c3,gi,hM,oC,M1,Db⟩
 have lI: ∀{c ch},ae ((q,ba.aA (.iU o))::aP) c=some ch-> ∃ch',ae ((q,ba.aA (o g))::aP) c=some ch'/\((c=q/\ch= .aA (.iU o)/\ch'= .aA (o g))\/ch=ch'):=fun {c ch} J=>by
  rw[cn] at J
  split at J
  .rename_i e;injection J with J
   exact⟨_,by rw[cn,vj e],.inl ⟨e.symm,J.symm,rfl⟩⟩
  .rename_i e;exact⟨ch,by rw[cn,mu e];exact J,.inr rfl⟩
 refine⟨x,ρ',F',af,al,bt,I',c3,gi,fun c ch J=>?_,fun c ch J=>?_,fun c ck ch ch' b J c0 a6=>?_,Db⟩
 .obtain⟨ch',E,G⟩:=lI J;have:=hM c ch' E;rcases G with⟨rfl,rfl,rfl⟩ |rfl
  .exact⟨g,this⟩
  .exact this
 .obtain⟨ch',E,_⟩:=lI J;exact oC c ch' E
 .obtain⟨AB,E,_⟩:=lI J;obtain⟨Dj,G,_⟩:=lI c0;exact M1 c ck AB Dj b E G a6
def Fn.alo {P:aD9} {f:aE8} {args:List aN} {aJ:av} {bb:aD3} {res:aN} {X:Type} {q:Nat} {o:X->bc} {aP:av} (h:Fn P f args aJ bb res ((q,.aA (.iU o))::aP)):cz P f args aJ bb (fun _=>res) (fun g=>(q,.aA (o g))::aP):=by
 refine⟨h.1,fun ρ F I w bW bR b' a3 a4 a5 ft=>(h.2 ρ F I w bW bR b' a3 a4 a5 ft).mono ?_⟩;rintro e w' ⟨x,ρ',F',af,al,bt,I',c3,gi,hM,oC,M1,Db⟩;have aY:ae ((q,ba.aA (.iU o))::aP) q=some (.aA (.iU o)):=aB7
 obtain⟨g,aV⟩:(bc.iU o).bn I' (F' q) w' (ρ' q):=hM q _ aY
 have lI: ∀{c ch},ae ((q,ba.aA (o g))::aP) c=some ch->(c=q/\ch= .aA (o g))\/ae ((q,ba.aA (.iU o))::aP) c=some ch:=fun {c ch} J=>by
  rw[cn] at J
  split at J
  .rename_i e;injection J with J;exact .inl ⟨e.symm,J.symm⟩
  .rename_i e;exact .inr (by rw[cn,mu e];exact J)
 have M2: ∀{c ch},ae ((q,ba.aA (o g))::aP) c=some ch-> ∃ch',ae ((q,ba.aA (.iU o))::aP) c=some ch':=fun {c ch} J=>by
  rcases lI J with⟨rfl,_⟩ |h
  .exact⟨_,aY⟩
  .exact⟨_,h⟩
 refine⟨g,x,ρ',F',af,al,bt,I',c3,gi,fun c ch J=>?_,fun c ch J=>?_,fun c ck ch ch' b J c0 a6=>?_,Db⟩
 .rcases lI J with⟨rfl,rfl⟩ |h
  .exact aV
  .exact hM c ch h
 .obtain⟨ch',h'⟩:=M2 J;exact oC c ch' h'
 .obtain⟨AB,E⟩:=M2 J;obtain⟨Dj,G⟩:=M2 c0;exact M1 c ck AB Dj b E G a6
def ac.aA {ids:aD3} {K:aW} {B:av} (q:Nat) {o o':bc} (aY:ae B q=some (.aA o)) (h: ∀I F w p,o.bn I F w p->o'.bn I F w p):ac ids K B K ((q,.aA o')::B):=by
 rintro N C a w ⟨hn,H,ρ,F,ah,ar⟩;obtain⟨bK,a2⟩:=ah.hz (w':=w) (ch:=.aA o') aY (cR.refl _ _) fun I aZ=>h _ _ _ _ (o.cg _ _ _ _ _ _ (ah.holds q _ aY) aZ (fun _ _=>rfl) (ao9 _))
 exact⟨hn,H,ρ,F,bK,ar.mono a2 fun _ _ _=>rfl⟩
def du.iU {ids:aD3} {K:aW} {B:av} (q:Nat) {X:Type} {o:X->bc} (aY:ae B q=some (.aA (.iU o))):du ids K B (X:=X) (fun _=>K) (fun g=>(q,.aA (o g))::B):=by
 rintro N C a w ⟨hn,H,ρ,F,ah,ar⟩;obtain⟨g,aV⟩:(bc.iU o).bn (bX C B F w) (F q) w (ρ q):=ah.holds q _ aY;obtain⟨bK,a2⟩:=ah.hz (w':=w) (ch:=.aA (o g)) aY (cR.refl _ _) fun I aZ=>(o g).cg _ _ _ _ _ _ aV aZ (fun _ _=>rfl) (ao9 _)
 exact⟨g,hn,H,ρ,F,bK,ar.mono a2 fun _ _ _=>rfl⟩
end
section
def Fn.alp {P:aD9} {f:aE8} {args:List aN} {c b:Nat} {aJ:av} {bb:aD3} {res:aN} {aP:av} {o o':bc} (h:Fn P f args ((c,.aA o)::aJ) bb res ((c,.aA o')::aP)) (J:bb.contains c=false):Fn P f args ((c,.aA (o.at b))::aJ) bb res ((c,.aA (o'.at b))::aP):=by
 have lg:c∉bb:=vn J
 have key: ∀{X:av} {aF z':bc} {d:Nat} {ch:ba},ae ((c,ba.aA aF)::X) d=some ch->(d=c/\ch= .aA aF)\/(d≠c/\ae X d=some ch):=fun {X aF z' d ch} H=>by
  rw[cn] at H
  split at H
  .rename_i e;injection H with H;exact .inl ⟨e.symm,H.symm⟩
  .rename_i e;exact .inr ⟨fun al=>e al.symm,H⟩
 have to: ∀{X:av} {aF z':bc} {d:Nat} {ch:ba},ae ((c,ba.aA aF)::X) d=some ch-> ∃ch',ae ((c,ba.aA z')::X) d=some ch':=fun {X aF z' d ch} H=>by
  rcases key (z':=aF) H with⟨rfl,_⟩ |⟨e,H⟩
  .exact⟨_,by rw[cn,vj rfl]⟩
  .exact⟨ch,by rw[cn,mu (au7 e)];exact H⟩
 refine⟨h.1,fun ρ F I w bW bR b' a3 a4 a5 ft=>?_⟩;have ak:ae ((c,ba.aA (o.at b))::aJ) c=some (.aA (o.at b)):=aB7
 have aq:(ρ c).bh=b/\o.bn I (F c) w (ρ c):=b' c _ ak;refine(h.2 ρ F I w bW bR (fun d ch H=>?_) (fun d ch H x hx=>?_) (fun d cY ch ch' x E G=>?_) a5 ft).mono ?_
 .rcases key (z':=o) H with⟨rfl,rfl⟩ |⟨e,H⟩
  .exact aq.2
  .exact b' d ch (by rw[cn,mu (au7 e)];exact H)
 .obtain⟨ch',h'⟩:=to (z':=o.at b) H;exact a3 d ch' h' x hx
 .obtain⟨cy,g1⟩:=to (z':=o.at b) E;obtain⟨cu,g2⟩:=to (z':=o.at b) G;exact a4 d cY cy cu x g1 g2
 .rintro e w' ⟨x,ρ',F',r1,r2,fI,I',jI,ll,lJ,lm,mi,nD⟩
  have bj: ∀y,(∃d ch,ae ((c,ba.aA o)::aJ) d=some ch/\F d y)-> ∃d ch,ae ((c,ba.aA (o.at b))::aJ) d=some ch/\F d y:=fun y ⟨d,ch,g1,g2⟩=>by
   obtain⟨ch',cX⟩:=to (z':=o.at b) g1;exact⟨d,ch',cX,g2⟩
  refine⟨x,ρ',F',r1,r2.mono fun y _ aC=>bj y aC,fI,I',jI,fun y aC=>⟨(ll y aC).1,(ll y aC).2.imp id (Or.imp (bj y) id)⟩,fun d ch H=>?_,fun d ch H y aC=>?_,fun d cY ch ch' y g1 g2 a6 aC=>?_,nD⟩
  .rcases key (z':=o') H with⟨rfl,rfl⟩ |⟨e,H⟩
   .have:=lJ d _ aB7;exact⟨by rw[fI d lg];exact aq.1,this⟩
   .exact lJ d ch (by rw[cn,mu (au7 e)];exact H)
  .obtain⟨ch',cX⟩:=to (z':=o') H;obtain⟨cE,cG,dG⟩:=lm d ch' cX y aC;exact⟨cE,cG,dG.imp (bj y) id⟩
  .obtain⟨cy,cE⟩:=to (z':=o') g1;obtain⟨cu,cG⟩:=to (z':=o') g2;exact mi d cY cy cu y cE cG a6 aC
def Fn.G1 {P:aD9} {f:aE8} {args:List aN} {aJ mI:av} {bb:aD3} {res:aN} {aP nE:av} (h:Fn P f args aJ bb res aP) (E: ∀c,ae mI c=ae aJ c) (G: ∀c,ae nE c=ae aP c):Fn P f args mI bb res nE:=by unfold Fn at h⊢;simpa only[E,G] using h
end
section
section
variable {z R:Nat} {L:aD5} {aX:aD2} {db lb:Nat} {kd:Int} {gG:aE7} {dv pu:aE2} {m:Made} {es:gF} {M:fh}
abbrev lA (z R:Nat) (L:aD5) (es:gF) (M:fh) (aX:aD2) (db lb:Nat) (kd:Int) (gG:aE7) (dv pu:aE2) (m:Made):av:=[mA z R L,wh es M,(1401,.cells (GZ z aX db lb kd gG dv pu m))]
def wi:Fn prog 88 [ap 1401] (lA z R L es M aX db lb kd gG dv pu m) [] gU (lA z R L es M aX db lb 0 .nilIface none none m):=by refine aU [] func88 ?_;exact⟨_,_,_,ac.trans (ac.Az 1401 8 rfl rfl) (ac.Az 1401 9 rfl rfl),rfl,trivial,aE,rfl⟩
def G2 (k:Int) (T:Nat) (p:aE7):Fn prog 77 [ap 1401,ab k,.c (.one (.bH (.iface T p)))] (lA z R L es M aX db lb kd gG dv pu m) [] (ab 0) (lA z R L es M aX db lb k (.iface T p) dv pu m):=by refine aU [] func77 ?_;exact bd
def alq:Fn prog 58 [ap 1401] (lA z R L es M aX db lb kd gG dv pu m) [] (ab kd) (lA z R L es M aX db lb kd gG dv pu m):=by refine aU [] func58 ?_;exact bd
def alr:Fn prog 11 [ap 1401] (lA z R L es M aX db lb kd gG dv pu m) [] (ap 1001) (lA z R L es M aX db lb kd gG dv pu m):=by refine aU [] func11 ?_;exact bd
def als:Fn prog 25 [ap 1401] (lA z R L es M aX db lb kd gG dv pu m) [] (di lb) (lA z R L es M aX db lb kd gG dv pu m):=by refine aU [] func25 ?_;exact bd
def alt (h:cc z R L) (a l:Int):Fn prog 22 [ap 1401,ab a,ab l] (lA z R L es M aX db lb kd gG dv pu m) [] (.cm [.one (.d (.cr .u8 (rV z L aX a l).1)),dJ (rV z L aX a l).2]) (lA z R L es M aX db lb kd gG dv pu m):=by refine aU [] func22 ?_;exact az ((afm h aX a l).ch) ⟨eJ aA0,bd⟩
def Vf (q:Nat) (ch:ba) (B:av) (h:ae B q=none) (c:Nat):ae (B++[(q,ch)]) c=ae ((q,ch)::B) c:=by
 simp only[hQ,cn]
 by_cases e:q=c
 .subst e;simp[h]
 .simp only[mu e]
  cases ae B c <;>rfl
def Vg {f:aE8} {args:List aN} {res:aN} (h:Fn prog f args [(1004,.aA (.bD (hZ L)))] [] res [(1004,.aA (.bD (hZ L)))]) (E:nA 1001 [1002,1003,1004] args (bM z R L) [] [] []=true:=by first |rfl |decide)
  (G:nB 1001 (mh [1002,1003,1004] [] []) res (bM z R L) []=true:=by first |rfl |decide):Fn prog f args [mA z R L] [] res [mA z R L]:=
 Fn.ch (Fn.G1 (Fn.pQ [(1001,.cells (Kk z R)),(1002,.map .str .aM (da L)),(1003,.aA (.bD (lN L)))] h rfl rfl) (fun c=>Vf 1004 _ [_,_,_] rfl c) (fun c=>Vf 1004 _ [_,_,_] rfl c)) E G
def M3 (h:cc z R L) {d:aL} (H:dk L aX=some d):Fn prog 73 [ap 1401] (lA z R L es M aX db lb kd gG dv pu m) [] (ab (d.im.t.length:Nat)) (lA z R L es M aX db lb kd gG dv pu m):=by have ah:=h.toir.M (cO H).1;refine aU [] func73 ?_;exact az ((jh _ _ L h.toir aX d H).ch) <| az (Vg (hG (mV d.im) ah rfl rfl rfl rfl)) ⟨eJ aA0,bd⟩
structure d3 where
 kd:Int
 a:Int
 l:Int
 b:aD2
 nm:aD2
 fL:aD2
 ks:List Uz
abbrev Vh (s:d3):List bw:=[.d (.int .i64 s.kd),.d (.int .i64 s.a),.d (.int .i64 s.l),.d (.cr .u8 s.b),.d (.str s.nm),.d (.str s.fL),.d (.cr Uy s.ks)]
abbrev kG (s:d3):aN:=.c (.agg (Vh s))
abbrev rb (s:d3):av:=[(2,.cells [.ptr 1401 0]),(3,.cells (Vh s))]
abbrev G3 (z R:Nat) (L:aD5) (es:gF) (M:fh) (aX:aD2) (db lb:Nat) (kd:Int) (gG:aE7) (dv pu:aE2) (m:Made) (s:d3):av:=lA z R L es M aX db lb kd gG dv pu m++rb s
def alu (h:cc z R L) (s:d3) (O:s.b.length<=1000000000):Fn prog 67 [ap 2,ap 3] (G3 z R L es M aX db lb kd gG dv pu m s) [] (ab (fu z L aX s.a s.b).e) (G3 z R (fu z L aX s.a s.b).L es M aX db lb kd gG dv pu m s):=by refine aU [] func67 ?_;exact az ((KW h aX s.a s.b O).ch) ⟨eJ aA0,bd⟩
end
end
end Go.Proofs.YtgclhiekndohdaaGreat
