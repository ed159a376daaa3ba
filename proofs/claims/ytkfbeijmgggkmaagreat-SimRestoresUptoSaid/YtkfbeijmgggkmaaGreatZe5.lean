/-
A part of the proof of this claim: lemmas, with no condition beyond what each says.
-/
import Derived.Deep.RegionLaw
import Derived.Test.YtkfbeijmgggkmaaGreatZe4
set_option linter.all false
set_option maxRecDepth 100000
set_option maxHeartbeats 0
namespace Go.Proofs.YtkfbeijmgggkmaaGreat
open Go.RowKit Go.Proofs _root_.Go.Proofs.Tryz Tryz
section
section
variable {z R:Nat} {L:aH2} {top base:aG9}
def akj {j:Nat} (h:cb z R L) {d:aL} (H:dk L top=some d) (V:j<=cl L top) (gg: ∀i,i < j->e1 L (i+1) top≠base) (mf:j=cl L top\/e1 L (j+1) top=base):(dc L (cl L top) top).take j=kQ L top base:=by
 have ce:=(h.b7 top).1;have ak:=p6 ce;unfold kQ;refine(Ul _ _ j aD1 (fun i x aE hx=>?_) ?_).symm
 .rw[HC ce aD1] at hx;injection hx with hx
  subst hx;have:=gg i aE;simp[this]
 .rcases mf with mf |mf
  .exact .inl aD1
  .by_cases c:j=cl L top
   .exact .inl aD1
   .exact .inr ⟨_,HC ce aD1,by rw[mf];simp⟩
def akk {j:Nat} (h:cb z R L) {d:aL} (H:dk L top=some d) (V:j<=cl L top) (mf:e1 L (j+1) top=base):hS L top base=true:=by
 have ce:=(h.b7 top).1;unfold hS;rw[H,Option.isSome_some,aB4,ay3]
 by_cases c:j=cl L top
 .rw[c,MG h ce ⟨d,H⟩] at mf;exact .inl (at4 mf.symm)
 .refine .inr (at4 ?_);have:=HC ce (i:=j) aD1;rw[mf] at this;exact ax6 this
def akl (h:cb z R L) {d:aL} (H:dk L top=some d) (gg: ∀i,i<=cl L top->e1 L (i+1) top≠base):hS L top base=false:=by
 have ce:=(h.b7 top).1;unfold hS;rw[H,Option.isSome_some,aB4,ax0];constructor
 .refine av7 fun e=>gg _ (as2 _) ?_
  rw[MG h ce ⟨d,H⟩,e]
 .refine av7 fun e=>?_
  obtain⟨i,aE,hx⟩:=ay5 e;have ak:=p6 ce;have:=HC ce (i:=i) aD1;rw[as0 aE,hx] at this;injection this with this
  exact gg i aD1 this.symm
abbrev U' (base:aG9) (a:aG9) (c:Nat):aZ:=[(0,ap 1001),(2,bW base),(8,eC c),(9,bW a),(10,ab 0)]
abbrev Va (z R:Int) (L:aH2) (c:Nat) (x:aJ0):aA:=bT z R L++[(c,.row 9 .str x)]
def Nn (h:cb z R L) {d:aL} (H:dk L top=some d) (base:aG9):Fn prog 117 [ap 1001,bW top,bW base] (bT z R L) [] (.cn [.one (.d (.bG .str (kQ L top base))),.one (.d (.bool (hS L top base)))]) (bT z R L):=by
 have ce:=(h.b7 top).1;have iH:=(h.b7 top).2;have gb:=p6 ce;have hE:=fun j V=>MF h ce ⟨d,H⟩ j V
 have mf:=MG h ce ⟨d,H⟩
 have ut:fB L top=(e1 L 1 top,0):=by
  unfold fB;rw[show e1 L 1 top=d.back by rw[A7];show(match dk L top with |none=>top |some d=>d.back)=_;rw[H],H]
 have jo: ∀j,j < cl L top->fB L (e1 L (j+1) top)=(e1 L (j+1+1) top,0)/\e1 L (j+1) top≠[]:=fun j V=>by
  obtain⟨e,U⟩:=hE (j+1) V;refine⟨?_,DW h ⟨e,U⟩⟩;unfold fB;rw[A7 L (j+1),U]
 have nG: ∀j,j < cl L top->(dc L (cl L top) top).take (j+1)=(dc L (cl L top) top).take j++[e1 L (j+1) top]:=fun j V=>G9 ce j V
 have j8:=fun j V gg U=>akj (j:=j) (base:=base) h H V gg U
 have akm:=fun j V U=>akk (j:=j) (base:=base) h H V U
 have akn:=fun gg=>akl (base:=base) h H gg
 have A4:=Hp h top;rw[ut] at A4;generalize kQ L top base=ky at*;generalize hS L top base=tj at*;generalize dc L (cl L top) top=hT at*;generalize cl L top=tS at*;refine aY [3,5,7] func117 ?_;refine ar A4 <| d1 [5,7] (X:=Nat) (fun j=>U' base (e1 L (j+1) top) 5002) (fun j=>Va z R L 5002 (hT.take j)) (fun j=>j<=tS/\ ∀i,i < j->e1 L (i+1) top≠base) (fun j=>tS - j) 0 ⟨at2 _,fun i aE=>as3 aE (aB8 i)⟩ ?_ ?_
 .exact(ac.nil 8 5002 9 .str rfl rfl).trans (ac.sub aD aD)
 rintro j ⟨V,gg⟩;refine fm ⟨fun E=>?_,fun E=>?_⟩
 .have E:(!decide (e1 L (j+1) top=base))=true:=E;have E: ¬e1 L (j+1) top=base:=aG2
  refine⟨fun G=>?_,fun G=>?_⟩
  .have G:e1 L (j+1) top=[]:=gd G
   have En:j=tS:=by
    rcases aA6 j tS with bd |bd
    .exact as3 G (jo j bd).2
    .omega
   have No:hT.take j=ky:=j8 j V gg (.inl En)
   have wA:tj=false:=akn fun i aE=>by
    rcases aA6 i j with bd |bd
    .exact gg i bd
    .rw[show i=j by omega];exact E
   exact bz [] (bt) <| fm ⟨_,_,_,ac.eb 5002 rfl,rfl,⟨No,(show decide (e1 L (j+1) top=base)=tj by rw[av7 E,wA]),trivial⟩,aD,rfl⟩
  .have G: ¬e1 L (j+1) top=[]:=oj G
   have En:j < tS:=by
    rcases aA6 j tS with bd |bd
    .exact bd
    .exact as3 (by rw[show j=tS by omega];exact mf) G
   have Vb:=Hp h (e1 L (j+1) top);rw[(jo j En).1] at Vb;have m:List.length (α:=aG9) (hT.take j)+1<=4294967296:=aE8
   have e:=nG j En;refine bz [7] (bt) ⟨m,rfl,ar Vb ⟨j+1,⟨En,fun i aE=>?_⟩,aD1,?_⟩⟩
   .rcases aA6 i j with bd |bd
    .exact gg i bd
    .rw[show i=j by omega];exact E
   refine ac.trans (ac.sub (K':=U' base (e1 L (j+1+1) top) 29) (B':=Va z R L 29 (hT.take (j+1))) aD ⟨rfl,rfl,rfl,rfl,as5 (fun aB:List aG9=>some (ba.row 9 .str aB)) e.symm,trivial⟩) ?_;exact(ac.aX 29 5002 rfl).trans (ac.sub aD aD)
 .have E:(!decide (e1 L (j+1) top=base))=false:=E;have E:e1 L (j+1) top=base:=aG2
  have No:hT.take j=ky:=j8 j V gg (.inr E);have wA:tj=true:=akm j V E;exact bz [] (bt) <| fm ⟨_,_,_,ac.eb 5002 rfl,rfl,⟨No,(show decide (e1 L (j+1) top=base)=tj by rw[at4 E,wA]),trivial⟩,aD,rfl⟩
abbrev HQ (top base:aG9) (over:Bool):List bE:=[.ptr 1001 0,.d (.str top),.d (.str base),.d (.bool over)]
abbrev qd (z R:Int) (L:aH2) (top base:aG9) (over:Bool):aA:=bT z R L++[(2001,.cells (HQ top base over))]
def uA (L:aH2) (top base:aG9):Int:=if(dk L top).isSome=false then 140 else if hS L top base=false\/kQ L top base=[] then 1 else 0
def ako (h:cb z R L) (top base:aG9) (U:uA L top base≠0):Fn prog 73 [ap 1001,bW top,bW base] (bT z R L) [] (.cn [nf,dJ (uA L top base)]) (bT z R L):=by
 unfold uA at U⊢
 cases H:dk L top with
 |none=>
  rw[vj (show(none:Option aL).isSome=false from rfl)];refine aY [] func73 ?_;exact ar (af7 _ _ L top H) bh
 |some d=>
  have bK: ¬(some d).isSome=false:=by simp
  rw[H,mu bK] at U;rw[mu bK];have O:hS L top base=false\/kQ L top base=[]:=ax7 fun x=>U (mu x)
  rw[vj O];have kF:=Nn h H base;generalize hS L top base=tj at*;generalize kQ L top base=ky at*;refine aY [] func73 ?_;refine ar (j7 _ _ L h.toi3 top d H) ⟨fun _ _=>ar kF ⟨fun _=>?_,fun E=>?_⟩,fun h=>by cases h⟩
  .exact bh
  .refine⟨fun _=>?_,fun G=>?_⟩
   .exact bh
   .exfalso;have E:(!tj)=false:=E;have G:decide (((ky.length:Nat):Int)=0)=false:=G;have G:=oj G;rcases O with O |O
    .rw[O] at E;cases E
    .rw[O] at G;exact G rfl
def akp (U:uA L top base=0):(∃d,dk L top=some d)/\hS L top base=true/\kQ L top base≠[]:=by
 unfold uA at U
 split at U
 .exact as3 U aD2
 .rename_i E
  split at U
  .exact as3 U aD2
  .rename_i G;refine⟨av9.1 (by rw[Bool.not_eq_false] at E;exact E),?_,fun e=>G (.inr e)⟩
   cases e:hS L top base with
   |true=>rfl
   |false=>exact as3 (.inl e) G
def akq (h:cb z R L) (top base:aG9) (U:uA L top base=0):Fn prog 73 [ap 1001,bW top,bW base] (bT z R L) [2001] (.cn [.one (.ptr 2001 0),dJ 0]) (qd z R L top base false):=by
 obtain⟨⟨d,H⟩,E,G⟩:=akp U;have kF:=Nn h H base;rw[E] at kF;generalize kQ L top base=ky at*;refine aY [] func73 ?_;refine ar (j7 _ _ L h.toi3 top d H) ⟨fun _ _=>ar kF <| dE ⟨fun ah=>?_,fun _=>?_⟩,fun h=>by cases h⟩
 .exfalso;have ah:decide (((ky.length:Nat):Int)=0)=true:=ah;have ah:=gd ah;exact G (List.length_eq_zero_iff.1 aD1)
 exact⟨rfl,_,_,_,(ac.aX 32 2001 rfl).trans (ac.th 2001 (l':=HQ top base false) rfl aD),rfl,aD,aD,rfl⟩
def akr (z R:Int) (L:aH2) (top base:aG9) (over:Bool):Fn prog 300 [ap 2001] (qd z R L top base over) [] (fX over) (qd z R L top base over):=by refine aY [] func300 ?_;exact bh
def aks (z R:Int) (L:aH2) (top base:aG9) (over:Bool):Fn prog 299 [ap 2001] (qd z R L top base over) [] g4 (qd z R L top base true):=by refine aY [] func299 ?_;exact⟨_,_,_,ac.th 2001 (l':=HQ top base true) rfl aD,rfl,trivial,aD,rfl⟩
def Vc (h:cb z R L) (top base:aG9) (over:Bool) (n:aG9) (k:Nat) {e:aL} (U:dk L n=some e):Fn prog 304 [bW n,ab (k:Int),ap 3001] (qd z R L top base over++[(3001,.cells [.ptr 2001 0])]) [] (fX (hH L n k)) (qd z R L top base over++[(3001,.cells [.ptr 2001 0])]):=by
 have nT:=(h.gp e (cY U).1).1.eY;have fO:=h.toi3.M (cY U).1;have akt:hH L n k=(decide (e.im.t.length<=k)||decide ((e.im.t.getD k ck).1=0)):=by unfold hH;rw[U]
 rw[akt];refine aY [] func304 ?_;refine ar (j7 _ _ L h.toi3 n e U) <| ar (il (nR e.im) fO rfl rfl rfl rfl) ⟨fun E=>?_,fun E=>?_⟩
 .have E:((e.im.t.length:Nat):Int)<=(k:Int):=gd E;exact eN bt rfl (show true=_ by rw[at4 (by omega:e.im.t.length<=k)];rfl)
 .have E: ¬((e.im.t.length:Nat):Int)<=(k:Int):=oj E;refine ar (il (AY e.im nT k aD1) fO rfl rfl rfl rfl) ?_;exact eN bt rfl (show decide ((e.im.t.getD k ck).1=0)=_ by rw[av7 (by omega: ¬e.im.t.length<=k)];rfl)
def qe (L:aH2) (top base:aG9) (over:Bool):Int×Bool:=if over=true then(0,false) else match oK L top base with
 |some k=>((k:Int),true)
 |none=>(0,false)
abbrev aku (l:aJ0) (n k:Nat):aZ:=[(1,ap 1),(5,bP .str l),(7,.c (.one (.c3 304 [.p 1 0]))),(50,ab (n:Int)),(51,ab (k:Int))]
abbrev akv (l:aJ0) (n k i:Nat):aZ:=[(1,ap 1),(5,bP .str l),(7,.c (.one (.c3 304 [.p 1 0]))),(50,ab (n:Int)),(51,ab (k:Int)),(8,ab (k:Int)),(54,bP .str l),(55,ab (l.length:Nat)),(56,ab (i:Int))]
abbrev HR (z R:Int) (L:aH2) (top base:aG9) (over:Bool):aA:=qd z R L top base over++[(1,.cells [.ptr 2001 0])]
def akw {α:Type} (p:α->Bool) {l:List α} {i:Nat} (h:i < l.length) (aw:(l.take i).any p=false) (E:p l[i]=false):(l.take (i+1)).any p=false:=by rw[aB0,as0 h,List.any_append,aw];show(false||(p l[i]||false))=false;rw[E];rfl
def akx (h:cb z R L) (base:aG9) (over:Bool) {d:aL} (H:dk L top=some d):Fn prog 302 [ap 2001] (qd z R L top base over) [] (.cn [.one (.d (.int .i64 (qe L top base over).1)),.one (.d (.bool (qe L top base over).2))]) (qd z R L top base over):=by
 have kF:=Nn h H base;have nT:=(h.gp d (cY H).1).1.eY;have fO:=h.toi3.M (cY H).1;have cz:b6 L top=d.im.t.length:=aE5
 have Tu:(kQ L top base).length<=16:=by
  have E:(kQ L top base).length<=(dc L (cl L top) top).length:=(List.takeWhile_sublist _).length_le;rw[p6 (h.b7 top).1] at E;have:=(h.b7 top).2;omega
 have hE: ∀n,n∈kQ L top base-> ∃e,dk L n=some e:=fun n hn=>(Uo h H n hn).2
 have bl: ∀k,qb L top base k=(hH L top k&&(kQ L top base).any fun n=> !hH L n k):=fun k=>rfl
 have aky:over=true->qe L top base over=(0,false):=fun e=>vj e
 have akz:over=false->hS L top base=false->qe L top base over=(0,false):=fun af ao=>by
  unfold qe oK;rw[af,ao];rfl
 have akA:over=false->hS L top base=true-> ∀k,k < b6 L top->qb L top base k=true->(∀j,j < k->qb L top base j=false)->qe L top base over=((k:Int),true):=fun af ao k Z ae hn=>by
  unfold qe oK;rw[af,mu aD2,vj ao,List.find?_range_eq_some.2 ⟨ae,List.mem_range.2 Z,fun j V=>by simp[hn j V]⟩]
 have akB:over=false->(∀k,k < b6 L top->qb L top base k=false)->qe L top base over=(0,false):=fun af hn=>by
  unfold qe;rw[af,mu aD2,aji hn]
 have HJ:=fun k=>Vc h top base over top k H
 have akC:=fun n (hn:n∈kQ L top base) k=>Vc h top base over n k (hE n hn).choose_spec
 generalize qe L top base over=Vd at*;generalize hS L top base=tj at*;generalize kQ L top base=ky at*;generalize b6 L top=n at*;subst cz;refine aY [5] func302 ?_;refine⟨rfl,ar (j7 _ _ L h.toi3 top d H) ⟨rfl,ar kF ⟨rfl,fun ag=>?_,fun ag=>?_⟩⟩⟩
 .have e:=aky ag;exact eN bt rfl ⟨as5 Prod.fst e.symm,as5 Prod.snd e.symm,trivial⟩
 have ag:over=false:=ag;refine⟨fun _ _=>⟨fun aE=>?_,fun aE=>?_⟩,fun h=>by cases h⟩
 .have aE:tj=false:=by
   have aE:(!tj)=true:=aE;simpa using aE
  have e:=akz ag aE;exact eN bt rfl ⟨as5 Prod.fst e.symm,as5 Prod.snd e.symm,trivial⟩
 have aE:tj=true:=by
  have aE:(!tj)=false:=aE;simpa using aE
 refine bz [] (cM [(1,ap 1),(4,dy d.am),(5,bP .str ky)] (HR z R L top base over)) <| ar (il (nR d.im) fO rfl rfl rfl rfl) <| d1 [16] (X:=Nat) (aku ky d.im.t.length) (fun _=>HR z R L top base over) (fun k=>k<=d.im.t.length/\ ∀j,j < k->qb L top base j=false) (fun k=>d.im.t.length - k) 0 ⟨at2 _,fun j V=>as3 V (aB8 j)⟩ ?_ ?_
 .exact ac.sub aD aD
 rintro k ⟨Z,gg⟩;have Z:k<=d.im.t.length:=Z;refine⟨fun J=>?_,fun J=>?_⟩
 .have J:decide ((k:Int) < ((d.im.t.length:Nat):Int))=true:=J;have cu:k < d.im.t.length:=aF4
  refine d1 [12,16] (X:=Nat) (akv ky d.im.t.length k) (fun _=>HR z R L top base over) (fun i=>i<=ky.length/\(hH L top k&&(ky.take i).any fun n=> !hH L n k)=false) (fun i=>ky.length - i) 0 ⟨at2 _,Bool.and_false _⟩ ?_ ?_
  .exact ac.sub aD aD
  rintro i ⟨ec,p9⟩;have ec:i<=ky.length:=ec;refine⟨fun J=>?_,fun J=>?_⟩
  .have J:decide ((i:Int) < ((ky.length:Nat):Int))=true:=J;have xq:i < ky.length:=aF4
   have bd:=akC _ (av2 xq) k;have j8:=fun(a:(ky.take i).any (fun n=> !hH L n k)=false) (b:(!hH L ky[i] k)=false)=>akw (fun n=> !hH L n k) xq a b
   have lK:=av2 xq;have m4:=j4 (n:=i) xq;generalize ky[i]=nm at*;refine⟨aD1,nm,m4,bz [16] (cM [(1,ap 1),(5,bP .str ky),(7,.c (.one (.c3 304 [.p 1 0]))),(50,ab (d.im.t.length:Nat)),(51,ab (k:Int)),(8,ab (k:Int)),(54,bP .str ky),(55,ab (ky.length:Nat)),(56,ab (i:Int)),(10,bW nm)] (HR z R L top base over)) <| ar (Fn.aX [(3001,1)] (HJ k)) ⟨fun g1=>?_,fun g1=>?_⟩⟩
   .have g1:hH L top k=true:=g1;refine ar (Fn.aX [(3001,1)] bd) ⟨fun g2=>?_,fun g2=>?_⟩
    .have g2:(!hH L nm k)=true:=g2
     have DZ:qb L top base k=true:=by
      rw[bl,g1,aB4,List.any_eq_true];exact⟨nm,lK,g2⟩
     have e:=akA ag aE k cu DZ gg;exact eN bt rfl ⟨as5 Prod.fst e.symm,as5 Prod.snd e.symm,trivial⟩
    .have g2:(!hH L nm k)=false:=g2;rw[g1,aB4] at p9;exact⟨aD1,i+1,⟨xq,by rw[g1,aB4];exact j8 p9 g2⟩,aD1,ac.sub aD aD⟩
   .have g1:hH L top k=false:=g1;exact⟨aD1,i+1,⟨xq,by rw[g1];rfl⟩,aD1,ac.sub aD aD⟩
  .have J:decide ((i:Int) < ((ky.length:Nat):Int))=false:=J;have xq:i=ky.length:=aF0
   have DZ:qb L top base k=false:=by
    rw[bl,<-p9,xq,au3]
   exact⟨aD1,k+1,⟨cu,fun j V=>by
    rcases aA6 j k with bd |bd
    .exact gg j bd
    .rw[show j=k by omega];exact DZ⟩,aD1,ac.sub aD aD⟩
 .have J:decide ((k:Int) < ((d.im.t.length:Nat):Int))=false:=J;have eX:k=d.im.t.length:=aF0
  have e:=akB ag fun j V=>gg j aD1
  exact eN bt rfl ⟨as5 Prod.fst e.symm,as5 Prod.snd e.symm,trivial⟩
def akD (h:cb z R L) (base:aG9) (over:Bool) {d:aL} (H:dk L top=some d):Fn prog 301 [ap 2001] (qd z R L top base over) [] (.cn [.one (.d (.bool (h4 z L top base over).done)),dJ (h4 z L top base over).e]) (qd z R (h4 z L top base over).L top base (h4 z L top base over).over):=by
 have vG:=akx h base over H;have nT:=(h.gp d (cY H).1).1.eY;have fO:=h.toi3.M (cY H).1;have kF:d.im.z=z:=(h.gp d (cY H).1).2.1;have y7:=h.b3;have ae:=js h.b3
 cases over with
 |true=>
  have e:h4 z L top base true=⟨false,160,L,true⟩:=rfl;rw[e];refine aY [] func301 ?_;exact ar (j7 _ _ L h.toi3 top d H) ⟨rfl,fm bh⟩
 |false=>
  have bK:h4 z L top base false=match oK L top base with
   |some k=>⟨false,(fq z L top ((k*2 ^z:Nat):Int) (fI z L top (k:Int))).e,(fq z L top ((k*2 ^z:Nat):Int) (fI z L top (k:Int))).L,false⟩
   |none=>⟨decide ((ip L top base).e=0),(ip L top base).e,(ip L top base).L,decide ((ip L top base).e=0)⟩:=by
   unfold h4;rw[H];rfl
  cases hn:oK L top base with
  |some k=>
   rw[hn] at bK;have bK:h4 z L top base false=⟨false,(fq z L top ((k*2 ^z:Nat):Int) (fI z L top (k:Int))).e,(fq z L top ((k*2 ^z:Nat):Int) (fI z L top (k:Int))).L,false⟩:=bK;rw[bK]
   have J:qe L top base false=((k:Int),true):=by
    unfold qe;rw[hn];rfl
   rw[J] at vG
   have Z:k < d.im.t.length:=by
    have:=(UN hn).2.1;unfold b6 at this;rw[H] at this;exact this
   have Ve:(k:Int)*((2 ^((d.im.z:Nat):Int).toNat:Nat):Int)=((k*2 ^z:Nat):Int):=by
    rw[kF];show(k:Int)*((2 ^z:Nat):Int)=_;rw[az8]
   have dW:=Mx h top (k:Int)
   have bX:(fI z L top (k:Int)).length<=1000000000:=by
    have:fI z L top (k:Int)=fi z L top (cl L top) k:=by
     unfold fI;rw[H];simp only;rw[vj ⟨aD1,aD1⟩];rfl
    rw[this,xe h.tonV H (h.b7 top).1 k];omega
   have HM:=Mt h top ((k*2 ^z:Nat):Int) (fI z L top (k:Int)) bX;rw[<-Ve] at HM⊢;generalize fI z L top (k:Int)=x at*;generalize fq z L top ((k:Int)*((2 ^((d.im.z:Nat):Int).toNat:Nat):Int)) x=arP at*;have m1:(0:Int)<=(k:Int)/\(0:Int)<=((d.im.z:Nat):Int)/\((d.im.z:Nat):Int)<=64:=aD9
   have mk:k*2 ^z<=256*8:=ax9 aD1 ae.2;have m2:c8 ((k:Int)*((2 ^((d.im.z:Nat):Int).toNat:Nat):Int)):=by rw[Ve];omega
   refine aY [6] func301 ?_;exact ar (j7 _ _ L h.toi3 top d H) ⟨rfl,dE ⟨fun _ _=>ar vG ⟨fun _=>bz [] (cM [(0,ap 2001),(4,dy d.am),(5,ab (k:Int))] (qd z R L top base false)) <| ar (il (xn d.im) fO rfl rfl rfl rfl) ⟨m1,m2,ar dW <| ar HM ⟨rfl,bh⟩⟩,fun h=>as3 (show true=false from h) aD2⟩,fun h=>by cases h⟩⟩
  |none=>
   rw[hn] at bK;have bK:h4 z L top base false=⟨decide ((ip L top base).e=0),(ip L top base).e,(ip L top base).L,decide ((ip L top base).e=0)⟩:=bK;rw[bK]
   have J:qe L top base false=(0,false):=by
    unfold qe;rw[hn];rfl
   rw[J] at vG;have zd:=ahQ h top base;generalize ip L top base=arQ at*;refine aY [7] func301 ?_;exact ar (j7 _ _ L h.toi3 top d H) ⟨rfl,dE ⟨fun _ _=>ar vG <| dE <| bz [] (cM [(0,ap 2001)] (qd z R L top base false)) <| ar zd ⟨rfl,bh⟩,fun h=>by cases h⟩⟩
end
end
section
abbrev Np (aK:bB):=Nat×(aa ai×aa aK)
def akE {aK:bB} (p:Np aK):Int:=p.2.1
def gone {aK:bB} (n:Int) (bO:aH0) (l:List (Np aK)):List (Np aK):=l.filter fun p=> !(bO.contains p.1&&decide (n<=akE p))
def Vf {es:aH1} (h:fg es) (f:Int): ∀n,fg (qS es f n)
 |0=>h
 |n+1=>fg.put qK (Vf h f n)
def Nq {s g:Int} {es:aH1} (h:fg es) (fr bJ:Int):fg (la s g es fr bJ):=by
 unfold la
 split
 .exact Vf h _ _
 .exact h
def HS {es:aH1} (h:fg es) (f:Int): ∀n,fg (vH es f n)
 |0=>h
 |n+1=>fg.nQ (HS h f n)
def akF {s g:Int} {es:aH1} (h:fg es) (m:aI4) (i:Nat):fg (nr s g es m i):=by
 unfold nr;generalize m.take i=l
 induction l generalizing es with
 |nil=>exact h
 |cons x l bn=>
  refine bn (es:=tc s g es x) ?_;unfold tc
  split
  .exact Nq h _ _
  .exact h
end
section
open Go.RowKit Go.Proofs Go.Maps Go.Shelf Go.MapKept Tryz
open Go.WideElems (Fit rd rg pl rd_val rd_key rg_of)
def akG (es:List (aa .str×aa .aM)):Fn prog 51 [.c (.one (.mp 1001))] [(1001,.map .str .aM es)] [2001] (.c (.one (.c3 95 [.p 2001 0]))) [(2001,.cells [.mp 1001]),(1001,.map .str .aM es)]:=by refine aY [] func51 ?_;exact⟨rfl,_,_,_,ac.aX 1 2001 rfl,rfl,rfl,aD,rfl⟩
def akH (es:List (aa .str×aa .aM)) (hn:(mF es).Nodup) (ak: ∀s∈mF es,s.length<=maxLen) (au:es.length<=4294967296):
  Fn prog 50 [.c (.one (.c3 95 [.p 2001 0]))] [(2001,.cells [.mp 1001]),(1001,.map .str .aM es)] [] (bP .str (oI es)) [(2001,.cells [.mp 1001]),(1001,.map .str .aM es)]:=by
 refine⟨aD4,fun ρ F I w bZ a1 c4 bj eQ bX dI=>?_⟩
 match bZ,bX with
 | [v],_=>
  obtain⟨aF,az,gH,r,hP,mG,ax⟩:=dI 0 _ v rfl rfl;have ax:r=[]:=ax;have mG:gH= .pointer (some ⟨(ρ 2001).bm,0,none⟩):=mG;subst ax mG hP az;obtain⟨_,aF,T,hd,hP⟩:=c4 2001 _ rfl;obtain⟨x,r,hP,hx,ax⟩:=hP;have ax:r=[]:=ax;have hx:x= .map (some (ρ 1001).bm):=hx;subst ax hx hP;obtain⟨_,bV,bY,fk,ay,cQ⟩:=c4 1001 _ rfl;have Hf:(4294967296:Nat)<=maxLen:=by decide
  obtain⟨jO,dN,cz,pw⟩:=Ti (P:=prog) (k:=9) aD4 fk ay cQ hn ak aD1;have bv:(ρ 2001).bm < w.heap.size:=mr hd
  have vD:SeqGives Fence.wide 2 prog 95 #[.pointer (some ⟨(ρ 2001).bm,0,none⟩)] encStr (fun hq=>hq.Perm (strKeys jO)) (Maps.size jO) w:=
   AnyZ.keys_gives (ρ:=Ta) {agD with} Fence.wide _ trivial rfl aD1 (ρ 2001).bm (ρ 1001).bm es.length jO w bv (pd hd rfl) dN
  have J:=AnyZ.sorted_in S8 Fence.wide 5 trivial trivial trivial trivial rfl aD1 (Tk _) (enters_of func94 aD4 rfl) 95 #[.pointer (some ⟨(ρ 2001).bm,0,none⟩)] trivial (enters_of func95 aD4 rfl) _ _ aF7 aF7 _ vD;refine(callsIn_wide.1 J).mono ?_;rintro e w' ⟨v,hq,rfl,av,gm,yP,gV⟩;have a2:cp I w (fun b=>b < w'.heap.size/\(I b\/w.heap.size<=b)) w':=fun b f4=>⟨⟨au2 (a1 b f4) gV.size,.inl f4⟩,gV.block b (a1 b f4)⟩
  refine⟨v,ρ,F,rfl,cZ.pP gV,fun _ _=>rfl,_,a2,fun b h=>⟨h.1,h.2.imp id .inr⟩,fun c ch J=>Holds.cr a2 (fun b O=>gV.block b (bj c ch J b O).1) gV.size ch (fun _ _=>rfl) (c4 c ch J),fun c ch J b O=>?_,fun c ca ch ch' b E G=>eQ c ca ch ch' b E G,?_⟩
  .have:=bj c ch J b O;exact⟨au2 this.1 gV.size,fun h=>(by rcases h.2 with h |h;exact this.2 h;omega),.inl ⟨c,ch,J,O⟩⟩
  .have Z:hq.mergeSort (fun x y=>decide (x<=y))=oI es:=Go.mergeSort_of_perm (av.trans pw);rw[Z] at gm;have hN:=gl.sA gm;have xf:hq.length=(oI es).length:=by rw[<-Z,List.length_mergeSort]
   rw[xf] at hN;exact(hN.zT fun i _ aE=>(gm.lt i aE).1).Tj fun b E G=>⟨E,.inr G⟩
structure bf where
 nm:aG9
 ad:Nat
 dG:Nat
 on:Bool
 us:Bool
 s:Int
 g:Int
 es:List (aa ai×aa ai)
abbrev aH7:=List bf
abbrev kb (e:bf):aa .str×aa .aM:=((e.nm:aa .str),(some e.ad:aa .aM))
abbrev BC (nm:aG9) (on us:Bool) (dG:Nat):List bE:=[.d (.str nm),.d (.bool on),.d (.bool us),.d (.aM (some dG))]
def q3 (nm:aG9) (on us:Bool) (dG:Nat):bg:=bg.ch (.cells (BC nm on us dG)) (fun _=>rfl)
def fC (s g:Int) (es:aH1):bg:=bg.jq 1001 (iN s g es)
def d7 (l:aH7):List (aa .str×aa .aM):=l.map kb
abbrev xr (e:bf):Nat×bg:=(e.ad,q3 e.nm e.on e.us e.dG)
abbrev xt (e:bf):Nat×bg:=(e.dG,fC e.s e.g e.es)
def kA (l:aH7):List (Nat×bg):=l.map xr
def kc (l:aH7):List (Nat×bg):=l.map xt
abbrev eJ (l:aH7):aA:=[(1001,.cells [.mp 1002]),(1002,.map .str .aM (d7 l)),(1003,.aH (.bA (kA l))),(1004,.aH (.bA (kc l)))]
def c9 (l:aH7) (nm:aG9):Option bf:=l.find? fun e=>decide (e.nm=nm)
def xu (d:bf) (L:aH7) (nm:aG9):c9 (d::L) nm=if d.nm=nm then some d else c9 L nm:=by
 unfold c9;rw[List.find?_cons]
 by_cases e:d.nm=nm
 .rw[at4 e,vj e]
 .rw[av7 e,mu e]
def ke {l:aH7} {nm:aG9} {e:bf} (h:c9 l nm=some e):e∈l/\e.nm=nm:=⟨aC1 h,by have:=List.find?_some h;simpa using this⟩
def HT (nm:aG9): ∀L:List bf,(b0 (aI:=.str) (aK:=.aM) (d7 L) nm).getD (cR .aM)=((c9 L nm).map (·.ad):Option Nat)
 | []=>rfl
 |d::L=>by
  have bn:=HT nm L;show(b0 (aI:=.str) (aK:=.aM) (kb d::d7 L) nm).getD (cR .aM)=_;rw[xu];rw[show b0 (aI:=.str) (aK:=.aM) (kb d::d7 L) nm=match fT .str (nm:aa .str) (kb d).1 with |true=>some (kb d).2 |false=>b0 (aI:=.str) (aK:=.aM) (d7 L) nm from rfl]
  by_cases e:d.nm=nm
  .rw[show fT .str (nm:aa .str) (kb d).1=true from(qL _ _).2 e.symm,vj e];rfl
  .rw[show fT .str (nm:aa .str) (kb d).1=false from rP (aI:=.str) qL (fun h=>e h.symm),mu e];exact bn
def Nr {f:bf->Nat×bg}: ∀{L:aH7},(L.map fun d=>(f d).1).Nodup-> ∀{d:bf},d∈L->eH (L.map f) (f d).1=some (f d).2
 | [],_,d,h=>by cases h
 |e::L,hn,d,h=>by
  rw[au1] at hn;obtain⟨c0,d5⟩:=av5.1 hn;rw[au1];unfold eH;rcases as8.1 h with rfl |h
  .rw[vj rfl]
  .rw[mu (fun e=>c0 (by rw[e];exact au0 (f:=fun d=>(f d).1) h))];exact Nr d5 h
def Ns {f:bf->Nat×bg} {u:bf->bf}: ∀{L:aH7},(L.map fun d=>(f d).1).Nodup-> ∀{d:bf},d∈L->(f (u d)).1=(f d).1->fl (L.map f) (f d).1 (f (u d)).2=(L.map fun x=>if(f x).1=(f d).1 then u x else x).map f
 | [],_,d,h,_=>by cases h
 |e::L,hn,d,h,Z=>by
  rw[au1] at hn;obtain⟨c0,d5⟩:=av5.1 hn;rw[au1,au1,au1];unfold fl;rcases as8.1 h with rfl |h
  .rw[vj rfl,vj rfl]
   have akI:(L.map fun x=>if(f x).1=(f d).1 then u x else x)=L:=by
    refine(av1 fun x hx=>?_).trans (List.map_id' L);rw[mu fun e=>c0 (by rw[<-e];exact au0 (f:=fun d=>(f d).1) hx)]
   rw[akI]
   congr 1
   exact Prod.ext Z.symm rfl
  .have a8: ¬(f e).1=(f d).1:=fun ao=>c0 (by rw[ao];exact au0 (f:=fun d=>(f d).1) h)
   rw[mu a8,mu a8,Ns d5 h Z]
def nX (l:aH7) (a:Nat) (u:bf->bf):List bf:=l.map fun x=>if x.ad=a then u x else x
structure eh (l:aH7):Prop where
 ji:(l.map (·.nm)).Nodup
 mE:(l.map (·.ad)).Nodup
 vU:(l.map (·.dG)).Nodup
 ok: ∀e,e∈l->(0<=e.s/\e.s<=4096)/\(1<=e.g/\e.g<=64)/\fg e.es/\e.nm.length<=64
 len:l.length<=8
def xv {α l7:Type} {f:α->l7}: ∀{l:List α},(l.map f).Nodup-> ∀{p q:α},p∈l->q∈l->f p=f q->p=q
 | [],_,_,_,h,_,_=>by cases h
 |a::l,h,p,q,ae,aQ,e=>by
  rw[au1,av5] at h;rcases as8.1 ae with ae |ae <;>rcases as8.1 aQ with aQ |aQ
  .rw[ae,aQ]
  .exact as3 (by rw[<-ae,e];exact au0 aQ) h.1
  .exact as3 (by rw[<-aQ,<-e];exact au0 ae) h.1
  .exact xv h.2 ae aQ e
def eh.D {l:aH7} (h:eh l) {e:bf} (U:e∈l):eH (kA l) e.ad=some (q3 e.nm e.on e.us e.dG):=Nr (f:=xr) h.mE U
def eh.M {l:aH7} (h:eh l) {e:bf} (U:e∈l):eH (kc l) e.dG=some (fC e.s e.g e.es):=Nr (f:=xt) h.vU U
def Vg {l:aH7} {a:Nat} {u:bf->bf} (E: ∀e,(u e).nm=e.nm) (G: ∀e,(u e).ad=e.ad):d7 (nX l a u)=d7 l:=by
 unfold d7 nX;rw[aw7];refine av1 fun x _=>?_
 show kb (if x.ad=a then u x else x)=kb x
 split
 .unfold kb;rw[E,G]
 .rfl
def Vh {l:aH7} (h:eh l) {e:bf} (U:e∈l) {u:bf->bf} (G:(u e).ad=e.ad):fl (kA l) e.ad (q3 (u e).nm (u e).on (u e).us (u e).dG)=kA (nX l e.ad u):=
 Ns (f:=xr) (u:=u) h.mE U G
def Vi {l:aH7} (h:eh l) {e:bf} (U:e∈l) {u:bf->bf} (G:(u e).dG=e.dG):fl (kc l) e.dG (fC (u e).s (u e).g (u e).es)=kc (nX l e.ad u):=by
 refine(Ns (f:=xt) (u:=u) h.vU U G).trans ?_;unfold kc nX
 congr 1
 refine av1 fun x hx=>?_
 by_cases J:x.ad=e.ad
 .have:=xv h.mE hx U J;subst this;rw[vj rfl,vj rfl]
 .rw[mu J,mu fun ao=>J (by rw[xv h.vU hx U ao])]
def akJ {l:aH7} {a:Nat} {u:bf->bf} (E: ∀e,(u e).dG=e.dG/\(u e).s=e.s/\(u e).g=e.g/\(u e).es=e.es):kc (nX l a u)=kc l:=by
 unfold kc nX;rw[aw7];refine av1 fun x _=>?_
 show xt (if x.ad=a then u x else x)=xt x
 split
 .obtain⟨b4,cf,a3,a4⟩:=E x;unfold xt;rw[b4,cf,a3,a4]
 .rfl
def eh.dp {l:aH7} (h:eh l) {a:Nat} {u:bf->bf} (E: ∀e,(u e).nm=e.nm/\(u e).ad=e.ad/\(u e).dG=e.dG) (G: ∀e,e∈l->e.ad=a->(0<=(u e).s/\(u e).s<=4096)/\(1<=(u e).g/\(u e).g<=64)/\fg (u e).es):eh (nX l a u):=by
 have key: ∀{l7:Type} (f:bf->l7),(∀e,f (u e)=f e)->(nX l a u).map f=l.map f:=fun f hf=>by
  unfold nX;rw[aw7];refine av1 fun x _=>?_
  show f (if x.ad=a then u x else x)=f x
  split
  .exact hf x
  .rfl
 refine⟨by rw[key _ fun e=>(E e).1];exact h.ji,by rw[key _ fun e=>(E e).2.1];exact h.mE,by rw[key _ fun e=>(E e).2.2];exact h.vU,fun e U=>?_,by unfold nX;rw[at8];exact h.len⟩;obtain⟨x,hx,rfl⟩:=av0.1 U
 by_cases J:x.ad=a
 .rw[vj J];obtain⟨b1,b2,b3⟩:=G x hx J;exact⟨b1,b2,b3,by rw[(E x).1];exact(h.ok x hx).2.2.2⟩
 .rw[mu J];exact h.ok x hx
def HU {f:aI5} {args:List aS} {res:aS} {s g s' hC:Int} {es eL:aH1} {M:List (Nat×bg)} {b:Nat} (h:Fn prog f (ap 1001::args) (iN s g es) [] res (iN s' hC eL)) (al:eH M b=some (fC s g es))
  (E:ox 1001 [1002] (ap 1001::args) (iN s g es) [] [] []=true) (G:oy 1001 (nd [1002] [] []) res (iN s' hC eL) []=true) (ah:(args.all fun v=> !v.has 1001)=true) (aW:(!res.has 1001)=true):
  Fn prog f (dy b::args) [(1004,.aH (.bA M))] [] res [(1004,.aH (.bA (fl M b (fC s' hC eL))))]:=by
 have J:Fn prog f (ap 1001::args) [(1001,.aH (fC s g es))] [] res [(1001,.aH (fC s' hC eL))]:=Fn.close (br:=iN s g es) (dP:=iN s' hC eL) (aJ:=[]) (aT:=[]) [1002] aE0 (fun _ _ _ _ h=>h) (fun _ _ _ _ h=>h) E G;exact(cC.bA (c:=1001) (q:=1004) (b:=b) (args:=args) (aJ:=[]) (bb:=[]) (X:=Unit) (res:=fun _=>res) (aT:=fun _=>[]) (o:=fC s g es) (o':=fun _=>fC s' hC eL) (L:=M) J.x al ah ⟨rfl,rfl⟩ rfl (fun _=>aW)).fn
def Vj:Fn prog 29 [] [] [1001,1002,1003,1004] (ap 1001) (eJ []):=by refine aY [] func29 ?_;exact⟨rfl,rfl,_,_,_,ac.trans (ac.aX 3 1001 rfl) (ac.trans (ac.aX 1 1002 rfl) (ac.trans (ac.rK 1003 rfl) (ac.rK 1004 rfl))),rfl,rfl,aD,rfl⟩
def BD (l:aH7):mF (d7 l)=l.map (·.nm):=by unfold mF d7;rw[aw7];rfl
def iB (l:aH7):List aG9:=oI (d7 l)
def Nt (l:aH7):(iB l).length=l.length:=by unfold iB oI;rw[List.length_mergeSort,BD,at8]
def akK {l:aH7} (h:eh l):Fn prog 23 [ap 1001] (eJ l) [] (bP .str (iB l)) (eJ l):=by
 have Z:(mF (d7 l)).Nodup:=by rw[BD];exact h.ji
 have ay: ∀s∈mF (d7 l),s.length<=maxLen:=fun s au=>by
  rw[BD] at au;obtain⟨d,H,rfl⟩:=av0.1 au;exact az4 (h.ok d H).2.2.2 aD2
 have au:(d7 l).length<=4294967296:=by unfold d7;rw[at8];have:=h.len;omega
 refine aY [] func23 ?_;exact ar (Fn.aX [(1001,1002),(2001,5001)] (akG (d7 l))) <| ar (Fn.aX [(1001,1002),(2001,5001)] (akH (d7 l) Z ay au)) bh
def Eo:(prog.info? 4).map (·.size)=some 1:=by kernel_rfl
def HV:(prog.info? 58).map (·.size)=some 1:=by kernel_rfl
def Nu {I:Nat->Prop} {w:aH5} {b:Bool} {aB:aI3} (h:gY I w (.bool b) aB):aB.cells=List.toArray [aB]/\aB.oneCell'=true:=by have h:aB= .bool b:=h;subst h;exact⟨rfl,rfl⟩
def akL {I:Nat->Prop} {w:aH5} {b:Bool} {aB:aI3} (h:gY I w (.lit b) aB):aB.cells=List.toArray [aB]/\aB.oneCell'=true:=by have h:aB= .bool b:=h;subst h;exact⟨rfl,rfl⟩
def akM {l:aH7} (h:eh l) {e:bf} (U:e∈l) (on:Bool):Fn prog 176 [dy e.ad,ap 3001] (eJ l++[(3001,.cells [.d (.bool on)])]) [] g4 (eJ (nX l e.ad fun x=>{x with on:=on})++[(3001,.cells [.d (.bool on)])]):=by obtain⟨pt,gD,gE⟩:=kL Eo;have ce:=h.D U;have py:=Vg (l:=l) (a:=e.ad) (u:=fun x=>{x with on:=on}) (fun _=>rfl) (fun _=>rfl);have s8:=Vh h U (u:=fun x=>{x with on:=on}) rfl;have xg:=akJ (l:=l) (a:=e.ad) (u:=fun x=>{x with on:=on}) (fun _=>⟨rfl,rfl,rfl,rfl⟩);refine aY [] func176 ?_;refine bc (ju (b:=e.ad) rfl rfl) ?_;refine bc (fun N=>jN rfl underlying60 rfl rfl gD aE4 rfl N) ?_;refine bc (fun N=>A3 (q:=1003) (b:=e.ad) (j:=1) (y:=.bool on) (l:=BC e.nm e.on e.us e.dG) (h':=fun _=>rfl) rfl gD gE rfl rfl rfl ce (show 1 < 4 by decide) Nu N) ?_;exact sY bt rfl trivial ⟨rfl,as5 (fun e=>some (ba.map .str .aM e)) py.symm,as5 (fun e=>some (ba.aH (.bA e))) s8,as5 (fun e=>some (ba.aH (.bA e))) xg.symm,rfl,trivial⟩ rfl
def kR (x:bf):bf:={x with us:=true,es:=DV x.s x.g x.es}
def akN {l:aH7} (h:eh l) {e:bf} (U:e∈l):Fn prog 171 [dy e.ad] (eJ l) [] g4 (eJ (nX l e.ad kR)):=by obtain⟨pt,gD,gE⟩:=kL Eo;obtain⟨Nv,xw,xx⟩:=kL HV;obtain⟨b',cS,en,e0⟩:=h.ok e U;have ce:=h.D U;have al:=h.M U;have py:=Vg (l:=l) (a:=e.ad) (u:=kR) (fun _=>rfl) (fun _=>rfl);have s8:=Vh h U (u:=kR) rfl;have xg:=Vi h U (u:=kR) rfl;have au:=HU (L3 e.s e.g e.es) al rfl rfl rfl rfl;rw[yI al] at au;have J:=HU (aih e.s e.g e.es b' cS) al rfl rfl rfl rfl;refine aY [] func171 ?_;refine bc (ju (b:=e.ad) rfl rfl) ?_;refine bc (fun N=>jN rfl underlying60 rfl rfl xw (by rw[xx];decide) rfl N) ?_;refine bc (lR (q:=1003) rfl underlying58 rfl rfl rfl ce rfl) ?_;refine bc (ju (b:=e.ad) rfl rfl) ?_;refine bc (fun N=>jN rfl underlying60 rfl rfl xw (by rw[xx];decide) rfl N) ?_;refine bc (lR (q:=1003) rfl underlying58 rfl rfl rfl ce rfl) ?_;refine ar au <| ar J ⟨eU aD4,bc (ju (b:=e.ad) rfl rfl) ?_⟩;refine bc (fun N=>jN rfl underlying60 rfl rfl gD aE4 rfl N) ?_;refine bc (fun N=>A3 (q:=1003) (b:=e.ad) (j:=2) (y:=.lit true) (l:=BC e.nm e.on e.us e.dG) (h':=fun _=>rfl) rfl gD gE rfl rfl rfl ce (show 2 < 4 by decide) akL N) ?_;exact sY bt rfl trivial ⟨rfl,as5 (fun e=>some (ba.map .str .aM e)) py.symm,as5 (fun e=>some (ba.aH (.bA e))) s8,as5 (fun e=>some (ba.aH (.bA e))) xg,trivial⟩ rfl
end
section
section
variable {P:aH6} {ids:aH0} {K:aZ} {B:aA}
def akO {o:Oper} {T:aI0} {x:aH8} {q b:Nat} {L:List (Nat×bg)} {l:List bE} {h: ∀c,(ba.cells l).has c=false} {d:aJ1} {i:aI9} (ag:o.op= .load T x) (b8:P.underlying T=some d) (gm:d.isRow=true) (aE:P.info? T=some i) (aN:i.size=l.length) (hx:a7 K x= .c (.one (.d (.aM (some b)))))
  (aQ:aj B q=some (.aH (.bA L))) (cO:eH L b=some (bg.ch (.cells l) h)) (N:Nat):bD P N ids o K B (.c (.agg l)) ⟨[q],[],[]⟩:=by
 have ay:x∈o.op.operands:=aD8
 refine bD.val fun K' B' g1 g2 C ρ F a w al av=>?_
 have bl:f1 (b5 C B' F w) w L (F q):=al.holds q _ ((g2 q aD3).trans aQ);have az:a.eval x= .pointer (some ⟨b,0,none⟩):=av.ev ((g1 x ay).trans hx);obtain⟨cL,cU,p,b',cS,en,e0,vm⟩:=bl.out cO;obtain⟨E,aF,e8,G,ah⟩:=e0;rw[en] at G
 refine⟨.agg (List.toArray aF),FH (cs:=aF) ag az b8 gm aE (by rw[cg.length _ _ ah];exact aN) (fun j v V=>by rw[aw9];exact pd G V),aF,rfl,cg.mono (cp.refl _ _) _ _ (fun c J=>by
  have aw:mW c l=false:=h c;rw[aw] at J
  cases J) ah⟩
end
abbrev iQ (c d:Nat) (s g:Int) (es:aH1):aA:=[(c,.cells [.d (.int .i64 s),.d (.int .i64 g),.mp d]),(d,.map ai ai es)]
def akP (s g:Int) (es:aH1):Fn prog 54 [ap 3001] (iQ 3001 3002 s g es) [1001] (ap 1001) (iQ 3001 3002 s g es++[(1001,.aH (fC s g es))]):=by refine aY [] func54 ?_;exact ar (Fn.aX [(1001,3002),(2001,1002)] (T7 es)) ⟨rfl,eU aD4,_,_,_,ac.trans (ac.aX 17 1001 rfl) (ac.close 1001 (iN s g es) aD rfl fun _ _ _ _ h=>h),rfl,rfl,aD,rfl⟩
def akQ {s g:Int} {es:aH1} {M:List (Nat×bg)} {b:Nat} (al:eH M b=some (fC s g es)):Fn prog 54 [dy b] [(1004,.aH (.bA M))] [5001,5002] (ap 5001) [(1004,.aH (.bA M)),(5001,.cells [.d (.int .i64 s),.d (.int .i64 g),.mp 5002]),(5002,.map ai ai es)]:=by have aw:=Fn.aX [(2001,5001),(2002,5002)] (ain s g es);have J:Fn prog 54 [ap 1001] [(1001,.aH (fC s g es))] [5001,5002] (ap 5001) ((1001,.aH (fC s g es))::iQ 5001 5002 s g es):=Fn.close (br:=iN s g es) (dP:=iN s g es) (aJ:=[]) (aT:=iQ 5001 5002 s g es) [1002] aw (fun _ _ _ _ h=>h) (fun _ _ _ _ h=>h) rfl rfl;have:=(cC.bA (c:=1001) (q:=1004) (b:=b) (args:=[]) (aJ:=[]) (bb:=[5001,5002]) (X:=Unit) (res:=fun _=>ap 5001) (aT:=fun _=>iQ 5001 5002 s g es) (o:=fC s g es) (o':=fun _=>fC s g es) (L:=M) J.x al rfl ⟨rfl,rfl⟩ rfl (fun _=>rfl)).fn;rw[yI al] at this;exact this
end
section
abbrev BE (b:Nat):aa .aM:=(some b:aI1)
section
variable {P:aH6} {ids:aH0} {K:aZ} {B:aA}
end
end
section
def ze (oP:Nat->bg) (m8:bg):bg where
 bp:=fun I F w p=> ∃(cL cU:Nat->Prop) (q:bq),(∀x,F x↔cL x\/cU x)/\(∀x,cL x-> ¬cU x)/\(oP q.bm).bp I cL w p/\m8.bp I cU w q
 cr:=fun I F w I' w' p ⟨cL,cU,q,E,G,ah,aW⟩ U bj aN=>⟨cL,cU,q,E,G,(oP q.bm).cr _ _ _ _ _ _ ah U (fun b O=>bj b ((E b).2 (.inl O))) aN,m8.cr _ _ _ _ _ _ aW U (fun b O=>bj b ((E b).2 (.inr O))) aN⟩
def Vk (aI:bB) (es:List (aa aI×aa .aM)) (key:aa aI) (o:bg) (I F:Nat->Prop) (w:aH5) (p:bq):Prop:=
 ∃(cj:Nat->Prop) (q:bq),(∀x,F x↔x=p.bm\/cj x)/\ ¬cj p.bm/\(∃bV bY,w.heap[p.bm]? =some (.map (List.toArray bV) bY)/\iG I w aI .aM (dx (aI:=aI) (aK:=.aM) es key (BE q.bm)) bV/\ms bV bY)/\o.bp I cj w q
def HW (aI:bB) (es:List (aa aI×aa .aM)) (key:aa aI) (o:bg):bg where
 bp:=Vk aI es key o
 cr:=fun I F w I' w' p ⟨cj,q,E,G,⟨bV,bY,aW,bM,fU⟩,iw⟩ U bj aN=>⟨cj,q,E,G,⟨bV,bY,(bj _ ((E _).2 (.inl rfl))).trans aW,bM.mono U,fU⟩,o.cr _ _ _ _ _ _ iw U (fun b O=>bj b ((E b).2 (.inr O))) aN⟩
section
variable {P:aH6} {ids:aH0} {K:aZ} {B:aA}
def ac.akR (c:Nat) {ch:ba} (h: ∀c,ch.has c=false) (J:aj B c=some ch):ac ids K B K ((c,.aH (bg.ch ch h))::B):=by
 rintro N C a w ⟨hn,H,ρ,F,al,av⟩;obtain⟨bC,a2⟩:=al.h8 (w':=w) (ch:=.aH (bg.ch ch h)) J (cZ.refl _ _) fun I a1=>bg.SO h (Holds.cr (ρ':=ρ) a1 (fun _ _=>rfl) (as2 _) ch (fun _ _=>rfl) (al.holds c _ J))
 exact⟨hn,H,ρ,F,bC,av.mono a2 fun _ _ _=>rfl⟩
def akS {o:Oper} {T kt et:aI0} {x i v:aH8} {c d e:Nat} (ag:o.op= .mapUpdate T x i v) (b8:P.underlying T=some (.map kt et)) {dk:aJ1} (kM:P.underlying kt=some dk) {aI:bB} (H:nE aI dk=true)
  (hx:a7 K x= .c (.one (.mp c))) {key:aa aI} (Z:x0 aI (a7 K i)=some key) (az:a7 K v= .c (.one (.ptr d 0))) {es:List (aa aI×aa .aM)} {bd: ∀c,(ba.map aI .aM es).has c=false} {l:List bE} {oP:Nat->bg} {m8:bg}
  (J:aj B c=some (.aH (bg.ch (.map aI .aM es) bd))) (lv:aj B d=some (.cells l)) (gM:aj B e=some (.aH m8)) (a8:c≠d) (Vl:c≠e) (akT:d≠e)
  (Nw: ∀(ρ:Nat->bq) (I F:Nat->Prop) (w:aH5) (p:bq),Holds ρ I F w p (.cells l)->(oP (ρ e).bm).bp I F w p) (N:Nat):bD P N ids o K B .undef ⟨[c,d,e],[],[(d,none),(e,none),(c,some (.aH (HW aI es key (ze oP m8))))]⟩:=by
 have m1:x∈o.op.operands:=aD8
 have m2:i∈o.op.operands:=aD8
 have m3:v∈o.op.operands:=aD8
 rintro K' B' g1 g2 - C a w ⟨hn,mC,ρ,F,al,av⟩ bv ga Q cE;have cW:=(g2 c aD3).trans J;have dC:=(g2 d aD3).trans lv;have hc:=(g2 e aD3).trans gM;obtain⟨m9,bV,bY,aW,bM,fU⟩:Holds (fun _=>ρ c) (b5 C B' F w) (F c) w (ρ c) (.map aI .aM es):=al.holds c _ cW;have akU:=al.holds d _ dC;have akV:m8.bp (b5 C B' F w) (F e) w (ρ e):=al.holds e _ hc;have zf: ∀y,F d y-> ¬F e y:=fun y aC eo=>al.fw d e _ _ y dC hc akT aC eo
 have aq:(ze oP m8).bp (b5 C B' F w) (fun y=>F d y\/F e y) w (ρ d):=⟨F d,F e,ρ e,fun x=>Iff.rfl,zf,Nw ρ _ _ _ _ akU,akV⟩;have af:=av.mp ((g1 x m1).trans hx);have ao:a.eval i=gZ aI key:=Cy Z (av.ev (g1 i m2));have bo:a.eval v= .pointer (some ⟨(ρ d).bm,0,none⟩):=av.ev ((g1 v m3).trans az)
 have c7:jT (b5 C B' F w) w .aM (BE (ρ d).bm) (a.eval v):=by
  rw[bo];exact⟨rfl,⟨fun _=>rfl,fun h=>by cases h⟩,rfl⟩
 obtain⟨eL,kl,ax,gK,qB⟩:=Cj (P:=P) b8 kM H aW bM fU key c7;have eQ: ∀y,(F d y\/F e y)-> ¬F c y:=fun y aC eo=>aC.elim (fun aC=>al.fw d c _ _ y dC cW (ay4 a8) aC eo) (fun aC=>al.fw e c _ _ y hc cW (ay4 Vl) aC eo)
 have rL:=(az9.1 aW).1;have vu: ∀y,y≠(ρ c).bm->({w with heap:=w.heap.setIfInBounds (ρ c).bm (.map (List.toArray eL) kl)}:World).heap[y]? =w.heap[y]? :=fun y aC=>az2 (ay4 aC)
 unfold Oper.wp;have hx:(execOp a.eval o).run P w= .ok .skip {w with heap:=w.heap.setIfInBounds (ρ c).bm (.map (List.toArray eL) kl)}:=by simp only[execOp,ag,aw5,af,ao,ax,au5,ax2]
 rw[hx,Oper.upon_skip]
 obtain⟨bC,a2⟩:=al.step (B':=(c,.aH (HW aI es key (ze oP m8)))::g8 (g8 B' d) e) (ρ':=ρ) (F':=dp F c (fun y=>F c y\/(F d y\/F e y))) (w':={w with heap:=w.heap.setIfInBounds (ρ c).bm (.map (List.toArray eL) kl)}) (fun j=>j=d\/j=e\/j=c) (fun _=>False)
  ((u5 (S:=F c) ((m9 _).2 rfl)).mono fun y _ aC=>⟨c,_,cW,.inr (.inr rfl),aC⟩)
  (fun j ch V ay=>by
   rw[ci,mu (fun e=>ay (.inr (.inr e.symm))),hM,mu (fun e=>ay (.inr (.inl e.symm))),hM,mu (fun e=>ay (.inl e.symm))] at V;exact V)
  (fun _ _=>rfl) (fun j ay=>du _ _ (fun e=>ay (.inr (.inr e)))) (fun _ _ h=>h) (fun _ h=>h.elim) (fun _ _ _ _ _ _ h=>h)
  (fun j ch V ay a2=>by
   rw[ci] at V
   split at V
   .rename_i e;subst e;injection V with V
    subst V;rw[dh];have x8: ∀y,(F d y\/F e y)->y≠(ρ c).bm:=fun y aC e=>eQ y aC (e▸(m9 _).2 rfl)
    refine⟨fun y=>F d y\/F e y,ρ d,fun y=>?_,fun h=>x8 _ h rfl,⟨eL,kl,by simp[rL],gK.mono a2,qB⟩,(ze oP m8).cr _ _ _ _ _ _ aq a2 (fun y aC=>vu y (x8 y aC)) aD3⟩;show(F c y\/(F d y\/F e y))↔(y=(ρ c).bm\/(F d y\/F e y));rw[m9]
   .rename_i bK;rcases ay with rfl |rfl |rfl
    .rw[hM] at V
     split at V
     .cases V
     .rw[hM,vj rfl] at V;cases V
    .rw[hM,vj rfl] at V;cases V
    .exact as3 rfl bK)
  (fun j ch V ay y aC=>by
   rw[ci] at V
   split at V
   .rename_i bK;subst bK;rw[dh] at aC;rcases aC with aC |aC |aC
    .exact⟨by simpa using(al.own c _ cW y aC).1,.inl ⟨c,_,cW,.inr (.inr rfl),aC⟩⟩
    .exact⟨by simpa using(al.own d _ dC y aC).1,.inl ⟨d,_,dC,.inl rfl,aC⟩⟩
    .exact⟨by simpa using(al.own e _ hc y aC).1,.inl ⟨e,_,hc,.inr (.inl rfl),aC⟩⟩
   .rename_i bK;rcases ay with rfl |rfl |rfl
    .rw[hM] at V
     split at V
     .cases V
     .rw[hM,vj rfl] at V;cases V
    .rw[hM,vj rfl] at V;cases V
    .exact as3 rfl bK)
  (fun j rG ch ch' y V k1 ay gK akW=>by
   have key: ∀j ch,aj ((c,ba.aH (HW aI es key (ze oP m8)))::g8 (g8 B' d) e) j=some ch->(j=d\/j=e\/j=c)->j=c:=fun j ch V ay=>by
    rcases ay with rfl |rfl |rfl
    .rw[ci,mu a8,hM] at V
     split at V
     .cases V
     .rw[hM,vj rfl] at V;cases V
    .rw[ci,mu Vl,hM,vj rfl] at V;cases V
    .rfl
   exact as3 ((key j ch V ay).trans (key rG ch' k1 gK).symm) akW)
 exact cE _ _ ⟨kW.trans hn,kX.trans mC,ρ,_,bC,(av.mono a2 fun _ _ _=>rfl).kY (fun e U=>by rw[hn];exact bv e U) rfl⟩
def dv.akX (c d:Nat) {aI:bB} {es:List (aa aI×aa .aM)} {key:aa aI} {o:bg} (J:aj B c=some (.aH (HW aI es key o))) (H:hk ids K B d=true):dv ids K B (X:=Nat) (fun _=>K) (fun ad=>(d,.aH (o.at ad))::(c,.map aI .aM (dx (aI:=aI) (aK:=.aM) es key (BE ad)))::B):=by
 rintro N C a w ⟨hn,mC,ρ,F,al,av⟩;obtain⟨cj,q,E,G,⟨bV,bY,aW,bM,fU⟩,iw⟩:Vk aI es key o (b5 C B F w) (F c) w (ρ c):=al.holds c _ J;obtain⟨eW,e9,f3,iZ⟩:=ls H
 obtain⟨bC,a2⟩:=al.split (K:=K) (jm:=.map aI .aM (dx (aI:=aI) (aK:=.aM) es key (BE q.bm))) (pc:=.aH (o.at q.bm)) J H q (fun x=>x=(ρ c).bm) cj (fun b O=>(E b).2 (.inl O)) (fun b O=>(E b).2 (.inr O)) (fun b O lu=>G (O▸lu))
  (fun I a1=>⟨fun b=>Iff.rfl,bV,bY,aW,bM.mono a1,fU⟩) (fun I a1=>by
   refine⟨rfl,?_⟩;exact o.cr _ _ _ _ _ _ iw a1 (fun _ _=>rfl) (as2 _))
 exact⟨q.bm,hn,mC,_,_,bC,av.mono a2 fun s j V=>du _ _ (fun b9=>by subst b9;rw[eW s] at V;cases V)⟩
def dv.akY (d e:Nat) {oP:Nat->bg} {m8:bg} {ad:Nat} (J:aj B d=some (.aH ((ze oP m8).at ad))) (U:hk ids K B e=true):dv ids K B (X:=Nat) (fun _=>K) (fun dG=>(e,.aH (m8.at dG))::(d,.aH ((oP dG).at ad))::B):=by
 rintro N C a w ⟨hn,mC,ρ,F,al,av⟩;obtain⟨O,cL,cU,q,E,G,ah,aW⟩:((ze oP m8).at ad).bp (b5 C B F w) (F d) w (ρ d):=al.holds d _ J;obtain⟨eW,e9,f3,iZ⟩:=ls U
 obtain⟨bC,a2⟩:=al.split (K:=K) (jm:=.aH ((oP q.bm).at ad)) (pc:=.aH (m8.at q.bm)) J U q cL cU (fun b O=>(E b).2 (.inl O)) (fun b O=>(E b).2 (.inr O)) G
  (fun I a1=>⟨O,(oP q.bm).cr _ _ _ _ _ _ ah a1 (fun _ _=>rfl) (as2 _)⟩) (fun I a1=>⟨rfl,m8.cr _ _ _ _ _ _ aW a1 (fun _ _=>rfl) (as2 _)⟩)
 exact⟨q.bm,hn,mC,_,_,bC,av.mono a2 fun s j V=>du _ _ (fun b9=>by subst b9;rw[eW s] at V;cases V)⟩
end
def Vm {nm:aG9} {on us:Bool} {dG:Nat}:(q3 nm on us dG).pn:=fun I F w p h=>(h.1 _).2 rfl
def Vn {s g:Int} {es:aH1}:(fC s g es).pn:=by rintro I F w p ⟨ρ,cj,E,G,ah,aW⟩;obtain⟨bj,_⟩:=G 1001 _ rfl;exact(aW _).2 ⟨1001,_,rfl,(bj _).2 (by rw[E])⟩
def akZ (l:aH7): ∀p∈kA l,p.2.pn:=fun p ae=>by
 obtain⟨d,_,rfl⟩:=av0.1 ae;exact Vm
def ak0 (l:aH7): ∀p∈kc l,p.2.pn:=fun p ae=>by
 obtain⟨d,_,rfl⟩:=av0.1 ae;exact Vn
def Vo (nm:aG9) (x:aa .aM): ∀L:List bf,c9 L nm=none->dx (aI:=.str) (aK:=.aM) (d7 L) (nm:aa .str) x=(d7 L++[Be nm x]:List (aa .str×aa .aM))
 | [],_=>rfl
 |d::L,h=>by
  rw[xu] at h
  by_cases e:d.nm=nm
  .rw[vj e] at h;cases h
  .rw[mu e] at h;have bn:=Vo nm x L h;show dx (aI:=.str) (aK:=.aM) (kb d::d7 L) (nm:aa .str) x=_;rw[show dx (aI:=.str) (aK:=.aM) (kb d::d7 L) (nm:aa .str) x=(match fT .str (nm:aa .str) (kb d).1 with |true=>Be nm x::d7 L |false=>kb d::dx (aI:=.str) (aK:=.aM) (d7 L) (nm:aa .str) x:List (aa .str×aa .aM)) from rfl];rw[show fT .str (nm:aa .str) (kb d).1=false from rP (aI:=.str) qL (fun h=>e h.symm)];simp only;rw[bn];rfl
def Ep {l:aH7} {nm:aG9} (h:c9 l nm=none):nm∉l.map (·.nm):=fun hx=>by
 obtain⟨d,H,e⟩:=av0.1 hx;have:=List.find?_eq_none.1 h d H;exact this (by simpa using e)
def eh.add {l:aH7} (h:eh l) {e:bf} (aw:c9 l e.nm=none) (ha:e.ad∉l.map (·.ad)) (O:e.dG∉l.map (·.dG)) (bx:(0<=e.s/\e.s<=4096)/\(1<=e.g/\e.g<=64)/\fg e.es/\e.nm.length<=64) (ak:l.length < 8):eh (l++[e]):=by
 have key: ∀{α:Type} (f:bf->α) (d:bf),(l.map f).Nodup->f d∉l.map f->((l++[d]).map f).Nodup:=fun f d E G=>by
  rw[aw2];refine List.nodup_append.2 ⟨E,aD3,fun a ha b O e=>?_⟩;rw[au1,aC3,at7] at O;exact G (by rw[<-O,<-e];exact ha)
 refine⟨key _ _ h.ji (Ep aw),key _ _ h.mE ha,key _ _ h.vU O,fun x hx=>?_,by rw[as4];show l.length+1<=8;omega⟩;rcases au4.1 hx with hx |hx
 .exact h.ok x hx
 .rw[at7.1 hx];exact bx
def Vp {f:bf->Nat×bg} (L:aH7) (d:bf):(f d::L.map f).Perm ((L++[d]).map f):=by rw[aw2];exact(List.perm_append_comm (l₁:=[f d]) (l₂:=L.map f))
abbrev BF (l:aH7) (s g:Int) (es:aH1):aA:=eJ l++iQ 2001 2002 s g es
def Er {l:aH7} {nm:aG9} (aw:c9 l nm=none):(b0 (aI:=.str) (aK:=.aM) (d7 l) nm).getD (cR .aM)=none:=by rw[HT,aw];rfl
def BG {l:aH7} {nm:aG9} {e:bf} (aw:c9 l nm=some e):(b0 (aI:=.str) (aK:=.aM) (d7 l) nm).getD (cR .aM)=some e.ad:=by rw[HT,aw];rfl
def Vq {l:aH7} (h:eh l) (nm:aG9) (hn:nm.length<=4294967296) (ax:hg nm=true) (aw:c9 l nm=none) (iH:l.length < 8) (s g:Int) (es:aH1) (bx:(0<=s/\s<=4096)/\(1<=g/\g<=64)/\fg es):
  cC prog 70 [ap 1001,bW nm,ap 2001] (BF l s g es) [] (X:={p:Nat×Nat//eh (l++[⟨nm,p.1,p.2,true,true,s,g,es⟩])}) (fun _=>ab 0) (fun p=>BF (l++[⟨nm,p.1.1,p.1.2,true,true,s,g,es⟩]) s g es):=by
 have hx:=Er aw;have bX:(d7 l).length=l.length:=at8 ..;refine hZ [5,6] func70 ?_;refine ar (qV _ hn) ⟨fun af=>?_,fun af=>?_⟩
 .rw[ax] at af;cases af
 refine⟨fun ej bo=>?_,fun bo=>?_⟩
 .exfalso;have:(b0 (aI:=.str) (aK:=.aM) (d7 l) nm).getD (cR .aM)=some ej:=bo;rw[hx] at this
  cases this
 refine⟨fun c7=>?_,fun c7=>?_⟩
 .exfalso;have c7:(8:Int)<=((d7 l).length:Int):=gd c7;omega
 refine bw.le (ac.akR 1002 (fun _=>rfl) rfl) <| bz [6] (bt) <| ar (Fn.aX [(1001,38),(3001,2001),(3002,2002)] (akP s g es)) ⟨rfl,bc (fun N=>akS (c:=1002) (d:=40) (e:=38) (aI:=.str) (key:=nm) (oP:=fun dG=>q3 nm true true dG) rfl underlying104 (dk:=.string) aD4 rfl rfl rfl rfl rfl rfl rfl aD2 aD2 aD2 (fun ρ I F w p bd=>?Nw) N) ?_⟩
 case Nw=>
  obtain⟨cB,aF,T,cH,k0,r1,af,jc,v2,r2,ao,bF,v3,gh,bo,u0,v4,kr,c7,u1,fY⟩:=bd;exact⟨cB,aF,T,cH,k0,r1,af,jc,v2,r2,ao,bF,v3,gh,bo,u0,v4,kr,c7,u1,fY⟩
 refine⟨eU aD4,bw.ff (dv.akX 1002 5001 rfl rfl) fun ad=>bw.ff (dv.akY 5001 5002 rfl rfl) fun dG=>bw.le (K':=[]) (B':=[(1001,.cells [.mp 1002]),(1002,.map .str .aM (dx (aI:=.str) (aK:=.aM) (d7 l) nm (BE ad))),(1003,.aH (.bA ((ad,q3 nm true true dG)::kA l))),(1004,.aH (.bA ((dG,fC s g es)::kc l))),(2001,.cells [.d (.int .i64 s),.d (.int .i64 g),.mp 2002]),(2002,.map ai ai es)]) (ac.trans (ac.put 1003 5001 aD2 rfl rfl) (ac.trans (ac.put 1004 5002 aD2 rfl rfl) (ac.sub trivial aD))) ?_⟩;refine bw.ff (dv.C8 1003 (L:=(ad,q3 nm true true dG)::kA l) (fun p ae=>(as8.1 ae).elim (fun e=>by rw[e];exact Vm) (akZ l p)) rfl) fun ak1=>?_
 refine bw.ff (dv.C8 1004 (L:=(dG,fC s g es)::kc l) (fun p ae=>(as8.1 ae).elim (fun e=>by rw[e];exact Vn) (ak0 l p)) rfl) fun ak2=>bz [] (bt) ?_
 have Me:ad∉l.map (·.ad):=fun ay=>(av5.1 ak1.down).1 (by show ad∈(kA l).map (·.1);unfold kA;rw[aw7];exact ay)
 have ak3:dG∉l.map (·.dG):=fun ay=>(av5.1 ak2.down).1 (by show dG∈(kc l).map (·.1);unfold kc;rw[aw7];exact ay)
 have Lw:nm.length<=64:=by have:=(DR ax).2;omega
 have py:dx (aI:=.str) (aK:=.aM) (d7 l) (nm:aa .str) (BE ad)=d7 (l++[⟨nm,ad,dG,true,true,s,g,es⟩]):=(Vo nm _ l aw).trans (by unfold d7;rw[aw2];rfl);exact⟨⟨(ad,dG),h.add (e:=⟨nm,ad,dG,true,true,s,g,es⟩) aw Me ak3 ⟨bx.1,bx.2.1,bx.2.2,Lw⟩ iH⟩,_,_,_,ac.trans (ac.Bd 1003 (Vp (f:=xr) l ⟨nm,ad,dG,true,true,s,g,es⟩) rfl) (ac.Bd 1004 (Vp (f:=xt) l ⟨nm,ad,dG,true,true,s,g,es⟩) rfl),rfl,rfl,⟨rfl,as5 (fun e=>some (ba.map .str .aM e)) py,rfl,rfl,rfl,rfl,trivial⟩,rfl⟩
def ak4 {l:aH7} (nm:aG9) (hn:nm.length<=4294967296) (ax:hg nm=false) (s g:Int) (es:aH1):
  Fn prog 70 [ap 1001,bW nm,ap 2001] (BF l s g es) [] (ab 1) (BF l s g es):=by
 refine aY [] func70 ?_;refine ar (qV _ hn) ⟨fun af=>?_,fun af=>?_⟩
 .exact bh
 .rw[ax] at af;cases af
def ak5 {l:aH7} (nm:aG9) (hn:nm.length<=4294967296) (ax:hg nm=true) (aw:(c9 l nm).isSome=true\/8<=l.length) (s g:Int) (es:aH1):
  Fn prog 70 [ap 1001,bW nm,ap 2001] (BF l s g es) [] (ab 111) (BF l s g es):=by
 have bX:(d7 l).length=l.length:=at8 ..;refine aY [5] func70 ?_;refine ar (qV _ hn) ⟨fun af=>?_,fun af=>?_⟩
 .rw[ax] at af;cases af
 refine⟨fun ej bo=>?_,fun bo=>?_⟩
 .exact bh
 refine⟨fun c7=>?_,fun c7=>?_⟩
 .exact bh
 .exfalso;have bo:(b0 (aI:=.str) (aK:=.aM) (d7 l) nm).getD (cR .aM)=none:=bo;have c7: ¬(8:Int)<=((d7 l).length:Int):=oj c7;rcases aw with aw |aw
  .rw[HT] at bo
   cases E:c9 l nm with
   |none=>rw[E] at aw;cases aw
   |some e=>rw[E] at bo;cases bo
  .omega
end
section
def ak6 {l l':aH7} {nm:aG9} {e:bf} (U:c9 l nm=some e) (J:Fn prog 175 [dy e.ad,ap 3001,ap 3002] (eJ l++[(3001,.cells [.ptr 1001 0]),(3002,.cells [.d (.str nm)])]) [] g4 (eJ l'++[(3001,.cells [.ptr 1001 0]),(3002,.cells [.d (.str nm)])])):
  Fn prog 52 [ap 1001,bW nm,.c (.one (.c3 175 [.p 3001 0,.p 3002 0]))] (eJ l++[(3001,.cells [.ptr 1001 0]),(3002,.cells [.d (.str nm)])]) [] (ab 0) (eJ l'++[(3001,.cells [.ptr 1001 0]),(3002,.cells [.d (.str nm)])]):=by
 have h':=BG U;refine aY [] func52 ?_;exact⟨fun ej O=>ar (Fn.arg (args:=[A8 ((b0 (aI:=.str) (aK:=.aM) (d7 l) nm).getD (cR .aM)),ap 3001,ap 3002]) J ⟨h',rfl,rfl,trivial⟩) bh,fun O=>as3 (show(b0 (aI:=.str) (aK:=.aM) (d7 l) nm).getD (cR .aM)=none from O) aE7⟩
def ak7 {l:aH7} {nm:aG9} (U:c9 l nm=none):
  Fn prog 52 [ap 1001,bW nm,.c (.one (.c3 175 [.p 3001 0,.p 3002 0]))] (eJ l++[(3001,.cells [.ptr 1001 0]),(3002,.cells [.d (.str nm)])]) [] (ab 112) (eJ l++[(3001,.cells [.ptr 1001 0]),(3002,.cells [.d (.str nm)])]):=by
 have h':=Er U;refine aY [] func52 ?_;exact⟨fun ej O=>as3 (show(b0 (aI:=.str) (aK:=.aM) (d7 l) nm).getD (cR .aM)=some ej from O) aE7,fun _=>bh⟩
def ak8 {l l':aH7} {nm:aG9} (on:Bool) {e:bf} (U:c9 l nm=some e) (J:Fn prog 176 [dy e.ad,ap 3001] (eJ l++[(3001,.cells [.d (.bool on)])]) [] g4 (eJ l'++[(3001,.cells [.d (.bool on)])])):
  Fn prog 52 [ap 1001,bW nm,.c (.one (.c3 176 [.p 3001 0]))] (eJ l++[(3001,.cells [.d (.bool on)])]) [] (ab 0) (eJ l'++[(3001,.cells [.d (.bool on)])]):=by
 have h':=BG U;refine aY [] func52 ?_;exact⟨fun ej O=>ar (Fn.arg (args:=[A8 ((b0 (aI:=.str) (aK:=.aM) (d7 l) nm).getD (cR .aM)),ap 3001]) J ⟨h',rfl,trivial⟩) bh,fun O=>as3 (show(b0 (aI:=.str) (aK:=.aM) (d7 l) nm).getD (cR .aM)=none from O) aE7⟩
def ak9 {l:aH7} {nm:aG9} (on:Bool) (U:c9 l nm=none):
  Fn prog 52 [ap 1001,bW nm,.c (.one (.c3 176 [.p 3001 0]))] (eJ l++[(3001,.cells [.d (.bool on)])]) [] (ab 112) (eJ l++[(3001,.cells [.d (.bool on)])]):=by
 have h':=Er U;refine aY [] func52 ?_;exact⟨fun ej O=>as3 (show(b0 (aI:=.str) (aK:=.aM) (d7 l) nm).getD (cR .aM)=some ej from O) aE7,fun _=>bh⟩
def ak' {l l':aH7} {nm:aG9} {e:bf} (U:c9 l nm=some e) (J:Fn prog 171 [dy e.ad] (eJ l) [] g4 (eJ l')):
  Fn prog 52 [ap 1001,bW nm,.c (.one (.c3 171 []))] (eJ l) [] (ab 0) (eJ l'):=by
 have h':=BG U;refine aY [] func52 ?_;exact⟨fun ej O=>ar (Fn.arg (args:=[A8 ((b0 (aI:=.str) (aK:=.aM) (d7 l) nm).getD (cR .aM))]) J ⟨h',trivial⟩) bh,fun O=>as3 (show(b0 (aI:=.str) (aK:=.aM) (d7 l) nm).getD (cR .aM)=none from O) aE7⟩
def ala {l:aH7} {nm:aG9} (U:c9 l nm=none):
  Fn prog 52 [ap 1001,bW nm,.c (.one (.c3 171 []))] (eJ l) [] (ab 112) (eJ l):=by
 have h':=Er U;refine aY [] func52 ?_;exact⟨fun ej O=>as3 (show(b0 (aI:=.str) (aK:=.aM) (d7 l) nm).getD (cR .aM)=some ej from O) aE7,fun _=>bh⟩
def alb {l l':aH7} {nm:aG9} (on us:Bool) (s g:Int) (es:aH1) {e:bf} (U:c9 l nm=some e) (J:Fn prog 53 [dy e.ad,ap 3001] (eJ l++[(3001,.cells [.d (.str []),.d (.lit false),.d (.lit false),.bN (.pointer none)])]) [5001,5002] g4 (eJ l'++[(3001,.cells [.d (.str nm),.d (.bool on),.d (.bool us),.ptr 5001 0]),(5001,.cells [.d (.int .i64 s),.d (.int .i64 g),.mp 5002]),(5002,.map ai ai es)])):
  Fn prog 52 [ap 1001,bW nm,.c (.one (.c3 53 [.p 3001 0]))] (eJ l++[(3001,.cells [.d (.str []),.d (.lit false),.d (.lit false),.bN (.pointer none)])]) [5001,5002] (ab 0) (eJ l'++[(3001,.cells [.d (.str nm),.d (.bool on),.d (.bool us),.ptr 5001 0]),(5001,.cells [.d (.int .i64 s),.d (.int .i64 g),.mp 5002]),(5002,.map ai ai es)]):=by
 have h':=BG U;refine aY [] func52 ?_;exact⟨fun ej O=>ar (Fn.arg (args:=[A8 ((b0 (aI:=.str) (aK:=.aM) (d7 l) nm).getD (cR .aM)),ap 3001]) J ⟨h',rfl,trivial⟩) bh,fun O=>as3 (show(b0 (aI:=.str) (aK:=.aM) (d7 l) nm).getD (cR .aM)=none from O) aE7⟩
def alc {l:aH7} {nm:aG9} (U:c9 l nm=none):
  Fn prog 52 [ap 1001,bW nm,.c (.one (.c3 53 [.p 3001 0]))] (eJ l++[(3001,.cells [.d (.str []),.d (.lit false),.d (.lit false),.bN (.pointer none)])]) [] (ab 112) (eJ l++[(3001,.cells [.d (.str []),.d (.lit false),.d (.lit false),.bN (.pointer none)])]):=by
 have h':=Er U;refine aY [] func52 ?_;exact⟨fun ej O=>as3 (show(b0 (aI:=.str) (aK:=.aM) (d7 l) nm).getD (cR .aM)=some ej from O) aE7,fun _=>bh⟩
def kP (l:aH7) (nm:aG9) (u:bf->bf):List bf:=l.map fun x=>if x.nm=nm then u x else x
def Nx {l:aH7} (h:eh l) {nm:aG9} {e:bf} (U:c9 l nm=some e) (u:bf->bf):nX l e.ad u=kP l nm u:=by
 obtain⟨E,G⟩:=ke U;unfold nX kP;refine av1 fun x hx=>?_
 by_cases J:x.ad=e.ad
 .have:=xv h.mE hx E J;subst this;rw[vj J,vj G]
 .rw[mu J,mu fun ao=>J (by rw[xv h.ji hx E (ao.trans G.symm)])]
def HX {l:aH7} {nm:aG9} (U:c9 l nm=none) (u:bf->bf):kP l nm u=l:=by unfold kP;refine(av1 fun x hx=>?_).trans (List.map_id' l);rw[mu fun e=>Ep U (by rw[<-e];exact au0 hx)]
def eh.nil:eh []:=⟨List.Pairwise.nil,List.Pairwise.nil,List.Pairwise.nil,(fun e U=>by cases U),at2 _⟩
def eh.Vr {l:aH7} (h:eh l) (u:bf->bf) (nm:aG9) (E: ∀e,(u e).nm=e.nm/\(u e).ad=e.ad/\(u e).dG=e.dG) (G: ∀e,(0<=e.s/\e.s<=4096)/\(1<=e.g/\e.g<=64)/\fg e.es->(0<=(u e).s/\(u e).s<=4096)/\(1<=(u e).g/\(u e).g<=64)/\fg (u e).es):eh (kP l nm u):=by
 cases U:c9 l nm with
 |none=>rw[HX U];exact h
 |some e=>
  rw[<-Nx h U];exact h.dp E fun x hx _=>G x ⟨(h.ok x hx).1,(h.ok x hx).2.1,(h.ok x hx).2.2.1⟩
def zg (l:aH7) (nm:aG9):Int:=if(c9 l nm).isSome=true then 0 else 112
def HY {l:aH7} {nm:aG9} {e:bf} (U:c9 l nm=some e):zg l nm=0:=by unfold zg;rw[U];rfl
def HZ {l:aH7} {nm:aG9} (U:c9 l nm=none):zg l nm=112:=by unfold zg;rw[U];rfl
def ald {l:aH7} (h:eh l) (nm:aG9) (on:Bool):Fn prog 126 [ap 1001,bW nm,fX on] (eJ l) [] (ab (zg l nm)) (eJ (kP l nm fun x=>{x with on:=on})):=by
 cases U:c9 l nm with
 |none=>
  have J:=ak9 on U;rw[HZ U,HX U];refine aY [] func126 ?_;exact⟨rfl,ar (Fn.aX [(3001,5)] J) bh⟩
 |some e=>
  have J:=ak8 on U (akM h (ke U).1 on);rw[HY U,<-Nx h U];refine aY [] func126 ?_;exact⟨rfl,ar (Fn.aX [(3001,5)] J) bh⟩
def ale {l:aH7} (h:eh l) (nm:aG9):Fn prog 123 [ap 1001,bW nm] (eJ l) [] (ab (zg l nm)) (eJ (kP l nm kR)):=by
 cases U:c9 l nm with
 |none=>
  have J:=ala U;rw[HZ U,HX U];refine aY [] func123 ?_;exact ar J bh
 |some e=>
  have J:=ak' U (akN h (ke U).1);rw[HY U,<-Nx h U];refine aY [] func123 ?_;exact ar J bh
def lh:List bf->aG9->List bf
 | [],_=>[]
 |d::L,nm=>if d.nm=nm then L else d::lh L nm
def BH (L:aH7) (nm:aG9):(lh L nm).Sublist L:=by
 induction L with
 |nil=>exact .slnil
 |cons e L bn=>
  unfold lh
  split
  .exact List.sublist_cons_self ..
  .exact bn.cons_cons _
def Vs {nm:aG9}: ∀{L:aH7},c9 L nm=none->lh L nm=L
 | [],_=>rfl
 |d::L,h=>by
  rw[xu] at h;unfold lh
  by_cases e:d.nm=nm
  .rw[vj e] at h;cases h
  .rw[mu e] at h;rw[mu e,Vs h]
def Vt (nm:aG9): ∀L:List bf,g0 (aI:=.str) (aK:=.aM) (d7 L) nm=d7 (lh L nm)
 | []=>rfl
 |d::L=>by
  have bn:=Vt nm L;show g0 (aI:=.str) (aK:=.aM) (kb d::d7 L) nm=_;rw[show g0 (aI:=.str) (aK:=.aM) (kb d::d7 L) nm=match fT .str (nm:aa .str) (kb d).1 with |true=>d7 L |false=>kb d::g0 (aI:=.str) (aK:=.aM) (d7 L) nm from rfl];unfold lh
  by_cases e:d.nm=nm
  .rw[show fT .str (nm:aa .str) (kb d).1=true from(qL _ _).2 e.symm,vj e]
  .rw[show fT .str (nm:aa .str) (kb d).1=false from rP (aI:=.str) qL (fun h=>e h.symm),mu e];simp only;rw[bn];rfl
def Ny {f:bf->Nat×bg}: ∀{L:aH7},(L.map fun d=>(f d).1).Nodup-> ∀{nm:aG9} {bS:bf},c9 L nm=some bS->kO (L.map f) (f bS).1=(lh L nm).map f
 | [],_,nm,bS,h=>by cases h
 |d::L,hn,nm,bS,h=>by
  rw[au1] at hn;obtain⟨c0,d5⟩:=av5.1 hn;rw[xu] at h;rw[au1];unfold kO lh
  by_cases e:d.nm=nm
  .rw[vj e] at h;injection h with h
   subst h;rw[vj rfl,vj e]
  .rw[mu e] at h;have a8: ¬(f d).1=(f bS).1:=fun ao=>c0 (by rw[ao];exact au0 (f:=fun d=>(f d).1) (ke h).1)
   rw[mu a8,mu e,au1,Ny d5 h]
def eh.nQ {l:aH7} (h:eh l) (nm:aG9):eh (lh l nm):=
 ⟨h.ji.sublist ((BH l nm).map _),h.mE.sublist ((BH l nm).map _),h.vU.sublist ((BH l nm).map _),fun e U=>h.ok e ((BH l nm).subset U),az4 (BH l nm).length_le h.len⟩
def alf {l:aH7} (h:eh l) {nm:aG9} {e:bf} (U:c9 l nm=some e):Fn prog 175 [dy e.ad,ap 3001,ap 3002] (eJ l++[(3001,.cells [.ptr 1001 0]),(3002,.cells [.d (.str nm)])]) [] g4 (eJ (lh l nm)++[(3001,.cells [.ptr 1001 0]),(3002,.cells [.d (.str nm)])]):=by have ce:=h.D (ke U).1;have al:=h.M (ke U).1;have py:=Vt nm l;have s8:kO (kA l) e.ad=kA (lh l nm):=Ny (f:=xr) h.mE U;have xg:kO (kc l) e.dG=kc (lh l nm):=Ny (f:=xt) h.vU U;refine aY [] func175 ?_;exact⟨eU aD4,_,_,_,(ac.Dz 1003 6001 e.ad rfl ce rfl).trans (ac.Dz 1004 6002 e.dG rfl al rfl),rfl,trivial,⟨rfl,as5 (fun e=>some (ba.map .str .aM e)) py,as5 (fun e=>some (ba.aH (.bA e))) s8,as5 (fun e=>some (ba.aH (.bA e))) xg,rfl,rfl,trivial⟩,rfl⟩
def alg {l:aH7} (h:eh l) (nm:aG9):Fn prog 125 [ap 1001,bW nm] (eJ l) [] (ab (zg l nm)) (eJ (lh l nm)):=by
 cases U:c9 l nm with
 |none=>
  have J:=ak7 U;rw[HZ U,Vs U];refine aY [] func125 ?_;exact⟨rfl,rfl,ar (Fn.aX [(3001,2),(3002,3)] J) bh⟩
 |some e=>
  have J:=ak6 U (alf h U);rw[HY U];refine aY [] func125 ?_;exact⟨rfl,rfl,ar (Fn.aX [(3001,2),(3002,3)] J) bh⟩
def alh:(prog.info? 60).map (·.size)=some 4:=by kernel_rfl
abbrev jW (nm:aG9) (on us:Bool):List bE:=[.d (.str nm),.d (.bool on),.d (.bool us),.ptr 5001 0]
def ali {l:aH7} (h:eh l) {e:bf} (U:e∈l):Fn prog 53 [dy e.ad,ap 3001] (eJ l++[(3001,.cells [.d (.str []),.d (.lit false),.d (.lit false),.bN (.pointer none)])]) [5001,5002] g4 (eJ l++[(3001,.cells (jW e.nm e.on e.us)),(5001,.cells [.d (.int .i64 e.s),.d (.int .i64 e.g),.mp 5002]),(5002,.map ai ai e.es)]):=by obtain⟨Nv,xw,xx⟩:=kL HV;obtain⟨Dh,alj,alk⟩:=kL alh;have ce:=h.D U;have al:=h.M U;have J:=akQ al;refine aY [] func53 ?_;refine bc (ju (b:=e.ad) rfl rfl) ?_;refine bc (akO (q:=1003) (l:=BC e.nm e.on e.us e.dG) rfl underlying60 rfl alj alk rfl rfl ce) ?_;refine bc (ju (b:=e.ad) rfl rfl) ?_;refine bc (fun N=>jN rfl underlying60 rfl rfl xw (by rw[xx];decide) rfl N) ?_;refine bc (lR (q:=1003) rfl underlying58 rfl rfl rfl ce rfl) ?_;exact ar J bh
def alm {l:aH7} (h:eh l) {nm:aG9} {e:bf} (U:c9 l nm=some e):Fn prog 24 [ap 1001,bW nm] (eJ l) [5001,5002] (.cn [.agg (jW e.nm e.on e.us),dJ 0]) (eJ l++[(5001,.cells [.d (.int .i64 e.s),.d (.int .i64 e.g),.mp 5002]),(5002,.map ai ai e.es)]):=by have aU:=ali h (ke U).1;rw[(ke U).2] at aU;have J:=alb e.on e.us e.s e.g e.es U aU;rw[(ke U).2];refine aY [] func24 ?_;exact⟨rfl,rfl,ar (Fn.aX [(3001,6)] J) <| eN bt rfl ⟨aD,rfl,trivial⟩⟩
def aln {l:aH7} {nm:aG9} (U:c9 l nm=none):Fn prog 24 [ap 1001,bW nm] (eJ l) [] (.cn [.agg [.d (.str []),.d (.lit false),.d (.lit false),.bN (.pointer none)],dJ 112]) (eJ l):=by have J:=alc U;refine aY [] func24 ?_;exact⟨rfl,rfl,ar (Fn.aX [(3001,6)] J) <| eN bt rfl ⟨aD,rfl,trivial⟩⟩
end
section
abbrev oQ:bB:=.bU (.int .i64) (.cc .u8)
abbrev mg:bB:=.bU .str (.bU .str (.bU (.int .i64) (.bU (.int .i64) (.cc oQ))))
abbrev jz:Type:=aa oQ
abbrev bQ:Type:=aa mg
abbrev aH9:=List bQ
abbrev fK (p:jz):Int:=p.1
abbrev kf (p:jz):aG9:=p.2
abbrev cT (b:bQ):aG9:=b.1
abbrev c2 (b:bQ):aG9:=b.2.1
abbrev c6 (b:bQ):Int:=b.2.2.1
abbrev eK (b:bQ):Int:=b.2.2.2.1
abbrev cI (b:bQ):List jz:=b.2.2.2.2
abbrev H0 (b:bQ):List bE:=[.d (.str (cT b)),.d (.str (c2 b)),.d (.int .i64 (c6 b)),.d (.int .i64 (eK b)),.d (.bG oQ (cI b))]
abbrev zh (b:bQ):aS:=.c (.agg (H0 b))
abbrev li (L:aH9):aA:=[(1001,.cells [.own 1002]),(1002,.row 78 mg L)]
def alo (b:bQ) (nm:aG9):Fn prog 90 [zh b,ap 1001] [(1001,.cells [.d (.str nm)])] [] (fX (decide (cT b=nm))) [(1001,.cells [.d (.str nm)])]:=by refine aY [] func90 ?_;exact⟨rfl,bh⟩
def lD {α:Type} (p:α->Bool) (L:List α):Int:=match L.findIdx? p with
 |some k=>(k:Nat)
 |none=> -1
def Vu {α:Type} {p:α->Bool} {L:List α} {k:Nat} (E:k < L.length) (ae: ∀(i:Nat) b,i < k->L[i]? =some b->p b=false) (h:p L[k]=true):lD p L=(k:Nat):=by unfold lD;rw[show L.findIdx? p=some k from List.findIdx?_eq_some_iff_getElem.2 ⟨E,h,fun j V=>by simpa using ae j _ V (as0 aD1)⟩]
def alp {α:Type} {p:α->Bool} {L:List α} (ae: ∀(i:Nat) b,i < L.length->L[i]? =some b->p b=false):lD p L= -1:=by
 unfold lD
 rw[show L.findIdx? p=none from List.findIdx?_eq_none_iff.2 fun x hx=>by
  obtain⟨i,aE,rfl⟩:=ay5 hx;exact ae i _ aE (as0 aE)]
def vV {α:Type} (p:α->Bool) (L:List α):(lD p L= -1/\ ∀(i:Nat) b,L[i]? =some b->p b=false)\/ ∃(k:Nat) (x:α),lD p L=k/\L[k]? =some x/\p x=true/\ ∀(i:Nat) b,i < k->L[i]? =some b->p b=false:=by
 unfold lD
 cases h:L.findIdx? p with
 |none=>
  refine .inl ⟨rfl,fun i b O=>?_⟩;have:=List.findIdx?_eq_none_iff.1 h b (ax6 O);simpa using this
 |some k=>
  obtain⟨E,G,ah⟩:=List.findIdx?_eq_some_iff_getElem.1 h;refine .inr ⟨k,L[k],rfl,as0 E,G,fun i b aE O=>?_⟩;have:=ah i aE;rw[as0 aD1] at O;injection O with O
  rw[<-O];simpa using this
def alq {α:Type} {p:α->Prop} {L:List α} {k:Nat} (E:k < L.length) (ae: ∀(i:Nat) b,i < k->L[i]? =some b->p b) (h:p L[k]): ∀(i:Nat) b,i < k+1->L[i]? =some b->p b:=fun i b aE O=>by
 rcases aA6 i k with G |G
 .exact ae i b G O
 .have:i=k:=aD9
  subst this;rw[as0 E] at O;injection O with O
  rw[<-O];exact h
def qf {α:Type} {L:List α} {k:Nat} {n:Int} (hn:n=(k:Nat)) (h:k < L.length):fd L n.toNat=some L[k]:=by subst hn;exact as0 h
def Vv (g:Nat) (p:bQ->Bool) (nm:aG9) (L:aH9) (cO:L.length<=4294967296) (au: ∀b,Fn prog g [zh b,ap 1001] [(1001,.cells [.d (.str nm)])] [] (fX (p b)) [(1001,.cells [.d (.str nm)])]):
  Fn prog 89 [eC 1002,k0 (.c3 g [.p 1001 0])] [(1001,.cells [.d (.str nm)]),(1002,.row 78 mg L)] [] (ab (lD p L)) [(1001,.cells [.d (.str nm)]),(1002,.row 78 mg L)]:=by
 refine aY [] func89 ?_;refine d1 [] (X:=Nat) (fun k=>[(0,eC 1002),(1,k0 (.c3 g [.p 1001 0])),(7,ab (L.length:Nat)),(8,ab (k:Nat))]) (fun _=>[(1001,.cells [.d (.str nm)]),(1002,.row 78 mg L)]) (fun k=>k<=L.length/\ ∀(i:Nat) b,i < k->L[i]? =some b->p b=false) (fun k=>L.length - k) 0 ⟨at2 _,fun i b h=>as3 h (aB8 _)⟩ ?_ ?_
 .exact ac.sub aD aD
 .rintro k ⟨Z,ae⟩;refine⟨fun h=>?_,fun h=>?_⟩
  .have E:k < L.length:=aE0
   refine⟨⟨aD1,aD1⟩,L[k],qf rfl E,ar (au L[k]) ⟨fun h=>?_,fun h=>?_⟩⟩
   .exact eN bt rfl ((Vu E ae h).symm)
   .exact⟨aD1,k+1,⟨aD1,alq E ae h⟩,aD1,ac.sub aD aD⟩
  .have E: ¬k < L.length:=aE0
   exact eN bt rfl ((alp fun i b aE O=>ae i b aD1 O).symm)
def dU (L:aH9) (nm:aG9):Int:=lD (fun b=>decide (cT b=nm)) L
def H1 (nm:aG9) (L:aH9) (cO:L.length<=4294967296):Fn prog 46 [ap 1001,bW nm] (li L) [] (ab (dU L nm)) (li L):=by refine aY [] func46 ?_;exact⟨rfl,ar (Fn.aX [(1001,3)] (Vv 90 _ nm L cO fun b=>alo b nm)) bh⟩
end
section
def fc (z:Int):Int:=16*((2 ^z.toNat:Nat):Int)
def Vw {bi:Int} (aw:0<=bi) (E:bi<=3):1<=((2 ^bi.toNat:Nat):Int)/\((2 ^bi.toNat:Nat):Int)<=8:=by
 have:bi=0\/bi=1\/bi=2\/bi=3:=aD9
 rcases this with rfl |rfl |rfl |rfl <;>decide
def Vx {bi:Int} (aw:0<=bi) (E:bi<=3):16<=fc bi/\fc bi<=128:=by have:=Vw aw E;unfold fc;omega
def tk (size n:Int):Int->List jz->Bool
 |_,[]=>true
 |oR,p::r=> !(decide (fK p<=oR)||decide (size<=fK p)|| !decide (((kf p).length:Int)=n))&&tk size n (fK p) r
def hJ (b:bQ):Bool:=
 hg (cT b)&&decide (0<=c6 b)&&decide (c6 b<=3)&&decide (0<=eK b)&&decide (eK b<=256)&&tk (eK b) (fc (c6 b)) (-1) (cI b)&&
  (!decide (c2 b=[])||decide (((cI b).length:Int)=eK b))
def Nz (b:bQ) (aw:0<=c6 b) (E:c6 b<=3):Fn prog 47 [zh b] [] [] (ab (fc (c6 b))) []:=by have ae:=Vw aw E;refine aY [] func47 ?_;exact⟨rfl,⟨aD1,aD1,aD1⟩,⟨aD1,aD1⟩,bh⟩
def alr (size n oR:Int) (l:List jz) (k:Nat) (Z:k < l.length):tk size n oR (l.drop k)=(!(decide (fK l[k]<=oR)||decide (size<=fK l[k])|| !decide (((kf l[k]).length:Int)=n))&&tk size n (fK l[k]) (l.drop (k+1))):=by rw[ay6 Z];rfl
def als (b:bQ) (hn:(cT b).length<=4294967296) (ak:(cI b).length<=4294967296) (ae: ∀p,p∈cI b->(kf p).length<=4294967296):Fn prog 170 [zh b] [] [] (fX (hJ b)) []:=by
 refine aY [] func170 ?_;refine⟨rfl,ar (qV _ hn) ⟨fun h=>?_,fun E=>?_⟩⟩
 .exact eN bt rfl (show false=hJ b by simp_all [hJ])
 refine⟨fun h=>?_,fun G=>?_⟩
 .exact eN bt rfl (show false=hJ b by simp at h;simp[hJ];omega)
 refine⟨fun h=>?_,fun ah=>?_⟩
 .exact eN bt rfl (show false=hJ b by simp at h;simp[hJ];omega)
 refine⟨fun h=>?_,fun aW=>?_⟩
 .exact eN bt rfl (show false=hJ b by simp at h;simp[hJ];omega)
 refine⟨fun h=>?_,fun bM=>?_⟩
 .exact eN bt rfl (show false=hJ b by simp at h;simp[hJ];omega)
 simp only[decide_eq_false_iff_not,Bool.not_eq_false'] at E G ah aW bM
 have ax:hJ b=(tk (eK b) (fc (c6 b)) (-1) (cI b)&&(!decide (c2 b=[])||decide (((cI b).length:Int)=eK b))):=by
  unfold hJ;rw[E,at4 (show 0<=c6 b by omega),at4 (show c6 b<=3 by omega),at4 (show 0<=eK b by omega),at4 (show eK b<=256 by omega)];simp
 refine d1 [] (X:=Nat×Int) (fun x=>[(1,ap 1),(31,bP oQ (cI b)),(3,ab x.2),(32,ab ((cI b).length:Nat)),(33,ab (x.1:Nat))]) (fun _=>[(1,.cells (H0 b))]) (fun x=>x.1<=(cI b).length/\tk (eK b) (fc (c6 b)) (-1) (cI b)=tk (eK b) (fc (c6 b)) x.2 ((cI b).drop x.1)) (fun x=>(cI b).length - x.1) (0,-1) ⟨at2 _,rfl⟩ ?_ ?_
 .exact ac.sub aD aD
 rintro⟨k,oR⟩ ⟨Z,aE⟩;refine⟨fun h=>?_,fun h=>?_⟩
 .have cu:k < (cI b).length:=aE0
  rw[alr _ _ _ _ _ cu] at aE;have hz:=ae _ (av2 cu);refine⟨aD1,(cI b)[k],qf rfl cu,rfl,fun h=>?_,fun fU=>?_⟩
  .refine⟨rfl,?_⟩;exact eN bt rfl (show false=hJ b by rw[ax,aE,h];rfl)
  refine⟨fun h=>?_,fun iw=>?_⟩
  .refine⟨rfl,?_⟩;exact eN bt rfl (show false=hJ b by rw[ax,aE,fU,h];rfl)
  refine⟨_,_,_,_,Nz b aD1 aD1,trivial,rfl,rfl,fun h=>?_,fun iH=>?_⟩
  .exact eN bt rfl (show false=hJ b by rw[ax,aE,fU,iw,show(!decide (((kf (cI b)[k]).length:Int)=fc (c6 b)))=true from h];rfl)
  .refine⟨aD1,(k+1,fK (cI b)[k]),⟨by simp only;omega,?_⟩,by simp only;omega,?_⟩
   .rw[aE,fU,iw,show(!decide (((kf (cI b)[k]).length:Int)=fc (c6 b)))=false from iH];rfl
   .exact ac.sub aD aD
 .have cu: ¬k < (cI b).length:=aE0
  rw[List.drop_eq_nil_of_le aD1] at aE;refine⟨fun h=>?_,fun h=>?_⟩
  .exact eN bt rfl (show true=hJ b by rw[ax,aE,show(!decide (c2 b=[]))=true from h];rfl)
  .exact eN bt rfl (show decide (((cI b).length:Int)=eK b)=hJ b by rw[ax,aE,show(!decide (c2 b=[]))=false from h];rfl)
end
section
def NA:Fn prog 30 [] [] [1001,1002] (ap 1001) (li []):=by refine aY [] func30 ?_;exact⟨rfl,_,_,_,ac.trans (ac.wL 2 0 1002 78 mg rfl rfl rfl) (ac.aX 2 1001 rfl),rfl,rfl,aD,rfl⟩
def mh (L:aH9):aG9:=match L.getLast? with
 |some b=>cT b
 |none=>[]
def alt (L:aH9) (cO:L.length<=4294967296):Fn prog 20 [ap 1001] (li L) [] (bW (mh L)) (li L):=by
 refine aY [] func20 ?_;refine⟨fun h=>?_,fun h=>?_⟩
 .have aw:L.length=0:=by simp only[av6] at h;omega
  refine⟨_,_,_,bt,rfl,?_,aD,rfl⟩;rw[aw8 aw];rfl
 .have aw:0 < L.length:=by simp only[decide_eq_false_iff_not] at h;omega
  have bv:L.length - 1 < L.length:=aD9
  refine⟨aD1,⟨aD1,aD1⟩,L[L.length - 1],qf (k:=L.length - 1) aD1 bv,rfl,_,_,_,bt,rfl,?_,aD,rfl⟩;show cT L[L.length - 1]=mh L;unfold mh;rw[List.getLast?_eq_getElem?,as0 bv]
def gF (L:aH9) (b:bQ):Int:=
 if(!hJ b||decide (0<=dU L (cT b))||decide (64<=(L.length:Int)))=true then 1
 else if(!decide (c2 b=[])&&decide (dU L (c2 b) < 0))=true then 181
 else if(!decide (c2 b=[])&& !decide ((match fd L (dU L (c2 b)).toNat with |some x=>c6 x |none=>c6 b)=c6 b))=true then 1 else 0
def e3 (L:aH9) (b:bQ):List bQ:=if gF L b=0 then L++[b] else L
def Vy {L:aH9} {b:bQ} (h:(!hJ b)=true):gF L b=1:=by unfold gF;rw[vj (by simp[h])]
def Vz {L:aH9} {b:bQ} (h:decide (0<=dU L (cT b))=true):gF L b=1:=by unfold gF;rw[vj (by simp[h])]
def VA {L:aH9} {b:bQ} (h:decide (64<=(L.length:Int))=true):gF L b=1:=by unfold gF;rw[vj (by simp[h])]
def Es {b:bQ} (h:hJ b=true):0<=c6 b/\c6 b<=3/\0<=eK b/\eK b<=256:=by simp only[hJ,as1,av6] at h;omega
abbrev VB (L:aH9):aA:=[(1001,.cells [.own 1003]),(1003,.row 78 mg L)]
def vW {α:Type} {l:List α} {k:Nat} (h:k < l.length):l.take k++[l[k]]=l.take (k+1):=by rw[aB0,as0 h];rfl
abbrev NB (b:bQ) (r k:Nat):aZ:=[(0,ap 1001),(3,ap 3),(6,eC r),(58,bP oQ (cI b)),(59,ab ((cI b).length:Nat)),(60,ab (k:Nat))]
abbrev NC (L:aH9) (b:bQ) (r:Nat) (l:List jz):aA:=[(r,.row 96 oQ l),(3,.cells (H0 b)),(1001,.cells [.own 1002]),(1002,.row 78 mg L)]
def ND (L:aH9) (b:bQ) (cO:L.length<=1000000) (hn:(cT b).length<=4294967296) (ak:(cI b).length<=1000000) (ae: ∀p,p∈cI b->(kf p).length<=4294967296):
  Fn prog 122 [ap 1001,zh b] (li L) [1003] (ab (gF L b)) (VB (e3 L b)):=by
 have gg: ∀e,gF L b=e->e≠0->e3 L b=L:=fun e E G=>by unfold e3;rw[mu aD1]
 refine aY [14] func122 ?_;refine⟨rfl,ar (H1 (c2 b) L aD1) <| ar (als b hn aD1 ae) ⟨fun h=>?_,fun E=>?_⟩⟩
 .rw[gg 1 (Vy h) aD1,Vy h];exact⟨_,_,_,ac.aX 1002 1003 rfl,rfl,rfl,aD,rfl⟩
 refine ar (H1 (cT b) L aD1) ⟨fun h=>?_,fun G=>?_⟩
 .rw[gg 1 (Vz h) aD1,Vz h];exact⟨_,_,_,ac.aX 1002 1003 rfl,rfl,rfl,aD,rfl⟩
 refine⟨fun h=>?_,fun ah=>?_⟩
 .rw[gg 1 (VA h) aD1,VA h];exact⟨_,_,_,ac.aX 1002 1003 rfl,rfl,rfl,aD,rfl⟩
 have a2:gF L b=if(!decide (c2 b=[])&&decide (dU L (c2 b) < 0))=true then 181 else if(!decide (c2 b=[])&& !decide ((match fd L (dU L (c2 b)).toNat with |some x=>c6 x |none=>c6 b)=c6 b))=true then 1 else 0:=by
  unfold gF;rw[mu (by rw[show(!hJ b)=false from E,show decide (0<=dU L (cT b))=false from G,show decide (64<=(L.length:Int))=false from ah];simp)]
 have ax:hJ b=true:=aG2
 obtain⟨r1,r2,gh,kr⟩:=Es ax;have q4:gF L b=0->e3 L b=L++[b]:=fun h=>by unfold e3;rw[vj h]
 refine⟨fun aW=>?a,fun aW=>?b⟩
 case' a=>
  refine⟨fun h=>?_,fun bM=>?_⟩
  .rw[show(!decide (c2 b=[]))=true from aW,show decide (dU L (c2 b) < 0)=true from h] at a2;have a2:gF L b=181:=a2;rw[gg 181 a2 aD1,a2];exact⟨_,_,_,ac.aX 1002 1003 rfl,rfl,rfl,aD,rfl⟩
  have fU: ¬dU L (c2 b) < 0:=by simpa using bM
  have Z: ∃k:Nat,∃Z:k < L.length,dU L (c2 b)=(k:Nat):=by
   rcases vV (fun x=>decide (cT x=c2 b)) L with⟨h,_⟩ |⟨k,x,h,hx,_⟩
   .exact as3 (show dU L (c2 b) < 0 by unfold dU;omega) fU
   .exact⟨k,(at0.1 hx).1,h⟩
  obtain⟨k,Z,zi⟩:=Z;rw[show(!decide (c2 b=[]))=true from aW,show decide (dU L (c2 b) < 0)=false from bM,qf zi Z] at a2;have a2:gF L b=if(!decide (c6 L[k]=c6 b))=true then 1 else 0:=a2
  refine⟨fun iw=>⟨⟨aD1,aD1⟩,L[k],qf zi Z,rfl,fun h=>?_,fun h=>?_⟩,fun iw=>as3 aW (by rw[show(!decide (c2 b=[]))=false from iw];simp)⟩
  .rw[show(!decide (c6 L[k]=c6 b))=true from h] at a2;have a2:gF L b=1:=a2;rw[gg 1 a2 aD1,a2];exact⟨_,_,_,ac.aX 1002 1003 rfl,rfl,rfl,aD,rfl⟩
  rw[show(!decide (c6 L[k]=c6 b))=false from h] at a2;have dX:gF L b=0:=a2;clear a2 h
 case' b=>
  rw[show(!decide (c2 b=[]))=false from aW] at a2;have dX:gF L b=0:=a2;clear a2;refine⟨fun iw=>as3 aW (by rw[show(!decide (c2 b=[]))=true from iw];simp),fun iw=>⟨rfl,?_⟩⟩
 all_goals
  rw[q4 dX,dX];refine d1 [14] (X:=Nat) (NB b 2002) (fun k=>NC L b 2002 ((cI b).take k)) (fun k=>k<=(cI b).length) (fun k=>(cI b).length - k) 0 (at2 _) ?_ ?_
  .exact ac.trans (ac.nil 6 2002 96 oQ rfl rfl) (ac.sub aD aD)
  intro j V;refine⟨fun h=>?_,fun h=>?_⟩
  .have eR:j < (cI b).length:=aE0
   have hz:=ae _ (av2 eR);refine⟨aD1,(cI b)[j],qf rfl eR,rfl,ar (Mc _ hz) ⟨?_,rfl,rfl,?_⟩⟩
   .show((cI b).take j).length+1<=4294967296;rw[at3];omega
   .exact⟨aD1,j+1,eR,aD1,ac.trans (ac.sub (K':=NB b 72 (j+1)) (B':=NC L b 72 ((cI b).take (j+1))) aD ⟨as5 (fun l=>some (ba.row _ oQ l)) (vW eR),rfl,rfl,rfl,trivial⟩) (ac.aX 72 2002 rfl)⟩
  .have eR:j=(cI b).length:=by
     have: ¬j < (cI b).length:=aE0
     omega
   subst eR;refine bz [] (ac.trans (ac.sub (K':=NB b 2002 (cI b).length) (B':=NC L b 2002 (cI b)) aD ⟨as5 (fun l=>some (ba.row _ oQ l)) au3,rfl,rfl,rfl,trivial⟩) (ac.eb 2002 rfl)) ⟨?_,rfl,rfl,?_⟩
   .show L.length+1<=4294967296;omega
   .exact⟨_,_,_,ac.aX 83 1003 rfl,rfl,rfl,aD,rfl⟩
end
section
def NE (size n:Int): ∀(l:List jz) (oR:Int),tk size n oR l=true-> ∀p,p∈l->oR < fK p/\fK p < size/\((kf p).length:Int)=n
 | [],_,_,p,ae=>by cases ae
 |q::l,oR,h,p,ae=>by
  simp only[tk,as1,au9,ax0,decide_eq_false_iff_not,Bool.not_eq_false',av6] at h;obtain⟨⟨⟨E,G⟩,ah⟩,aW⟩:=h;rcases as8.1 ae with rfl |ae
  .exact⟨aD1,aD1,ah⟩
  .have:=NE size n l (fK q) aW p ae;exact⟨aD1,this.2.1,this.2.2⟩
def mM (oS:Int) (acc:aG9) (p:jz):aG9:=laid acc (fK p*oS).toNat (acc.length - (fK p*oS).toNat) (kf p)
def sh (b:bQ) (below:aG9):aG9:=
 let aB:=List.replicate (eK b*fc (c6 b)).toNat (0:aJ8)
 (cI b).foldl (mM (fc (c6 b))) (if decide (c2 b=[])=true then aB else laid aB 0 aB.length below)
def lj (L:aH9) (i:Int):Option bQ:=if 0<=i then fd L i.toNat else none
def nw (L:aH9) (nm:aG9) (bU:aG9->aG9):aG9:=match lj L (dU L nm) with
 |none=>[]
 |some b=>sh b (bU (c2 b))
def oT (L:aH9) (nm:aG9):Int:=if decide (dU L nm < 0)=true then 181 else 0
def H2 (out:aG9) (e:Int):aS:=.cn [.one (.d (.bG .u8 out)),.one (.d (.int .i64 e))]
def VC {size oS:Int} {b:aG9} {p:jz} (aw:0<=oS) (E:0<=fK p) (G:fK p < size) (O:b.length=(size*oS).toNat):(fK p*oS).toNat<=b.length/\(mM oS b p).length=b.length:=by
 have:fK p*oS<=size*oS:=Int.mul_le_mul_of_nonneg_right aD1 aw;have ah:(fK p*oS).toNat<=b.length:=aD9
 exact⟨ah,Ka _ _ aD1⟩
def VD {size oS:Int} (aw:0<=oS): ∀(l:List jz) (acc:aG9),(∀p,p∈l->0<=fK p/\fK p < size)->acc.length=(size*oS).toNat->(l.foldl (mM oS) acc).length=(size*oS).toNat
 | [],acc,_,ha=>ha
 |p::l,acc,ae,ha=>VD aw l (mM oS acc p) (fun q aQ=>ae q (as6 _ aQ)) (by
  have:=ae p at6;rw[(VC aw this.1 this.2 ha).2,ha])
def alu {α l7:Type} (f:l7->α->l7) (x:l7) {l:List α} {k:Nat} (h:k < l.length):(l.take (k+1)).foldl f x=f ((l.take k).foldl f x) l[k]:=by rw[<-vW h,aC2];rfl
abbrev alv (b:bQ) (k:Nat):aZ:=[(7,ap 7),(8,eC 30),(45,bP oQ (cI b)),(46,ab ((cI b).length:Nat)),(47,ab (k:Nat))]
abbrev alw (L:aH9) (b:bQ) (x:aG9):aA:=[(30,.row 5 .u8 x),(7,.cells (H0 b)),(1001,.cells [.own 1002]),(1002,.row 78 mg L)]
def VE (L:aH9) (nm:aG9) (cO:L.length<=1000000) (ax: ∀b,b∈L->hJ b=true/\(cI b).length<=1000000) (bU:aG9->aG9)
  (bn: ∀b,lj L (dU L nm)=some b->(!decide (c2 b=[]))=true->Fn prog 17 [ap 1001,bW (c2 b)] (li L) [] (H2 (bU (c2 b)) (oT L (c2 b))) (li L)):
  Fn prog 17 [ap 1001,bW nm] (li L) [] (H2 (nw L nm bU) (oT L nm)) (li L):=by
 refine aY [] func17 ?_;refine ar (H1 nm L aD1) ⟨fun h=>?_,fun h=>?_⟩
 .have E: ¬0<=dU L nm:=by simp only[av6] at h;omega
  exact eN bt rfl ⟨(show nw L nm bU=[] by unfold nw lj;rw[mu E]),(show(181:Int)=oT L nm by unfold oT;rw[vj h]),trivial⟩
 have hf: ¬dU L nm < 0:=aE0
 have Z: ∃k:Nat,∃Z:k < L.length,dU L nm=(k:Nat):=by
  rcases vV (fun x=>decide (cT x=nm)) L with⟨h,_⟩ |⟨k,x,h,hx,_⟩
  .exact as3 (show dU L nm < 0 by unfold dU;omega) hf
  .exact⟨k,(at0.1 hx).1,h⟩
 obtain⟨k,Z,zi⟩:=Z;have aU:lj L (dU L nm)=some L[k]:=by unfold lj;rw[vj aD1];exact qf zi Z
 have a2:oT L nm=0:=by unfold oT;rw[mu (by rw[h];simp)]
 have av:nw L nm bU=sh L[k] (bU (c2 L[k])):=by unfold nw;rw[aU]
 have bn:=bn _ aU;rw[a2,av];refine⟨⟨aD1,aD1⟩,L[k],qf zi Z,?_⟩;obtain⟨zd,hz⟩:=ax _ (av2 Z);generalize jo:L[k]=b at*;obtain⟨r1,r2,gh,kr⟩:=Es zd;obtain⟨cD,cv⟩:=Vx r1 r2
 have TV:0<=eK b*fc (c6 b)/\eK b*fc (c6 b)<=32768:=⟨Int.mul_nonneg aD1 aD1,by
  have:eK b*fc (c6 b)<=256*128:=Int.mul_le_mul kr cv aD1 aD1;omega⟩
 have aN:(List.replicate (eK b*fc (c6 b)).toNat (0:aJ8)).length=(eK b*fc (c6 b)).toNat:=at5
 have VF: ∀p,p∈cI b->0<=fK p/\fK p < eK b:=fun p ae=>by
  have zd:=zd;simp only[hJ,as1] at zd;have:=NE _ _ _ _ zd.1.2 p ae;omega
 refine⟨rfl,ar (Nz b r1 r2) ?_⟩;have alx: -9223372036854775808<=eK b*fc (c6 b)/\eK b*fc (c6 b)<=9223372036854775807:=aD9
 have aly:eK b*fc (c6 b)<=4294967296:=aD9
 refine⟨alx,⟨rfl,TV.1,aly⟩,rfl,rfl,fun aW=>?a,fun aW=>?b⟩
 case' a=>
  refine ar (bn aW) ⟨aD1,?_⟩
  have O: ∃y,sh b (bU (c2 b))=(cI b).foldl (mM (fc (c6 b))) y/\y=laid (List.replicate (eK b*fc (c6 b)).toNat (0:aJ8)) 0 (List.replicate (eK b*fc (c6 b)).toNat (0:aJ8)).length (bU (c2 b))/\y.length=(eK b*fc (c6 b)).toNat:=⟨_,by
   unfold sh;simp only;rw[show decide (c2 b=[])=false by simpa using aW];rfl,rfl,(Ka _ _ aD1).trans aN⟩
  obtain⟨y,H,aC,St⟩:=O
 case' b=>
  have O: ∃y,sh b (bU (c2 b))=(cI b).foldl (mM (fc (c6 b))) y/\y=(List.replicate (eK b*fc (c6 b)).toNat (0:aJ8))/\y.length=(eK b*fc (c6 b)).toNat:=⟨_,by
   unfold sh;simp only;rw[show decide (c2 b=[])=true by simpa using aW];rfl,rfl,aN⟩
  obtain⟨y,H,aC,St⟩:=O
 all_goals
  rw[H];refine d1 [] (X:=Nat) (alv b) (fun k=>alw L b (((cI b).take k).foldl (mM (fc (c6 b))) y)) (fun k=>k<=(cI b).length) (fun k=>(cI b).length - k) 0 (at2 _) ?_ ?_
  .exact ac.sub aD ⟨as5 (fun l=>some (ba.row _ .u8 l)) aC.symm,rfl,rfl,rfl,trivial⟩
  intro j V;refine⟨fun h=>?_,fun h=>?_⟩
  .have eR:j < (cI b).length:=aE0
   have BI:=VF _ (av2 eR);have LX:(((cI b).take j).foldl (mM (fc (c6 b))) y).length=(eK b*fc (c6 b)).toNat:=VD aD1 _ _ (fun p ae=>VF p (List.mem_of_mem_take ae)) aD1;obtain⟨cB,cH⟩:=VC aD1 BI.1 BI.2 LX;have alz:0<=fK (cI b)[j]*fc (c6 b):=Int.mul_nonneg BI.1 aD1;have alA: -9223372036854775808<=fK (cI b)[j]*fc (c6 b)/\fK (cI b)[j]*fc (c6 b)<=9223372036854775807:=aD9
   refine⟨aD1,(cI b)[j],qf rfl eR,rfl,ar (Nz b r1 r2) ⟨alA,⟨alz,?_⟩,?_⟩⟩
   .show fK (cI b)[j]*fc (c6 b)<=((((cI b).take j).foldl (mM (fc (c6 b))) y).length:Int);omega
   refine⟨?_,rfl,?_⟩
   .show(fK (cI b)[j]*fc (c6 b)).toNat+((((cI b).take j).foldl (mM (fc (c6 b))) y).length - (fK (cI b)[j]*fc (c6 b)).toNat)<=(((cI b).take j).foldl (mM (fc (c6 b))) y).length;omega
   .exact⟨aD1,j+1,eR,aD1,ac.sub aD ⟨as5 (fun l=>some (ba.row _ .u8 l)) (alu (mM (fc (c6 b))) y eR).symm,rfl,rfl,rfl,trivial⟩⟩
  .have eR:j=(cI b).length:=by
     have: ¬j < (cI b).length:=aE0
     omega
   subst eR;exact⟨_,_,_,ac.trans (ac.eb 30 rfl) (bt),rfl,⟨(show((cI b).take (cI b).length).foldl (mM (fc (c6 b))) y=(cI b).foldl (mM (fc (c6 b))) y by rw[au3]),rfl,trivial⟩,aD,rfl⟩
def qg (L:aH9):Nat->aG9->aG9
 |0,_=>[]
 |n+1,nm=>nw L nm (qg L n)
structure lV (L:aH9):Prop where
 len:L.length<=64
 right: ∀b,b∈L->hJ b=true
 BJ: ∀(k:Nat) b,L[k]? =some b->decide (c2 b=[])=false->0<=dU L (c2 b)/\dU L (c2 b) < k
def VG {b:bQ} (h:hJ b=true):(cI b).length<=256:=by
 have G:=Es h;simp only[hJ,as1] at h
 have key: ∀(l:List jz) (oR:Int),tk (eK b) (fc (c6 b)) oR l=true->(l.length:Int)<=max 0 (eK b - 1 - oR):=by
  intro l
  induction l with
  |nil=>intro oR _;simp only[List.length_nil];omega
  |cons p l bn=>
   intro oR h;simp only[tk,as1,au9,ax0,decide_eq_false_iff_not] at h;have:=bn _ h.2;simp only[aw4];omega
 have:=key _ _ h.1.2;omega
def H3 (L:aH9) (nm:aG9):dU L nm < L.length:=by
 rcases vV (fun x=>decide (cT x=nm)) L with⟨h,_⟩ |⟨k,x,h,hx,_⟩
 .unfold dU;omega
 .have:=(at0.1 hx).1;unfold dU;omega
def NF {L:aH9} {i:Int} {b:bQ} (h:lj L i=some b): ∃k:Nat,i=k/\L[k]? =some b:=by
 unfold lj at h
 split at h
 .exact⟨i.toNat,aD1,h⟩
 .cases h
def alB {L:aH9} (a1:lV L): ∀(n:Nat) (nm:aG9),dU L nm < n->Fn prog 17 [ap 1001,bW nm] (li L) [] (H2 (qg L n nm) (oT L nm)) (li L):=by
 have cO:L.length<=1000000:=by have:=a1.len;omega
 have ax: ∀b,b∈L->hJ b=true/\(cI b).length<=1000000:=fun b O=>⟨a1.right b O,by have:=VG (a1.right b O);omega⟩
 intro n
 induction n with
 |zero=>
  intro nm h;have aw:lj L (dU L nm)=none:=by unfold lj;rw[mu aD1]
  have:=VE L nm cO ax (fun _=>[]) (fun b O=>by rw[aw] at O;cases O);rw[show nw L nm (fun _=>[])=[] by unfold nw;rw[aw]] at this;exact this
 |succ n bn=>
  intro nm h
  exact VE L nm cO ax (qg L n) (fun b O ae=>bn (c2 b) (by
   obtain⟨k,Z,O⟩:=NF O;have:=(a1.BJ k b O (by simpa using ae)).2;omega))
def lW (L:aH9) (nm:aG9):aG9:=qg L (L.length+1) nm
def VH {L:aH9} (a1:lV L) (nm:aG9):Fn prog 17 [ap 1001,bW nm] (li L) [] (H2 (lW L nm) (oT L nm)) (li L):=
 alB a1 _ nm (by have:=H3 L nm;omega)
end
section
abbrev VI:bB:=.bU (.int .i64) .str
abbrev VJ:bB:=.bU .str (.bU .str (.bU (.int .i64) (.bU (.int .i64) (.cc VI))))
abbrev xy:Type:=aa VI
abbrev nx:Type:=aa VJ
abbrev alC (p:xy):Int:=p.1
abbrev Et (p:xy):aG9:=p.2
abbrev alD (b:nx):aG9:=b.1
abbrev alE (b:nx):aG9:=b.2.1
abbrev alF (b:nx):Int:=b.2.2.1
abbrev VK (b:nx):Int:=b.2.2.2.1
abbrev alG (b:nx):List xy:=b.2.2.2.2
def tl (p:xy):jz:=(alC p,Et p)
def jP (b:nx):bQ:=(alD b,alE b,alF b,VK b,(alG b).map tl)
def alH {α l7:Type} (f:α->l7) {l:List α} {k:Nat} (h:k < l.length):(l.take k).map f++[f l[k]]=(l.take (k+1)).map f:=by rw[<-vW h,aw2];rfl
end
section
def alI (b:bQ) (nm:aG9):Fn prog 140 [zh b,ap 1001] [(1001,.cells [.d (.str nm)])] [] (fX (decide (c2 b=nm))) [(1001,.cells [.d (.str nm)])]:=by refine aY [] func140 ?_;exact⟨rfl,bh⟩
def alJ (g:Nat) (p:bQ->Bool) (nm:aG9) (L:aH9) (cO:L.length<=4294967296) (au: ∀b,Fn prog g [zh b,ap 1001] [(1001,.cells [.d (.str nm)])] [] (fX (p b)) [(1001,.cells [.d (.str nm)])]):
  Fn prog 139 [eC 1002,k0 (.c3 g [.p 1001 0])] [(1001,.cells [.d (.str nm)]),(1002,.row 78 mg L)] [] (fX (decide (0<=lD p L))) [(1001,.cells [.d (.str nm)]),(1002,.row 78 mg L)]:=by
 refine aY [] func139 ?_;exact ar (Vv g p nm L cO au) bh
def xz (L:aH9) (nm:aG9):Bool:=decide (0<=lD (fun b=>decide (c2 b=nm)) L)
end
section
end
section
abbrev oU:bB:=.int .i64
abbrev alK:bB:=.bU .str (.cc oU)
abbrev H4:bB:=.bU oU (.bU oU (.bU oU (.bU (.cc .u8) (.cc oU))))
abbrev H5:bB:=.bU oU (.bU oU (.bU .str (.bU .str (.bU (.cc alK) H4))))
abbrev alL:bB:=.bU oU (.bU oU (.bU VJ (.bU .str H5)))
abbrev H6:Type:=aa alL
abbrev alM (o:H6):Int:=o.2.1
abbrev alN (o:H6):nx:=o.2.2.1
abbrev NG (o:H6):aa H5:=o.2.2.2.2
abbrev alO (o:aa H5):Int:=o.2.1
abbrev VL (o:aa H5):aa H4:=o.2.2.2.2.2
abbrev alP (o:aa H4):Int:=o.1
abbrev alQ (o:aa H4):Int:=o.2.2.1
def over (n a b:Int):Bool:=decide (a < n)&&decide (n<=b)
def H7 (o:H6):Bool:=over (VK (alN o)) 12 256||over (alM o) 100 4096||over (alO (NG o)) 100 4096||(decide (alP (VL (NG o))=4)&&over (alQ (VL (NG o))) 100 4096)
end
section
def H8 {L:aH9} {b:bQ} (h:gF L b=0):hJ b=true/\dU L (cT b) < 0/\L.length < 64/\(decide (c2 b=[])=false->0<=dU L (c2 b)):=by
 unfold gF at h
 split at h
 .cases h
 .rename_i E
  split at h
  .cases h
  .rename_i G;simp only[ay3,au9,av6,not_or,Bool.not_eq_false] at E;refine⟨E.1.1,aD1,aD1,fun h=>?_⟩;rw[h] at G;simp only[Bool.not_false,aB4,av6] at G;omega
def H9 {α:Type} {p:α->Bool} {L:List α} (x:α) (h:0<=lD p L):lD p (L++[x])=lD p L:=by
 unfold lD at*;rw[List.findIdx?_append]
 cases hf:L.findIdx? p with
 |none=>rw[hf] at h;exact as3 h aD2
 |some k=>simp
def alR {α:Type} {p:α->Bool} {L:List α} {x:α} (h:lD p L < 0) (hx:p x=true):lD p (L++[x])=(L.length:Int):=by
 unfold lD at*;rw[List.findIdx?_append]
 cases hf:L.findIdx? p with
 |none=>simp[List.findIdx?_cons,hx]
 |some k=>rw[hf] at h;simp at h;omega
def VM {α:Type} {L:List α} {b:α} (k:Nat) (x:α) (hx:(L++[b])[k]? =some x):L[k]? =some x\/(k=L.length/\x=b):=by
 rcases aA6 k L.length with h |h
 .rw[au7 h] at hx;exact .inl hx
 .rw[au6 h] at hx
  cases Z:k - L.length with
  |zero=>rw[Z] at hx;exact .inr ⟨aD1,by simpa using hx.symm⟩
  |succ n=>rw[Z] at hx;simp at hx
def lV.add {L:aH9} (a1:lV L) (b:bQ):lV (e3 L b):=by
 unfold e3
 split
 .rename_i h;obtain⟨E,G,ah,aW⟩:=H8 h;refine⟨by simp;omega,fun x hx=>?_,fun k x Z ae=>?_⟩
  .rcases au4.1 hx with hx |hx
   .exact a1.right x hx
   .simp only[as8,List.not_mem_nil,or_false] at hx;rw[hx];exact E
  .rcases VM k x Z with Z |⟨rfl,rfl⟩
   .have:=a1.BJ k x Z ae;unfold dU at*;rw[H9 b this.1];exact this
   .have:=aW ae;have bv:=H3 L (c2 x);unfold dU at*;rw[H9 x this];exact⟨this,bv⟩
 .exact a1
def NH {L:aH9} (a1:lV L) (b:bQ): ∀(n:Nat) (nm:aG9),0<=dU L nm->qg (L++[b]) n nm=qg L n nm
 |0,_,_=>rfl
 |n+1,nm,h=>by
  have hf:dU (L++[b]) nm=dU L nm:=H9 b h;have bv:=H3 L nm;simp only[qg,nw];rw[hf]
  have aU:lj (L++[b]) (dU L nm)=lj L (dU L nm):=by
   unfold lj fd;rw[vj h,vj h,au7 aD1]
  rw[aU]
  cases hx:lj L (dU L nm) with
  |none=>rfl
  |some x=>
   simp only;obtain⟨k,Z,O⟩:=NF hx
   by_cases ae:c2 x=[]
   .unfold sh;simp only[ae,decide_true,if_true]
   .rw[NH a1 b n (c2 x) (a1.BJ k x O (by simpa using ae)).1]
end
section
abbrev NI (r:Nat) (L:aH9):aA:=[(1001,.cells [.own r]),(r,.row 78 mg L)]
end
section
abbrev VN (r k:Nat) (L:aH9):aZ:=[(3,eC r),(9,eC 1002),(10,ab (L.length:Nat)),(11,ab (k:Nat))]
abbrev VO (L:aH9) (r:Nat) (l:aJ0):aA:=(r,.row 9 .str l)::li L
def alS (L:aH9) (cO:L.length<=1000000):Fn prog 16 [ap 1001] (li L) [] (bP .str (L.map cT)) (li L):=by
 refine aY [] func16 ?_;refine d1 [] (X:=Nat) (fun k=>VN 2002 k L) (fun k=>VO L 2002 ((L.take k).map cT)) (fun k=>k<=L.length) (fun k=>L.length - k) 0 (at2 _) ?_ ?_
 .exact ac.trans (ac.nil 3 2002 9 .str rfl rfl) (ac.sub aD aD)
 intro k Z;refine⟨fun h=>?_,fun h=>?_⟩
 .have cu:k < L.length:=aE0
  refine⟨⟨aD1,aD1⟩,L[k],qf rfl cu,rfl,?_,rfl,?_⟩
  .show((L.take k).map cT).length+1<=4294967296;rw[at8,at3];omega
  exact⟨aD1,k+1,cu,aD1,ac.trans (ac.sub (K':=VN 19 (k+1) L) (B':=VO L 19 ((L.take (k+1)).map cT)) aD ⟨as5 (fun l=>some (ba.row _ .str l)) (alH cT cu),rfl,rfl,trivial⟩) (ac.aX 19 2002 rfl)⟩
 .have cu:k=L.length:=by
    have: ¬k < L.length:=aE0
    omega
  subst cu;exact⟨_,_,_,ac.eb 2002 rfl,rfl,(show(L.take L.length).map cT=L.map cT by rw[au3]),aD,rfl⟩
def VP {L:aH9} {b:bQ} (h:b∈L):0<=dU L (cT b):=by
 unfold dU;rcases vV (fun x=>decide (cT x=cT b)) L with⟨_,hn⟩ |⟨k,x,h,_⟩
 .obtain⟨i,aE,rfl⟩:=ay5 h;have:=hn i _ (as0 aE);simp at this
 .omega
def alT {L:aH9} (a1:lV L): ∀(n m:Nat) (nm:aG9),dU L nm < n->dU L nm < m->qg L n nm=qg L m nm:=by
 intro n
 induction n with
 |zero=>
  intro m nm E G
  cases m with
  |zero=>rfl
  |succ m=>
   show[]=nw L nm (qg L m);unfold nw lj;rw[mu aD1]
 |succ n bn=>
  intro m nm E G
  cases m with
  |zero=>
   show nw L nm (qg L n)=[];unfold nw lj;rw[mu aD1]
  |succ m=>
   show nw L nm (qg L n)=nw L nm (qg L m);unfold nw
   cases hx:lj L (dU L nm) with
   |none=>rfl
   |some x=>
    simp only;obtain⟨k,Z,O⟩:=NF hx
    by_cases ae:c2 x=[]
    .unfold sh;simp only[ae,decide_true,if_true]
    .have:=(a1.BJ k x O (by simpa using ae));rw[bn m (c2 x) aD1 aD1]
def alU {L:aH9} (a1:lV L) (b:bQ) {nm:aG9} (h:0<=dU L nm):lW (e3 L b) nm=lW L nm/\oT (e3 L b) nm=oT L nm/\0<=dU (e3 L b) nm:=by
 unfold e3
 split
 .have hf:dU (L++[b]) nm=dU L nm:=H9 b h;have bv:=H3 L nm;refine⟨?_,by unfold oT;rw[hf],aD1⟩;unfold lW;rw[NH a1 b _ _ h];exact alT a1 _ _ _ aE3 aD1
 .exact⟨rfl,rfl,h⟩
def alV {L:aH9} {nm:aG9} (h:0<=dU L nm):oT L nm=0:=by unfold oT;rw[mu aE3]
end
section
def Eu:(prog.info? 78).map (fun i=>(i.zero,i.size,i.bytes))=some (some (.agg #[.string ⟨#[]⟩,.string ⟨#[]⟩,.int .i64 0,.int .i64 0,.slice none 0 0]),5,72):=by kernel_rfl
def alW (v:aI3) (n:Nat) (xs:aH4) (w:aH5) (az:w.ownsRow 0 78 5 v n xs) (hn:n<=4294967296) (E: ∀u∈xs,u.oneCell'=true) (lz:0 < n):
  Calls prog 142 #[v] w fun e w'=> ∃dr,e= .returned dr/\w'.ownsRow w.heap.size 78 5 dr n xs/\Below w.heap.size w w':=by
 have hN:=gl.sA az;obtain⟨b,o,c,rfl,-,-,-,-,-⟩:=hN.at_ lz;have alX:=Lib.hid hN;have Dl:=Lib.hid E;clear az hN E;have yP:=Lib.run_eql_slice_nil (P:=prog)
 go_enter func142,ntmps142
 go_wp2_with (at_builtin;refine Pz _ rfl (.tmp 5) (.tmp 6) _ rfl w.heap.size 78 _ 5 72 underlying91 Eu rfl aD1 (.slice (some ⟨w.heap.size,0,none⟩) 0 0) 0 [] rfl (by exact⟨aD3,.inr ⟨w.heap.size,0,#[],rfl,as2 _,heap_alloc_new w _,as2 _,aD2,rfl,rfl⟩⟩) _ (.slice (some ⟨b,o,none⟩) n c) n xs rfl (by exact alX.out.below (tL _ _)) Dl.out aF6 aD1 aD3 ?_;intro dr d9 dN r7 j8)
 go_wp2
 go_ret
 refine⟨dr,rfl,by simpa using dN,?_⟩;exact(tL _ _).grown r7 aD3 (fun k Z=>by simp[Value.ownBlock] at Z;omega)
def alY {P:aH6} (w:aH5) (t ty e:aI0) (aB:aI3) (size bytes:Nat) (cm:P.underlying t=some (.slice e)) (qu:(P.info? e).map (fun i=>(i.zero,i.size,i.bytes))=some (some aB,size,bytes))
  (g k cap:Nat) (dm:aH4) (aU:w.heap[g]? =some (.cells dm.toArray e (0,0))) (D:Nat->Prop) (iu:aI3) (m:Nat) (e7:aH4) (ax:gl D w size iu m e7) (E: ∀u∈e7,u.oneCell'=true)
  (Cz:k+m<=cap) (lI:(k+m)*size<=dm.length):
  ∃w',(Builtin.append_ #[t,t] ty #[.slice (some ⟨g,0,none⟩) k cap,iu]).run P w= .ok (.slice (some ⟨g,0,none⟩) (k+m) cap) w'/\w'.heap[g]? =some (.cells (splice dm (k*size) e7).toArray e (0,0))/\w.grownBy w' (some g):=by
 obtain⟨i,aE,aN,zS,uM⟩:=info_parts qu;subst zS;obtain⟨ak,A,c,rfl,_,_,ah⟩:=ax;have alZ:k*i.size+e7.length<=dm.length:=by rw[ak,<-Nat.add_mul];exact lI
 rcases A with _ |ad
 .have ay:m=0:=by
   rcases aB3 m with aw |aw
   .exact aw
   .obtain⟨b,o,h,_⟩:=ah aw
    cases h
  subst ay;have hn:e7=[]:=aw8 aG7;subst hn;refine⟨w,?_,by simpa[splice] using aU,World.grownBy.refl w _⟩;have al0:k<=cap:=aD9
  simp[Builtin.append_,run_underlying cm,sizeOf,typeInfo,aE,Builtin.lenOf,Builtin.firstCells,al0,storeCells]
 .have xP: ∀j u,e7[j]? =some u->w.cell? (ad.add j)=some u:=by
   intro j u a6;rcases aB3 m with aw |aw
   .subst aw;have hn:e7=[]:=aw8 aG7;subst hn;simp at a6
   .obtain⟨b,o,h,_,_,J⟩:=ah aw;injection h with h
    subst h;rw[qt];exact J j u a6
  refine⟨_,run_append_room (P:=P) w t ty e i cm aE g k cap dm.toArray aU ad m c e7 ak xP E Cz (by simpa using alZ),?_,⟨rfl,rfl,rfl,by simp[World.setRow],fun ea _ Z=>setRow_other w g ea _ (fun e=>Z (by rw[e]))⟩⟩;rw[setRow_heap w g dm.toArray _ e (0,0) aU];simp[splice]
def VQ {P:aH6} (w:aH5) {dn:Array Oper} {o:Oper} {a:Act} {K:Act->World->Prop} {Q:Exit->Act->World->Prop} {u4:Prop} (od:o.guard=none) (s x:aH8) (t:aI0)
  (ag:o.op= .call {callee:=.builtin .append,args:= #[s,x],argTypes:= #[t,t]})
  (e:aI0) (aB:aI3) (size bytes:Nat) (cm:P.underlying t=some (.slice e)) (qu:(P.info? e).map (fun i=>(i.zero,i.size,i.bytes))=some (some aB,size,bytes))
  (g k cap:Nat) (au:a.eval s= .slice (some ⟨g,0,none⟩) k cap) (dm:aH4) (aU:w.heap[g]? =some (.cells dm.toArray e (0,0))) (D:Nat->Prop) (iu:aI3) (m:Nat) (e7:aH4) (hx:a.eval x=iu) (ax:gl D w size iu m e7) (E: ∀u∈e7,u.oneCell'=true)
  (Cz:k+m<=cap) (lI:(k+m)*size<=dm.length)
  (h: ∀w',w'.heap[g]? =some (.cells (splice dm (k*size) e7).toArray e (0,0))->w.grownBy w' (some g)->K (a.put o.dst (.slice (some ⟨g,0,none⟩) (k+m) cap)) w'):
  if Region.wanted o (yielded dn a.tmps)=true then Oper.wp P o a w K Q else u4:=by
 have hw:Region.wanted o (yielded dn a.tmps)=true:=by simp[Region.wanted,od]
 rw[vj hw];obtain⟨w',d3,G,ah⟩:=alY (P:=P) w t o.type e aB size bytes cm qu g k cap dm aU D iu m e7 ax E Cz lI;unfold Oper.wp execOp;simp only[ag,resolve,invoke,builtin,aw5,ax2,au5,List.map_toArray,au1,aC3,au,hx,d3];exact h w' G ah
def al1 {P:aH6} (w:aH5) (t ty e:aI0) (aB:aI3) (size bytes:Nat) (cm:P.underlying t=some (.slice e)) (qu:(P.info? e).map (fun i=>(i.zero,i.size,i.bytes))=some (some aB,size,bytes)) (oc:aB.cells.size=size) (NJ: ∀u∈aB.cells.toList,u.oneCell'=true)
  (g o c:Nat) (dm:aH4) (aU:w.heap[g]? =some (.cells dm.toArray e (0,0))) (lI:o+size<=dm.length):
  ∃w',(Builtin.clear_ #[t] ty #[.slice (some ⟨g,o,none⟩) 1 c]).run P w= .ok (.tuple #[]) w'/\w'.heap[g]? =some (.cells (splice dm o aB.cells.toList).toArray e (0,0))/\w.grownBy w' (some g):=by
 obtain⟨i,aE,aN,zS,uM⟩:=info_parts qu
 have wF:(Builtin.zeroCells aB.cells 1).toList=aB.cells.toList:=by
  have:Builtin.zeroCells aB.cells 1=aB.cells:=by
   apply Array.ext
   .simp[Builtin.zeroCells]
   .intro j E G;simp[Builtin.zeroCells,Nat.mod_eq_of_lt G,G]
  rw[this]
 have eB:=run_storeCells_at P g o e aB.cells.toList 0 dm.toArray w aU (by simp[oc];omega) NJ;simp only[az5] at eB;refine⟨w.setRow g (List.take o dm++aB.cells.toList++List.drop (o+aB.cells.toList.length) dm).toArray,by simp[Builtin.clear_,run_underlying cm,zeroValue,typeInfo,aE,aN,wF,eB],?_,⟨rfl,rfl,rfl,by simp[World.setRow],fun ea _ Z=>setRow_other w g ea _ (fun e=>Z (by rw[e]))⟩⟩;rw[setRow_heap w g dm.toArray _ e (0,0) aU];simp[splice]
def VR {P:aH6} (w:aH5) {dn:Array Oper} {rest:aI6} {o:Oper} {a:Act} {Q:Exit->Act->World->Prop} (od:o.guard=none) (x:aH8) (t:aI0)
  (ag:o.op= .call {callee:=.builtin .clear,args:= #[x],argTypes:= #[t]})
  (e:aI0) (aB:aI3) (size bytes:Nat) (cm:P.underlying t=some (.slice e)) (qu:(P.info? e).map (fun i=>(i.zero,i.size,i.bytes))=some (some aB,size,bytes)) (oc:aB.cells.size=size) (NJ: ∀u∈aB.cells.toList,u.oneCell'=true)
  (g off c:Nat) (hx:a.eval x= .slice (some ⟨g,off,none⟩) 1 c) (dm:aH4) (aU:w.heap[g]? =some (.cells dm.toArray e (0,0))) (lI:off+size<=dm.length)
  (h: ∀w',w'.heap[g]? =some (.cells (splice dm off aB.cells.toList).toArray e (0,0))->w.grownBy w' (some g)->wpList P dn Q rest (a.put o.dst (.tuple #[])) w'):wpList P dn Q (o::rest) a w:=
 wpList_plain od fun _ cE=>by
  obtain⟨w',d3,G,ah⟩:=al1 (P:=P) w t o.type e aB size bytes cm qu oc NJ g off c dm aU lI;unfold Oper.wp execOp;simp only[ag,resolve,invoke,builtin,aw5,ax2,au5,List.map_toArray,au1,aC3,hx,d3];exact cE _ _ (h w' G ah)
def VS {α:Type} (L:List α) (o:Nat):splice L o []=L:=by simp[splice]
def VT {w w':aH5} {r:aI1} (h:w.drew.grownBy w' r):w.grownBy w' r:=⟨h.os,h.tape,h.output,h.size,h.block⟩
def VU: ∀u∈(Value.agg #[.string ⟨#[]⟩,.string ⟨#[]⟩,.int .i64 0,.int .i64 0,.slice none 0 0]).cells.toList,u.oneCell'=true:=by simp[Value.cells,Value.oneCell']
def VV {iK:aH5} {B g m cap:Nat} {dm xs w5:aH4} (cQ:B<=g) (bd:iK.heap[g]? =some (.cells (splice dm (m*5) w5).toArray 78 (0,0))) (ay:m<=cap) (Ak:cap<=maxLen) (J:dm.length=cap*5) (aN:m*5+w5.length<=cap*5) (hx:dm.take (m*5)=xs) (tY:xs.length=m*5):
  iK.ownsRow B 78 5 (.slice (some ⟨g,0,none⟩) m cap) m xs:=by
 refine⟨tY,.inr ⟨g,cap,_,rfl,cQ,bd,ay,Ak,?_,?_⟩⟩
 .simp only[List.size_toArray];rw[length_splice _ _ _ aD1,J]
 .simp only[splice];rw[List.take_append_of_le_length aE3,aw0 aE3];exact hx
def al2 (B g k:Nat) (xs:aH4) (w:aH5) (az:w.ownsRow B 78 5 (.slice (some ⟨g,0,none⟩) (k+1) (k+1)) (k+1) xs):
  Calls prog 141 #[.slice (some ⟨g,0,none⟩) (k+1) (k+1),.int .i64 k,.int .i64 (k+1)] w fun e w'=>e= .returned (.slice (some ⟨g,0,none⟩) k (k+1))/\
   w'.ownsRow B 78 5 (.slice (some ⟨g,0,none⟩) k (k+1)) k (xs.take (k*5))/\w.grownBy w' (some g):=by
 obtain⟨ak,G⟩:=az;rcases G with⟨h,_⟩ |⟨hC,J4,dm,U,cQ,bd,E9,Ak,fG,nG⟩
 .cases h
 injection U with af ao bo
 injection af with af
 injection af with af
 subst af bo;clear ao;unfold maxLen at Ak;have al3:(0:Int)<=(k:Int):=aD9
 have kG:(k:Int)<=(k:Int)+1:=aD9
 have AO:((k:Int) == (k:Int)+1)=false:=aE3
 have pD:(0:Int)<=(k:Int)+1:=aD9
 have vt:(k:Int)+1<=((k+1:Nat):Int):=aD9
 have kB:k<=k+1:=aD9
 have NK:=Lib.hid bd;have vX:=Lib.hid (show dm.toList.length=(k+1)*5 by rw[Array.length_toList,fG]);have Ev:=Lib.hid ak;have NL:=Lib.hid nG;have NM:=Lib.hid cQ;have ig:gl (fun _=>True) w 5 (.slice (some ⟨g,0,none⟩) 0 0) 0 []:=⟨aD3,_,_,rfl,aD1,by simp only[maxLen];omega,fun h=>as3 h aD1⟩;have NN:=Lib.hid ig;clear bd fG ak nG ig
 go_enter func141,ntmps141
 go_wp2
 go_region_law ((refine VQ _ aD5 (.tmp 22) (.tmp 25) _ aD5 78 _ 5 72 underlying91 Eu g k (k+1) aD5 dm.toList (by exact NK.out) (fun _=>True) _ 0 [] aD5 (by exact NN.out) (fun u a6=>by cases a6) aD1 (by rw[vX.out];omega) ?_;intro fb NO NP))
 all_goals rw[az5]
 all_goals
  go_wp2_with (refine VR _ rfl (.tmp 31) 91 rfl 78 _ 5 72 underlying91 Eu rfl VU g (k*5) 1 rfl _ NO (by rw[VS,vX.out];omega) ?_;intro iK H' NQ)
  go_ret
  refine⟨rfl,?_,(VT NP).trans NQ⟩;rw[VS] at H';refine VV NM.out H' aD1 aF6 vX.out (by simp[Value.cells];omega) ?_ (by rw[at3,Ev.out];omega);rw[<-NL.out,List.take_take]
  congr 1
  omega
def al4 (B g m cap k:Nat) (xs:aH4) (w:aH5) (az:w.ownsRow B 78 5 (.slice (some ⟨g,0,none⟩) (m+1) cap) (m+1) xs) (Z:k<=m) (a8: ¬cap=k+1) (E: ∀u∈xs,u.oneCell'=true):
  Calls prog 141 #[.slice (some ⟨g,0,none⟩) (m+1) cap,.int .i64 k,.int .i64 (k+1)] w fun e w'=>e= .returned (.slice (some ⟨g,0,none⟩) m cap)/\
   w'.ownsRow B 78 5 (.slice (some ⟨g,0,none⟩) m cap) m (xs.take (k*5)++xs.drop ((k+1)*5))/\w.grownBy w' (some g):=by
 obtain⟨ak,G⟩:=az;rcases G with⟨h,_⟩ |⟨hC,J4,dm,U,cQ,bd,E9,Ak,fG,nG⟩
 .cases h
 injection U with af ao bo
 injection af with af
 injection af with af
 subst af bo;clear ao;unfold maxLen at Ak;have al3:(0:Int)<=(k:Int):=aD9
 have kG:(k:Int)<=(k:Int)+1:=aD9
 have AO:((k:Int) == (k:Int)+1)=false:=aE3
 have pD:(0:Int)<=(k:Int)+1:=aD9
 have jX:(k:Int)+1<=((m+1:Nat):Int):=aD9
 have arR:(k:Int)+1<=(m:Int)+1:=aD9
 have vt:((m+1:Nat):Int)<=(cap:Int):=aD9
 have arS:(m:Int)+1<=(cap:Int):=aD9
 have arT:(k:Int)+1<=(cap:Int):=aD9
 have arU: ¬cap=0:=aD9
 have i8: ¬cap=m:=aD9
 have kB:k<=cap:=aD9
 have uB:k+1<=m+1:=aD9
 have VW:k+1<=cap:=aD9
 have arV:m<=m+1:=aD9
 have arW:m+1<=cap:=aD9
 have NK:=Lib.hid bd;have Dl:=Lib.hid E;have vX:=Lib.hid (show dm.toList.length=cap*5 by rw[Array.length_toList,fG]);have Ev:=Lib.hid ak;have NL:=Lib.hid nG;have NM:=Lib.hid cQ;have bX:(xs.drop ((k+1)*5)).length=(m+1 - (k+1))*5:=by rw[ax4,ak];omega
 have Ew:=Lib.hid bX;have cz:=mr bd
 have Dx: ∀j u,(xs.drop ((k+1)*5))[j]? =some u->w.cell? ⟨g,(k+1)*5+j,none⟩=some u:=by
  intro j u V;rw[aA7,<-nG,ax3] at V
  split at V
  .simpa[World.cell?,bd] using V
  .cases V
 have ig: ∀q c,q=m+1 - (k+1)->q<=c->c<=maxLen->gl (fun _=>True) w 5 (.slice (some ⟨g,(k+1)*5,none⟩) q c) (m+1 - (k+1)) (xs.drop ((k+1)*5)):=fun q c aQ G ah=>by
  subst aQ;exact⟨bX,_,_,rfl,G,ah,fun h=>⟨g,_,rfl,trivial,cz,Dx⟩⟩
 have NN:=Lib.hid ig;have AG:k+(m+1 - (k+1))=m:=aD9
 have al5:=Lib.hid AG;have al6:=Lib.hid (show k+(m - k)=m by omega);clear bd E fG ak nG bX Dx ig AG
 go_enter func141,ntmps141
 go_wp2
 go_region_law ((refine VQ _ aD5 (.tmp 22) (.tmp 25) _ aD5 78 _ 5 72 underlying91 Eu g k cap aD5 dm.toList (by exact NK.out) (fun _=>True) _ (m+1 - (k+1)) (xs.drop ((k+1)*5)) aD5 (by exact NN.out _ _ aD1 aD1 (by simp only[maxLen];omega)) (fun u a6=>Dl.out u (List.mem_of_mem_drop a6)) aD1 (by rw[vX.out];omega) ?_;intro fb NO NP))
 all_goals try (first |rw[al5.out] |rw[al6.out])
 all_goals
  go_wp2_with (refine VR _ rfl (.tmp 31) 91 rfl 78 _ 5 72 underlying91 Eu rfl VU g (m*5) (cap - m) rfl _ NO (by rw[length_splice _ _ _ (by rw[Ew.out,vX.out];omega),vX.out];omega) ?_;intro iK H' NQ)
  go_ret
  refine⟨rfl,?_,(VT NP).trans NQ⟩;refine VV NM.out H' aD1 aF6 (by rw[length_splice _ _ _ (by rw[Ew.out,vX.out];omega),vX.out]) (by simp[Value.cells];omega) ?_ (by rw[as4,at3,Ew.out,Ev.out];omega)
  have af:List.take (k*5) dm.toList=xs.take (k*5):=by
   rw[<-NL.out,List.take_take];congr 1;omega
  unfold splice;rw[af,<-aw1,List.take_append_of_le_length (by rw[as4,at3,Ew.out,Ev.out];omega)];exact aw0 (by rw[as4,at3,Ew.out,Ev.out];omega)
def al7 (B g m cap k:Nat) (xs:aH4) (w:aH5) (az:w.ownsRow B 78 5 (.slice (some ⟨g,0,none⟩) (m+1) cap) (m+1) xs) (Z:k<=m) (E: ∀u∈xs,u.oneCell'=true):
  Calls prog 141 #[.slice (some ⟨g,0,none⟩) (m+1) cap,.int .i64 k,.int .i64 (k+1)] w fun e w'=>e= .returned (.slice (some ⟨g,0,none⟩) m cap)/\
   w'.ownsRow B 78 5 (.slice (some ⟨g,0,none⟩) m cap) m (xs.take (k*5)++xs.drop ((k+1)*5))/\w.grownBy w' (some g):=by
 by_cases J:cap=k+1
 .have al8:m=k:=by
   rcases az.2 with⟨h,_⟩ |⟨hC,J4,dm,U,_,_,ah,_⟩
   .cases h
   .injection U with _ _ bo
    omega
  subst al8 J;refine(al2 B g m xs w az).mono fun e w' ⟨U,G,ah⟩=>⟨U,?_,ah⟩
  rw[List.drop_of_length_le (by have:=az.1;omega),av8];exact G
 .exact al4 B g m cap k xs w az Z J E
end
section
def VX {I:Nat->Prop} {w:aH5} {u:bB} {xs:List (aa u)} {cs:aH4} (aN:0 < aR u) (ak:cs.length=xs.length*aR u) (h:g7 I w u xs cs): ∀v∈cs,v.oneCell'=true:=fun v az=>by
 obtain⟨k,Z,rfl⟩:=ay5 az;obtain⟨af,ao,bo⟩:=Fb (show k < xs.length*aR u by omega);obtain⟨dr,E,G⟩:=cw.one u _ _ (h (k/aR u) _ (as0 af)) (k % aR u) ao;rw[bo,as0 Z] at E;injection E with E
 rw[E];exact G
def cw.VY {I:Nat->Prop} {w:aH5} {u:bB} {x:aa u} {c ca:Nat->Option Value} (h:cw I w u x c) (J: ∀j v,j < aR u->c j=some v->ca j=some v):cw I w u x ca:=
 cw.mk u x ca (cw.wf u x c h) fun j V=>by
  obtain⟨v,E,G⟩:=cw.cell u x c j h V;exact⟨v,J j v V E,G⟩
def al9 {I:Nat->Prop} {w:aH5} {u:bB} {xs:List (aa u)} {cs:aH4} {k:Nat} (Z:k < xs.length) (ak:cs.length=xs.length*aR u) (h:g7 I w u xs cs):g7 I w u (xs.eraseIdx k) (cs.take (k*aR u)++cs.drop ((k+1)*aR u)):=fun i x aE=>by
 rw[aC0] at aE;have xp:(k+1)*aR u<=xs.length*aR u:=ax5 _ Z;have cu:(k+1)*aR u=k*aR u+aR u:=az3 k (aR u);have bv:(cs.take (k*aR u)).length=k*aR u:=aE8
 split at aE
 .rename_i vS;have:(i+1)*aR u<=k*aR u:=ax5 _ vS;rw[az3] at this;refine(h i x aE).VY fun j v V az=>?_
  rw[au7 aD1,ax3,vj aD1];exact az
 .rename_i vS;have:k*aR u<=i*aR u:=ax5 _ aD1;have af:(i+1)*aR u=i*aR u+aR u:=az3 i (aR u);refine(h (i+1) x aE).VY fun j v V az=>?_
  rw[au6 aD1,aA7,bv];rw[<-az]
  congr 1
  omega
def al' (L:aH9) (aw:0 < L.length) (cO:L.length<=4294967296):
  Fn prog 142 [eC 1001] [(1001,.row 78 mg L)] [1002] (eC 1002) [(1001,.row 78 mg L),(1002,.row 78 mg L)]:=by
 refine⟨aD4,?_⟩;intro ρ F I w bZ a1 c4 bj eQ bX dI
 match bZ,bX with
 | [v],_=>
  obtain rfl:v=(ρ 1001).eS:=dI 0 _ v rfl rfl;have bd:=c4 1001 _ rfl;obtain⟨ue,jo,cs,zj,kp⟩:=bd;refine(alW (ρ 1001).eS L.length cs w zj cO (VX aD2 zj.1 kp) aw).mono ?_;rintro e w' ⟨dr,rfl,dN,O⟩;rcases dN.2 with⟨_,hn⟩ |⟨g,cap,dm,rfl,aU,tf,x4,ay,fG,nG⟩
  .omega
  have Dq:g < w'.heap.size:=(az9.1 tf).1;have a2:cp I w I w':=fun b f4=>⟨f4,O.block b (a1 b f4)⟩
  refine⟨_,dp ρ 1002 ⟨g,some ⟨g,0,none⟩,L.length,cap⟩,dp F 1002 (fun b=>b=g),rfl,cZ.pP O,?_,I,a2,?_,?_,?_,?_,?_⟩
  .intro c J;exact du _ _ (fun e=>J (by simp[e]))
  .intro b f4;exact⟨au2 (a1 b f4) O.size,.inl f4⟩
  .intro c ch J;rw[ci] at J
   split at J
   .rename_i d4;subst d4;injection J with J;subst J
    rw[du _ _ aD2,du _ _ aD2];exact⟨ue,jo,cs,PG zj (fun b fk=>O.block b ((bj 1001 _ rfl b ((ue b).2 fk)).1)),kp.mono a2⟩
   .rw[ci] at J
    split at J
    .rename_i d4;subst d4;injection J with J;subst J
     rw[dh,dh];exact⟨fun b=>⟨fun e=>by subst e;rfl,fun e=>by injection e with e;exact e.symm⟩,fun b e=>by injection e with e;exact e.symm,cs,⟨dN.1,.inr ⟨g,cap,dm,rfl,at2 _,tf,x4,ay,fG,nG⟩⟩,kp.mono a2⟩
    .simp[aj] at J
  .intro c ch J b p';rw[ci] at J
   split at J
   .rename_i d4;subst d4;rw[du _ _ aD2] at p';have:=bj 1001 _ rfl b p';exact⟨au2 this.1 O.size,this.2,.inl ⟨1001,_,rfl,p'⟩⟩
   .rw[ci] at J
    split at J
    .rename_i d4;subst d4;rw[dh] at p';subst p';exact⟨Dq,fun f4=>by have:=a1 _ f4;omega,.inr aU⟩
    .simp[aj] at J
  .intro c ca ch ch' b J cW a8 hd fk;rw[ci] at J cW;have key: ∀b,F 1001 b-> ¬b=g:=fun b hd e=>by have:=(bj 1001 _ rfl b hd).1;omega
   split at J
   .rename_i d4;subst d4;rw[du _ _ aD2] at hd;rw[mu a8,ci] at cW
    split at cW
    .rename_i d4;subst d4;rw[dh] at fk;exact key b hd fk
    .simp[aj] at cW
   .rw[ci] at J
    split at J
    .rename_i d4;subst d4;rw[dh] at hd
     split at cW
     .rename_i d4;subst d4;rw[du _ _ aD2] at fk;exact key b fk hd
     .rw[ci,mu a8] at cW;simp[aj] at cW
    .simp[aj] at J
  .show _=bq.eS (dp ρ 1002 _ 1002);rw[dh];rfl
def ama (L:aH9) (k:Nat) (Z:k < L.length):
  Fn prog 141 [eC 1001,ab k,ab (k+1)] [(1001,.row 78 mg L)] [1002] (eC 1002) [(1002,.row 78 mg (L.eraseIdx k))]:=by
 refine⟨aD4,?_⟩;intro ρ F I w bZ a1 c4 bj eQ bX dI
 match bZ,bX with
 | [v,k0,v2],_=>
  obtain rfl:v=(ρ 1001).eS:=dI 0 _ v rfl rfl;obtain rfl:k0= .int .i64 k:=dI 1 _ k0 rfl rfl;obtain rfl:v2= .int .i64 (k+1):=dI 2 _ v2 rfl rfl;have bd:=c4 1001 _ rfl;obtain⟨ue,jo,cs,zj,kp⟩:=bd;have sH:=VX aD2 zj.1 kp;have VZ:=zj;obtain⟨dW,G⟩:=zj;rcases G with⟨_,hn⟩ |⟨g,cap,dm,Ia,aU,tf,x4,ay,fG,nG⟩
  .omega
  have Ib:F 1001 g:=(ue g).2 (by rw[Ia];rfl);obtain⟨m,HI⟩: ∃m,L.length=m+1:=⟨L.length - 1,aD1⟩;rw[Ia,HI] at VZ;rw[Ia,HI];have arX:g < w.heap.size:=(az9.1 tf).1;refine(al7 0 g m cap k cs w VZ aD1 sH).mono ?_;rintro e w' ⟨rfl,dN,r7⟩;have a2:cp I w I w':=fun b f4=>⟨f4,r7.block b (a1 b f4) (fun e=>by injection e with e;subst e;exact(bj 1001 _ rfl _ Ib).2 f4)⟩
  have gy:(L.eraseIdx k).length=m:=by rw[List.length_eraseIdx_of_lt Z];omega
  have arY: ∀b,F 1001 b↔b=g:=fun b=>by rw[ue,Ia];exact⟨fun e=>by injection e with e;exact e.symm,fun e=>by subst e;rfl⟩
  have dR: ∀c ch,aj [(1002,ba.row 78 mg (L.eraseIdx k))] c=some ch->c=1002/\ch=ba.row 78 mg (L.eraseIdx k):=fun c ch J=>by
   rw[ci] at J
   split at J
   .rename_i d4;injection J with J;exact⟨d4.symm,J.symm⟩
   .simp[aj] at J
  refine⟨_,dp ρ 1002 ⟨g,some ⟨g,0,none⟩,m,cap⟩,dp F 1002 (fun b=>b=g),rfl,PB r7 (fun b e=>by injection e with e;subst e;exact⟨1001,_,rfl,Ib⟩),?_,I,a2,?_,?_,?_,?_,?_⟩
  .intro c J;exact du _ _ (fun e=>J (by simp[e]))
  .intro b f4;exact⟨au2 (a1 b f4) r7.size,.inl f4⟩
  .intro c ch J;obtain⟨rfl,rfl⟩:=dR c ch J;rw[dh,dh];refine⟨fun b=>⟨fun e=>by subst e;rfl,fun e=>by injection e with e;exact e.symm⟩,fun b e=>by injection e with e;exact e.symm,_,?_,al9 Z dW (kp.mono a2)⟩;rw[gy];exact dN
  .intro c ch J b p';obtain⟨rfl,rfl⟩:=dR c ch J;rw[dh] at p';subst p';have:=bj 1001 _ rfl _ Ib;exact⟨au2 this.1 r7.size,this.2,.inl ⟨1001,_,rfl,Ib⟩⟩
  .intro c ca ch ch' b J cW a8;exact as3 ((dR c ch J).1.trans (dR ca ch' cW).1.symm) a8
  .show _=bq.eS (dp ρ 1002 _ 1002);rw[dh];rfl
end
section
def si (L:aH9) (nm:aG9):Int:=if dU L nm < 0 then 181 else if xz L nm=true then 1 else 0
def q5 (L:aH9) (nm:aG9):List bQ:=if si L nm=0 then L.eraseIdx (dU L nm).toNat else L
def amb (L:aH9) (nm:aG9) (cO:L.length<=1000000):Fn prog 85 [ap 1001,bW nm] (li L) [1003] (ab (si L nm)) (VB (q5 L nm)):=by
 have zk:=H1 nm L aD1;have Ic:=alJ 140 _ nm L aD1 fun b=>alI b nm
 rcases vV (fun x=>decide (cT x=nm)) L with⟨h,_⟩ |⟨k,x,h,hx,_⟩
 .have hf:dU L nm= -1:=h;have a2:si L nm=181:=by unfold si;rw[vj aD1]
  have ce:q5 L nm=L:=by unfold q5;rw[mu aD1]
  rw[hf] at zk;rw[a2,ce];refine aY [] func85 ?_;exact⟨rfl,ar zk ⟨fun h=>⟨_,_,_,ac.aX 1002 1003 rfl,rfl,rfl,aD,rfl⟩,fun h=>as3 h aD2⟩⟩
 .have hf:dU L nm=k:=h;have Z:k < L.length:=(at0.1 hx).1;rw[hf] at zk;have a2:si L nm=if xz L nm=true then 1 else 0:=by unfold si;rw[mu aD1]
  refine aY [] func85 ?_;refine⟨rfl,ar zk ⟨fun h=>as3 (gd h) aD1,fun h=>ar (Fn.aX [(1001,3)] Ic) ⟨fun G=>?_,fun G=>?_⟩⟩⟩
  .have ae:xz L nm=true:=G;rw[ae,vj rfl] at a2;have ce:q5 L nm=L:=by unfold q5;rw[mu aD1]
   rw[a2,ce];exact⟨_,_,_,ac.aX 1002 1003 rfl,rfl,rfl,aD,rfl⟩
  .have ae:xz L nm=false:=G;rw[ae,mu aD3] at a2;have ce:q5 L nm=L.eraseIdx k:=by unfold q5;rw[vj a2,hf];rfl
   rw[a2,ce];exact ar (Fn.aX [(1001,1002),(1002,2001)] (al' L aD1 aD1)) ⟨aD1,ar (Fn.aX [(1001,2001),(1002,2002)] (ama L k Z)) ⟨_,_,_,ac.aX 2002 1003 rfl,rfl,rfl,aD,rfl⟩⟩
end
section
end
section
end
section
end
section
def amc {α:Type} (p:α->Bool): ∀(L:List α),(if 0<=lD p L then fd L (lD p L).toNat else none)=L.find? p:=by
 intro L;rcases vV p L with⟨h,hn⟩ |⟨k,x,h,hx,ae,bv⟩
 .rw[h,mu aD1];refine(List.find?_eq_none.2 fun x hx=>?_).symm;obtain⟨i,aE,rfl⟩:=ay5 hx;rw[hn i _ (as0 aE)];simp
 .rw[h,vj aD1,az0];unfold fd;rw[hx];refine(List.find?_eq_some_iff_getElem.2 ⟨ae,k,(at0.1 hx).1,(at0.1 hx).2,fun j V=>?_⟩).symm;have:=bv j _ V (as0 (by have:=(at0.1 hx).1;omega));simpa using this
def BK (L:aH9) (nm:aG9):lj L (dU L nm)=L.find? (fun b=>decide (cT b=nm)):=amc _ L
def NR {α:Type} (p:α->Bool): ∀(L:List α) (k:Nat) (x:α),L[k]? =some x->p x=false->(L.eraseIdx k).find? p=L.find? p
 | [],k,x,h,_=>by simp at h
 |a::L,0,x,h,ae=>by
  simp only[at9,as9] at h;subst h;simp[List.find?_cons,ae]
 |a::L,k+1,x,h,ae=>by
  simp only[aC5] at h;rw[List.eraseIdx_cons_succ,List.find?_cons,List.find?_cons,NR p L k x h ae]
def Id (L:aH9) (nm:aG9):dU L nm < 0↔L.find? (fun b=>decide (cT b=nm))=none:=by
 rw[<-BK];unfold lj;constructor
 .intro h;rw[mu aD1]
 .intro h;rcases vV (fun b=>decide (cT b=nm)) L with⟨G,_⟩ |⟨k,x,G,hx,_⟩
  .unfold dU;omega
  .have G:dU L nm=k:=G;rw[vj aD1,G,az0] at h;unfold fd at h;rw[hx] at h
   cases h
end
section
def Ie {L:aH9} {nm:aG9} (h:0<=dU L nm): ∃x,L.find? (fun y=>decide (cT y=nm))=some x:=by
 cases hx:L.find? (fun y=>decide (cT y=nm)) with
 |some x=>exact⟨x,rfl⟩
 |none=>have:=(Id L nm).2 hx;omega
def amd {L:aH9} (a1:lV L) {b:bQ} (O:b∈L) (ae:c2 b≠[]):0<=dU L (c2 b):=by obtain⟨k,Z,rfl⟩:=ay5 O;exact(a1.BJ k _ (as0 Z) (by simpa using ae)).1
def ame {b:bQ} (h:hJ b=true):16<=fc (c6 b)/\fc (c6 b)<=128:=by obtain⟨E,G,_,_⟩:=Es h;exact Vx E G
def amf {b:bQ} (h:hJ b=true): ∀p,p∈cI b->0<=fK p/\fK p < eK b/\((kf p).length:Int)=fc (c6 b):=fun p ae=>by
 simp only[hJ,as1] at h;have:=NE _ _ _ _ h.1.2 p ae;omega
end
section
def amg {α:Type} (p:α->Bool) {L:List α} {q k:Nat} (aQ:lD p L=q) (a8:q≠k):lD p (L.eraseIdx k)=((if q < k then q else q - 1:Nat):Int):=by
 rcases vV p L with⟨h,_⟩ |⟨j,x,h,hx,ae,bv⟩
 .omega
 .obtain rfl:j=q:=aD9
  have aU: ∀i:Nat,(L.eraseIdx k)[i]? =if i < k then L[i]? else L[i+1]? :=fun i=>aC0 ..
  have dY:(L.eraseIdx k)[if j < k then j else j - 1]? =some x:=by
   rw[aU]
   by_cases E:j < k
   .rw[vj E,vj E];exact hx
   .rw[mu E,mu aD1,show j - 1+1=j by omega];exact hx
  have Kv:=(at0.1 dY).1;refine Vu Kv (fun i b aE O=>?_) (by rw[(at0.1 dY).2];exact ae);rw[aU] at O
  by_cases E:j < k
  .rw[vj E] at aE;rw[vj aD1] at O;exact bv i b aE O
  .rw[mu E] at aE
   split at O
   .exact bv i b aD1 O
   .exact bv (i+1) b aD1 O
def V0 {L:aH9} {nm:aG9} (h:xz L nm=false) {b:bQ} (O:b∈L):c2 b≠nm:=fun e=>by
 obtain⟨i,aE,rfl⟩:=ay5 O;rcases vV (fun b=>decide (c2 b=nm)) L with⟨_,hn⟩ |⟨k,x,G,_⟩
 .have:=hn i _ (as0 aE);simp[e] at this
 .have:xz L nm=true:=by unfold xz;rw[G];simp
  rw[h] at this
  cases this
def V1 {L:aH9} {nm:aG9} (h:si L nm=0):0<=dU L nm/\xz L nm=false:=by
 unfold si at h
 split at h
 .cases h
 split at h
 .cases h
 .rename_i E G;exact⟨aD1,by simpa using G⟩
def V2 {L:aH9} (a1:lV L) (nm:aG9):lV (q5 L nm):=by
 unfold q5
 split
 .rename_i a2;obtain⟨E,G⟩:=V1 a2;obtain⟨k,Z⟩: ∃k:Nat,dU L nm=k:=⟨(dU L nm).toNat,aD1⟩;rw[Z,az0];refine⟨az4 (List.length_eraseIdx_le _ _) a1.len,fun b O=>a1.right b (List.mem_of_mem_eraseIdx O),fun ea b O ae=>?_⟩;have amh:b∈L:=List.mem_of_mem_eraseIdx (ax6 O);have a8:=V0 G amh;rw[aC0] at O
  obtain⟨j,V,j5⟩: ∃j,L[j]? =some b/\((ea < k/\j=ea)\/(k<=ea/\j=ea+1)):=by
   split at O
   .exact⟨ea,O,.inl ⟨aD1,rfl⟩⟩
   .exact⟨ea+1,O,.inr ⟨aD1,rfl⟩⟩
  obtain⟨c1,cy⟩:=a1.BJ j b V ae;obtain⟨q,aQ⟩: ∃q:Nat,dU L (c2 b)=q:=⟨(dU L (c2 b)).toNat,aD1⟩
  have ami:q≠k:=fun e=>by
   subst e;have b4:=BK L (c2 b);have cf:=BK L nm;rw[aQ] at b4;rw[Z] at cf;obtain⟨x,hx⟩:=Ie (L:=L) (nm:=nm) aD1;rw[hx] at cf;rw[cf] at b4;have b1:=List.find?_some hx;have b2:=List.find?_some b4.symm;simp only[av6] at b1 b2;exact a8 (b2.symm.trans b1)
  have U:dU (L.eraseIdx k) (c2 b)=((if q < k then q else q - 1:Nat):Int):=amg _ aQ ami;rw[U]
  split <;>omega
 .exact a1
end
section
def tm (n k:Nat):UInt8:=UInt8.ofNat (n/256 ^k % 256)
def ez (n:Nat):Nat->aG9
 |0=>[]
 |k+1=>tm n k::ez n k
def q6 (n:Nat): ∀k,(ez n k).length=k
 |0=>rfl
 |k+1=>by simp[ez,q6 n k]
def V3 (n:Nat): ∀(k i:Nat),i < k->(ez n k)[i]? =some (tm n (k - 1 - i))
 |0,i,h=>by omega
 |k+1,0,h=>by simp[ez]
 |k+1,i+1,h=>by
  simp only[ez,aC5];rw[V3 n k i aD1]
  congr 2
  omega
def V4 (m k:Nat):UInt8.ofNat (((m:Nat):Int)/((2 ^(8*k):Nat):Int) % 256).toNat=tm m k:=by
 unfold tm;have h:(2:Nat) ^(8*k)=256 ^k:=by rw[Nat.pow_mul]
 rw[h]
 congr 1
abbrev W (w:Nat):Prop:=w=1\/w=2\/w=4
def NS (w:Nat) (hw:W w):Fn prog 91 [ab (w:Nat)] [] [] (fX true) []:=by
 refine aY [] func91 ?_;refine⟨fun h=>?_,fun E=>?_⟩
 .exact bh
 refine⟨fun h=>?_,fun G=>?_⟩
 .exact bh
 refine⟨fun h=>?_,fun ah=>?_⟩
 .exact bh
 have E: ¬((w:Nat):Int)=1:=oj E;have G: ¬((w:Nat):Int)=2:=oj G;have ah: ¬((w:Nat):Int)=4:=oj ah;unfold W at hw;omega
def V5 (n w:Nat) (hw:W w) (hn:n < 256 ^w):Fn prog 92 [ab (n:Nat),ab (w:Nat)] [] [] (fX true) []:=by
 have ae:(2 ^(8*((w:Nat):Int)).toNat:Nat)=256 ^w/\256 ^w<=4294967296:=by
  rcases hw with rfl |rfl |rfl <;>decide
 refine aY [] func92 ?_;refine⟨fun h=>?_,fun E=>?_⟩
 .have h:((w:Nat):Int)=8:=gd h;unfold W at hw;omega
 refine⟨fun h=>?_,fun h=>as3 (show¬(0:Int)<=((n:Nat):Int) from oj h) aD1⟩;have nM:w<=4:=by unfold W at hw;omega
 refine⟨aD1,⟨aD1,aD1,aD1⟩,?_,?_⟩
 .rw[ae.1];omega
 refine⟨_,_,_,bt,rfl,at4 ?_,trivial,rfl⟩;show((n:Nat):Int) < 1*((2 ^(8*((w:Nat):Int)).toNat:Nat):Int);rw[ae.1];omega
def eV (w:Nat) (l:aH0):aG9:=l.flatMap fun n=>ez n w
def nY (w:Nat) (l:aH0):(eV w l).length=l.length*w:=by
 induction l with
 |nil=>simp[eV]
 |cons n l bn=>
  simp only[eV,aB5,as4,aw4,q6] at bn⊢;rw[bn,az3];omega
def V6 (w:Nat) {l:aH0} {k:Nat} (h:k < l.length):eV w (l.take (k+1))=eV w (l.take k)++ez l[k] w:=by unfold eV;rw[<-vW h,List.flatMap_append];simp
def tn (l:aH0):List Int:=l.map Int.ofNat
abbrev vY (l:aH0):List (aa oU):=tn l
abbrev V7 (l:aH0) (w r k:Nat):aZ:=[(0,eC r),(1,ab (w:Nat)),(2,bP oU (vY l)),(17,bP oU (vY l)),(18,ab (l.length:Nat)),(19,ab (k:Nat))]
abbrev V8 (l:aH0) (w r k:Nat):aZ:=[(0,eC r),(1,ab (w:Nat)),(29,bP oU (vY l)),(30,ab (l.length:Nat)),(31,ab (k:Nat))]
abbrev If (l:aH0) (w r k n i:Nat):aZ:=[(0,eC r),(1,ab (w:Nat)),(11,ab (n:Nat)),(29,bP oU (vY l)),(30,ab (l.length:Nat)),(31,ab (k:Nat)),(35,ab (w:Nat)),(36,ab (i:Nat))]
abbrev qh (r:Nat) (l:aG9):aA:=[(r,.row 5 .u8 l)]
def Ig {l:aH0} {k:Nat} (h:k < l.length):fd (vY l) k=some ((l[k]:Nat):Int):=by show(tn l)[k]? =some _;unfold tn;rw[au8,as0 h];rfl
def V9 (xs ys:aG9) (n i:Nat) (w:Nat) (aE:i < w):(xs++(ez n w).take i)++[tm n (w - 1 - i)]=xs++(ez n w).take (i+1):=by
 have ak:=q6 n w;rw[aw1,<-vW (by omega:i < (ez n w).length)]
 congr 2
 have:=V3 n w i aE;rw[as0 aD1] at this;injection this with this
 rw[this]
def zl (xs:aG9) (w:Nat) (l:aH0) (hw:W w) (hf: ∀n,n∈l->n < 256 ^w) (ak:l.length<=1000) (hx:xs.length<=1000000000):
  Fn prog 48 [eC 1001,ab (w:Nat),bP oU (vY l)] (qh 1001 xs) [1002] (.cn [.one (.own 1002),.one (.d (.bool true))]) (qh 1002 (xs++eV w l)):=by
 have nM:w<=4:=by unfold W at hw;omega
 have uu:List.length (vY l)=l.length:=show(tn l).length=_ by unfold tn;exact at8 _
 refine aY [] func48 ?_;refine ar (NS w hw) <| dE <| d1 [] (X:=Nat) (V7 l w 2001) (fun _=>qh 2001 xs) (fun k=>k<=l.length) (fun k=>l.length - k) 0 (at2 _) ?_ ?_
 .exact ac.trans (ac.aX 1001 2001 rfl) (ac.sub ⟨rfl,rfl,rfl,rfl,as5 Int.ofNat uu,rfl,trivial⟩ aD)
 intro k Z;refine⟨fun h=>?_,fun h=>?_⟩
 .have cu:k < l.length:=aE0
  exact⟨aD1,((l[k]:Nat):Int),Ig cu,ar (V5 l[k] w hw (hf _ (av2 cu))) <| dE ⟨aD1,k+1,cu,aD1,ac.sub aD aD⟩⟩
 clear h Z;refine d1 [] (X:=Nat) (V8 l w 2001) (fun k=>qh 2001 (xs++eV w (l.take k))) (fun k=>k<=l.length) (fun k=>l.length - k) 0 (at2 _) ?_ ?_
 .exact ac.sub ⟨rfl,rfl,rfl,as5 Int.ofNat uu,rfl,trivial⟩ ⟨as5 (fun l=>some (ba.row _ .u8 l)) (av8 xs).symm,trivial⟩
 intro k Z;refine⟨fun h=>?_,fun h=>?_⟩
 .have cu:k < l.length:=aE0
  have au:=V6 w cu;have hn:=hf _ (av2 cu);have bX:=nY w (l.take k);have Qk:(l.take k).length*w<=1000*4:=ax9 aE8 nM;refine⟨aD1,((l[k]:Nat):Int),Ig cu,?_⟩;generalize l[k]=n at*;generalize eV w (l.take k)=ys at*;have amj:n < 4294967296:=au2 hn (by rcases hw with rfl |rfl |rfl <;>decide);refine d1 [] (X:=Nat) (If l w 2001 k n) (fun i=>qh 2001 ((xs++ys)++(ez n w).take i)) (fun i=>i<=w) (fun i=>w - i) 0 (at2 _) ?_ ?_
  .exact ac.sub aD ⟨as5 (fun l=>some (ba.row _ .u8 l)) (av8 (xs++ys)).symm,trivial⟩
  intro i aE;refine⟨fun h=>?_,fun h=>?_⟩
  .have ec:i < w:=by
    have h:(i:Int) < (w:Int):=gd h;omega
   have af:(8*((w:Int) - 1 - (i:Int))).toNat=8*(w - 1 - i):=aD9
   have m1: -9223372036854775808<=(w:Int) - 1/\(w:Int) - 1<=9223372036854775807:=aD9
   have m2: -9223372036854775808<=(w:Int) - 1 - (i:Int)/\(w:Int) - 1 - (i:Int)<=9223372036854775807:=aD9
   have m3: -9223372036854775808<=8*((w:Int) - 1 - (i:Int))/\8*((w:Int) - 1 - (i:Int))<=9223372036854775807:=aD9
   have jM:0<=(n:Int)/\0<=8*((w:Int) - 1 - (i:Int))/\8*((w:Int) - 1 - (i:Int))<=64:=aD9
   refine⟨m1,m2,m3,jM,⟨Int.emod_nonneg _ aD2,Int.emod_lt_of_pos _ aD2⟩,?_,rfl,?_⟩
   .show((xs++ys)++(ez n w).take i).length+1<=4294967296;rw[as4,as4,at3];omega
   refine⟨aD1,i+1,ec,aD1,ac.trans (ac.sub (K':=If l w 49 k n (i+1)) (B':=qh 49 ((xs++ys)++(ez n w).take (i+1))) aD ⟨as5 (fun l=>some (ba.row _ .u8 l)) ?_,trivial⟩) (ac.aX 49 2001 rfl)⟩;rw[<-V9 (xs++ys) [] n i w ec,<-V4,<-af];rfl
  .have ec:i=w:=by
    have h: ¬(i:Int) < (w:Int):=oj h;omega
   subst ec;refine⟨aD1,k+1,cu,aD1,ac.sub aD ⟨?_,trivial⟩⟩;rw[au,aw0 (by rw[q6];omega),aw1];rfl
 have cu:k=l.length:=by
     have: ¬k < l.length:=aE0
     omega
 subst cu;rw[au3];exact⟨_,_,_,ac.aX 2001 1002 rfl,rfl,aD,aD,rfl⟩
def Ih (w:Nat) (l:aH0) (hw:W w) (hf: ∀n,n∈l->n < 256 ^w) (ak:l.length<=1000):
  Fn prog 48 [k0 .dV,ab (w:Nat),bP oU (vY l)] [] [1002] (.cn [.one (.own 1002),.one (.d (.bool true))]) (qh 1002 (eV w l)):=by
 have nM:w<=4:=by unfold W at hw;omega
 have uu:List.length (vY l)=l.length:=show(tn l).length=_ by unfold tn;exact at8 _
 obtain⟨xs,pT⟩: ∃xs:aG9,xs=[]:=⟨_,rfl⟩;have hx:xs.length<=1000000000:=by rw[pT];decide
 rw[show eV w l=xs++eV w l by rw[pT];rfl];refine aY [] func48 ?_;refine ar (NS w hw) <| dE <| d1 [] (X:=Nat) (V7 l w 2001) (fun _=>qh 2001 xs) (fun k=>k<=l.length) (fun k=>l.length - k) 0 (at2 _) ?_ ?_
 .exact ac.trans (ac.nil 0 2001 5 .u8 rfl rfl) (ac.sub ⟨rfl,rfl,rfl,rfl,as5 Int.ofNat uu,rfl,trivial⟩ ⟨as5 (fun l=>some (ba.row _ .u8 l)) pT.symm,trivial⟩)
 intro k Z;refine⟨fun h=>?_,fun h=>?_⟩
 .have cu:k < l.length:=aE0
  exact⟨aD1,((l[k]:Nat):Int),Ig cu,ar (V5 l[k] w hw (hf _ (av2 cu))) <| dE ⟨aD1,k+1,cu,aD1,ac.sub aD aD⟩⟩
 clear h Z;refine d1 [] (X:=Nat) (V8 l w 2001) (fun k=>qh 2001 (xs++eV w (l.take k))) (fun k=>k<=l.length) (fun k=>l.length - k) 0 (at2 _) ?_ ?_
 .exact ac.sub ⟨rfl,rfl,rfl,as5 Int.ofNat uu,rfl,trivial⟩ ⟨as5 (fun l=>some (ba.row _ .u8 l)) (av8 xs).symm,trivial⟩
 intro k Z;refine⟨fun h=>?_,fun h=>?_⟩
 .have cu:k < l.length:=aE0
  have au:=V6 w cu;have hn:=hf _ (av2 cu);have bX:=nY w (l.take k);have Qk:(l.take k).length*w<=1000*4:=ax9 aE8 nM;refine⟨aD1,((l[k]:Nat):Int),Ig cu,?_⟩;generalize l[k]=n at*;generalize eV w (l.take k)=ys at*;have amj:n < 4294967296:=au2 hn (by rcases hw with rfl |rfl |rfl <;>decide);refine d1 [] (X:=Nat) (If l w 2001 k n) (fun i=>qh 2001 ((xs++ys)++(ez n w).take i)) (fun i=>i<=w) (fun i=>w - i) 0 (at2 _) ?_ ?_
  .exact ac.sub aD ⟨as5 (fun l=>some (ba.row _ .u8 l)) (av8 (xs++ys)).symm,trivial⟩
  intro i aE;refine⟨fun h=>?_,fun h=>?_⟩
  .have ec:i < w:=by
    have h:(i:Int) < (w:Int):=gd h;omega
   have af:(8*((w:Int) - 1 - (i:Int))).toNat=8*(w - 1 - i):=aD9
   have m1: -9223372036854775808<=(w:Int) - 1/\(w:Int) - 1<=9223372036854775807:=aD9
   have m2: -9223372036854775808<=(w:Int) - 1 - (i:Int)/\(w:Int) - 1 - (i:Int)<=9223372036854775807:=aD9
   have m3: -9223372036854775808<=8*((w:Int) - 1 - (i:Int))/\8*((w:Int) - 1 - (i:Int))<=9223372036854775807:=aD9
   have jM:0<=(n:Int)/\0<=8*((w:Int) - 1 - (i:Int))/\8*((w:Int) - 1 - (i:Int))<=64:=aD9
   refine⟨m1,m2,m3,jM,⟨Int.emod_nonneg _ aD2,Int.emod_lt_of_pos _ aD2⟩,?_,rfl,?_⟩
   .show((xs++ys)++(ez n w).take i).length+1<=4294967296;rw[as4,as4,at3];omega
   refine⟨aD1,i+1,ec,aD1,ac.trans (ac.sub (K':=If l w 49 k n (i+1)) (B':=qh 49 ((xs++ys)++(ez n w).take (i+1))) aD ⟨as5 (fun l=>some (ba.row _ .u8 l)) ?_,trivial⟩) (ac.aX 49 2001 rfl)⟩;rw[<-V9 (xs++ys) [] n i w ec,<-V4,<-af];rfl
  .have ec:i=w:=by
    have h: ¬(i:Int) < (w:Int):=oj h;omega
   subst ec;refine⟨aD1,k+1,cu,aD1,ac.sub aD ⟨?_,trivial⟩⟩;rw[au,aw0 (by rw[q6];omega),aw1];rfl
 have cu:k=l.length:=by
     have: ¬k < l.length:=aE0
     omega
 subst cu;rw[au3];exact⟨_,_,_,ac.aX 2001 1002 rfl,rfl,aD,aD,rfl⟩
end
section
def gW (s:aG9) (w:Nat):aG9:=ez s.length w++s
def zm (s:aG9) (w:Nat):(gW s w).length=w+s.length:=by unfold gW;rw[as4,q6]
def Ex (xs s:aG9) (w:Nat) (hw:W w) (au:s.length < 256 ^w) (ak:s.length<=1000000000) (hx:xs.length<=1000000000):
  Fn prog 49 [eC 1001,bW s,ab (w:Nat)] (qh 1001 xs) [1002] (.cn [.one (.own 1002),.one (.d (.bool true))]) (qh 1002 (xs++gW s w)):=by
 have nM:w<=4:=by unfold W at hw;omega
 have pE:=nY w [s.length];refine aY [] func49 ?_;refine ar (Fn.aX [(1002,2002)] (zl xs w [s.length] hw (fun n hn=>by simp only[at7] at hn;subst hn;exact au) aD3 hx)) <| dE ⟨?_,rfl,?_⟩
 .show(xs++eV w [s.length]).length+s.length<=4294967296;rw[as4,pE,List.length_singleton];omega
 refine⟨_,_,_,ac.aX 24 1002 rfl,rfl,aD,⟨as5 (fun l=>some (ba.row _ .u8 l)) ?_,trivial⟩,rfl⟩;show(xs++eV w [s.length])++s=xs++gW s w;unfold eV gW;simp
end
section
def lk (p:jz):aG9:=ez (fK p).toNat 2++gW (kf p) 2
def kS (b:bQ):aG9:=gW (cT b) 1++gW (c2 b) 1++ez (c6 b).toNat 1++ez (eK b).toNat 2++ez (cI b).length 2++(cI b).flatMap lk
def jQ (L:aH9):aG9:=ez L.length 1++L.flatMap kS
structure vZ (b:bQ):Prop where
 nm:(cT b).length<=255
 pa:(c2 b).length<=255
 bits:0<=c6 b/\c6 b<=255
 aR:0<=eK b/\eK b<=65535
 V':(cI b).length<=256
 Wa: ∀p,p∈cI b->0<=fK p/\fK p<=65535/\(kf p).length<=128
def Wb {b:bQ} (h:vZ b) {p:jz} (ae:p∈cI b):(lk p).length<=132:=by have:=h.Wa p ae;unfold lk;rw[as4,q6,zm];omega
def zn {α:Type} (f:α->aG9) (n:Nat): ∀(l:List α),(∀x,x∈l->(f x).length<=n)->(l.flatMap f).length<=l.length*n
 | [],_=>by simp
 |x::l,h=>by
  have E:=h x at6;have G:=zn f n l fun y aC=>h y (as6 _ aC)
  simp only[aB5,as4,aw4,az3];omega
def Wc {b:bQ} (h:vZ b):(kS b).length<=35000:=by
 have E:=zn lk 132 (cI b) fun p ae=>Wb h ae
 have G:(cI b).length*132<=256*132:=ax5 _ h.V';have:=h.nm;have:=h.pa;unfold kS;simp only[as4,q6,zm];omega
def NT {α:Type} (f:α->aG9) {l:List α} {k:Nat} (h:k < l.length):(l.take (k+1)).flatMap f=(l.take k).flatMap f++f l[k]:=by rw[<-vW h,List.flatMap_append];simp
def Ey {x:Int} (h:0<=x):([x]:aI2)=tn [x.toNat]:=by show[x]=[((x.toNat:Nat):Int)];rw[show((x.toNat:Nat):Int)=x by omega]
abbrev Wd (L:aH9) (r k:Nat):aZ:=[(3,eC r),(22,eC 1002),(23,ab (L.length:Nat)),(24,ab (k:Nat))]
abbrev Ez (L:aH9) (r:Nat) (l:aG9):aA:=(r,.row 5 .u8 l)::li L
abbrev NU (L:aH9) (b:bQ) (r k j:Nat):aZ:=[(3,eC r),(22,eC 1002),(23,ab (L.length:Nat)),(24,ab (k:Nat)),(62,bP oQ (cI b)),(63,ab ((cI b).length:Nat)),(64,ab (j:Nat))]
def We (L:aH9) (cO:L.length<=255) (hw: ∀b,b∈L->vZ b):Fn prog 21 [ap 1001] (li L) [] (bP .u8 (jQ L)) (li L):=by
 refine aY [] func21 ?_;refine ar (Fn.aX [(1002,2002)] (Ih 1 [L.length] (.inl rfl) (fun n hn=>by simp only[at7] at hn;omega) aD3)) <| d1 [] (X:=Nat) (Wd L 2001) (fun k=>Ez L 2001 (ez L.length 1++(L.take k).flatMap kS)) (fun k=>k<=L.length) (fun k=>L.length - k) 0 (at2 _) ?_ ?_
 .exact ac.trans (cM (Wd L 2002 0) (Ez L 2002 (ez L.length 1++(L.take 0).flatMap kS))) (ac.aX 2002 2001 rfl)
 intro k Z
 have LX:((L.take k).flatMap kS).length<=255*35000:=by
  refine az4 (zn kS 35000 _ fun b O=>Wc (hw b (List.mem_of_mem_take O))) (ax5 _ ?_);rw[at3];omega
 refine⟨fun h=>?_,fun h=>?_⟩
 .have cu:k < L.length:=aE0
  have au:=NT kS cu;have O:=hw _ (av2 cu);refine⟨⟨aD1,aD1⟩,L[k],qf rfl cu,rfl,?_⟩;generalize L[k]=b at*;have E:=O.nm;have G:=O.pa;have ah:=O.bits;have aW:=O.aR;have bM:=O.V';have pA:=q6 L.length 1;generalize dX:ez L.length 1++(L.take k).flatMap kS=A at*;have arZ:A.length<=9000000:=by rw[<-dX,as4,pA];omega
  refine ar (Fn.aX [(1001,2001),(1002,2002)] (Ex A (cT b) 1 (.inl rfl) aD1 aD1 aD1)) ?_;have jn:=zm (cT b) 1;refine ar (Fn.aX [(1001,2002),(1002,2003)] (Ex (A++gW (cT b) 1) (c2 b) 1 (.inl rfl) aD1 aD1 (by rw[as4,jn];omega))) ?_;have g':=zm (c2 b) 1;refine ar (Fn.arg (Fn.aX [(1001,2003),(1002,2004)] (zl (A++gW (cT b) 1++gW (c2 b) 1) 1 [(c6 b).toNat] (.inl rfl) (fun n hn=>by simp only[at7] at hn;omega) aD3 (by rw[as4,as4,jn,g'];omega))) ⟨rfl,rfl,Ey ah.1,trivial⟩) ?_;have pW:=nY 1 [(c6 b).toNat]
  have ao:([eK b,((cI b).length:Int)]:List Int)=tn [(eK b).toNat,(cI b).length]:=by
   show _=[(((eK b).toNat:Nat):Int),(((cI b).length:Nat):Int)];rw[show(((eK b).toNat:Nat):Int)=eK b by omega]
  refine⟨_,_,_,_,Fn.arg (Fn.aX [(1001,2004),(1002,2005)] (zl (A++gW (cT b) 1++gW (c2 b) 1++eV 1 [(c6 b).toNat]) 2 [(eK b).toNat,(cI b).length] (.inr (.inl rfl)) (fun n hn=>by
   simp only[as8,List.not_mem_nil,or_false] at hn;rcases hn with rfl |rfl <;>omega) aD3 (by rw[as4,as4,as4,jn,g',pW];simp;omega))) ⟨rfl,rfl,ao,trivial⟩,aD,rfl,?_⟩
  have vh:=nY 2 [(eK b).toNat,(cI b).length]
  have a2:A++gW (cT b) 1++gW (c2 b) 1++eV 1 [(c6 b).toNat]++eV 2 [(eK b).toNat,(cI b).length]++(cI b).flatMap lk=A++kS b:=by
   unfold kS eV;simp[aw1]
  have ar0:(A++gW (cT b) 1++gW (c2 b) 1++eV 1 [(c6 b).toNat]++eV 2 [(eK b).toNat,(cI b).length]).length<=9100000:=by
   rw[as4,as4,as4,as4,jn,g',pW,vh];simp;omega
  generalize A++gW (cT b) 1++gW (c2 b) 1++eV 1 [(c6 b).toNat]++eV 2 [(eK b).toNat,(cI b).length]=BL at*;refine d1 [] (X:=Nat) (NU L b 2001 k) (fun j=>Ez L 2001 (BL++((cI b).take j).flatMap lk)) (fun j=>j<=(cI b).length) (fun j=>(cI b).length - j) 0 (at2 _) ?_ ?_
  .exact ac.trans (ac.sub (K':=NU L b 2005 k 0) (B':=Ez L 2005 (BL++((cI b).take 0).flatMap lk)) aD ⟨as5 (fun l=>some (ba.row _ .u8 l)) (av8 BL).symm,rfl,rfl,trivial⟩) (ac.aX 2005 2001 rfl)
  intro j V;refine⟨fun h=>?_,fun h=>?_⟩
  .have eR:j < (cI b).length:=aE0
   have gc:=NT lk eR;obtain⟨c1,cy,c5⟩:=O.Wa _ (av2 eR)
   have hz:(((cI b).take j).flatMap lk).length<=256*132:=by
    refine az4 (zn lk 132 _ fun p ae=>Wb O (List.mem_of_mem_take ae)) (ax5 _ ?_);rw[at3];omega
   refine⟨aD1,(cI b)[j],qf rfl eR,rfl,?_⟩;generalize(cI b)[j]=p at*;generalize((cI b).take j).flatMap lk=Wf at*;refine ar (Fn.arg (Fn.aX [(1001,2001),(1002,2002)] (zl (BL++Wf) 2 [(fK p).toNat] (.inr (.inl rfl)) (fun n hn=>by simp only[at7] at hn;omega) aD3 (by rw[as4];omega))) ⟨rfl,rfl,Ey c1,trivial⟩) ?_;have amk:=nY 2 [(fK p).toNat];refine ar (Fn.aX [(1001,2002),(1002,2003)] (Ex (BL++Wf++eV 2 [(fK p).toNat]) (kf p) 2 (.inr (.inl rfl)) aD1 aD1 (by rw[as4,as4,amk];simp;omega))) ⟨aD1,j+1,eR,aD1,ac.trans (ac.sub (K':=NU L b 2003 k (j+1)) (B':=Ez L 2003 (BL++((cI b).take (j+1)).flatMap lk)) aD ⟨?_,rfl,rfl,trivial⟩) (ac.aX 2003 2001 rfl)⟩;rw[gc];refine as5 (fun l=>some (ba.row _ .u8 l)) ?_;unfold lk eV;simp[aw1];rfl
  .have eR:j=(cI b).length:=by
      have: ¬j < (cI b).length:=aE0
      omega
   subst eR;rw[au3];refine⟨aD1,k+1,cu,aD1,ac.sub aD ⟨?_,rfl,rfl,trivial⟩⟩;rw[au,<-aw1,dX,a2];rfl
 .have cu:k=L.length:=by
     have: ¬k < L.length:=aE0
     omega
  subst cu;exact⟨_,_,_,ac.eb 2001 rfl,rfl,(show ez L.length 1++(L.take L.length).flatMap kS=jQ L by rw[au3];rfl),aD,rfl⟩
end
section
end
section
abbrev fV:Type:=aG9×Int
def mN (n:Nat) (st:fV):aG9:=if st.2≠0\/st.1.length < n then[] else st.1.take n
def nZ (n:Nat) (st:fV):fV:=if st.2≠0 then st else if st.1.length < n then(st.1,10) else(st.1.drop n,0)
def oV (l:aG9):Nat:=l.foldl (fun a c=>a*256+c.toNat) 0
def NV (l:aG9) (c:aJ8):oV (l++[c])=oV l*256+c.toNat:=by simp[oV,aC2]
def NW (l:aG9):oV l < 256 ^l.length:=by
 have: ∀(l:aG9),oV l.reverse < 256 ^l.length:=fun l=>by
  induction l with
  |nil=>simp[oV]
  |cons c l bn=>
   rw[List.reverse_cons,NV,aw4,Nat.pow_succ];have:=c.toNat_lt;omega
 have h:=this l.reverse;simpa using h
def Wg (n:Nat) (st:fV):(mN n st).length<=n:=by
 unfold mN
 split
 .simp
 .rw[at3];omega
def fP (w:Nat) (st:fV):fV×Nat:=(nZ w st,oV (mN w st))
def q7 (w:Nat) (st:fV):fV×aG9:=(nZ (fP w st).2 (fP w st).1,mN (fP w st).2 (fP w st).1)
abbrev lE (st:fV):aA:=[(1001,.cells [.d (.bG .u8 st.1),.d (.int .i64 st.2)])]
def Ii (b:aG9) (O:b.length<=4294967296):Fn prog 130 [bP .u8 b] [] [1001] (ap 1001) (lE (b,0)):=by
 refine aY [] func130 ?_;refine⟨rfl,?_,rfl,?_⟩
 .show 0+b.length<=4294967296;omega
 exact⟨rfl,_,_,_,ac.trans (ac.eb 5 rfl) (ac.aX 7 1001 rfl),rfl,rfl,aD,rfl⟩
def aml (s:aG9) (e k:Int):Fn prog 214 [ab k,ap 1002] [(1001,.cells [.d (.bG .u8 s),.d (.int .i64 e)]),(1002,.cells [.ptr 1001 0])] [] (bP .u8 []) [(1001,.cells [.d (.bG .u8 s),.d (.int .i64 (if e=0 then k else e))]),(1002,.cells [.ptr 1001 0])]:=by
 refine aY [] func214 ?_;refine⟨fun h=>?_,fun h=>?_⟩
 .rw[vj (show e=0 from gd h)];exact bh
 .rw[mu (show¬e=0 from oj h)];exact bh
def Wh (st:fV) (n:Nat):Fn prog 180 [ap 1001,ab (n:Nat),fX false] (lE st) [] (bP .u8 (mN n st)) (lE (nZ n st)):=by
 obtain⟨s,e⟩:=st;refine aY [] func180 ?_;refine⟨rfl,fun h=>?_,fun E=>?_⟩
 .have h:(!decide (e=0))=true:=h;have U: ¬e=0:=aE0
  have hx:mN n (s,e)=[]:=by unfold mN;rw[vj (.inl U)]
  have au:nZ n (s,e)=(s,e):=by unfold nZ;rw[vj U]
  rw[hx,au];exact bh
 have E:(!decide (e=0))=false:=E;have U:e=0:=aG2
 subst U;refine dE ⟨fun h=>?_,fun h=>?_⟩
 .have h:(s.length:Int) < (n:Int):=gd h;have hx:mN n (s,0)=[]:=by unfold mN;rw[vj (.inr (by show s.length < n;omega))]
  have au:nZ n (s,0)=(s,10):=by unfold nZ;rw[mu aD3,vj (by show s.length < n;omega)]
  rw[hx,au];exact ar (Fn.aX [(1002,3)] (aml s 0 10)) bh
 .have h: ¬(s.length:Int) < (n:Int):=oj h
  have hx:mN n (s,0)=s.take n:=by
   unfold mN;rw[mu aE3]
  have au:nZ n (s,0)=(s.drop n,0):=by unfold nZ;rw[mu aD3,mu (by show¬s.length < n;omega)]
  rw[hx,au];have m1:0<=(n:Int)/\(n:Int)<=(s.length:Int):=aD9
  refine⟨m1,m1,rfl,_,_,_,bt,rfl,rfl,⟨as5 (fun l:aG9=>some (ba.cells [bE.d (D.bG bB.u8 l),bE.d (D.int IntKind.i64 0)])) ?_,trivial⟩,rfl⟩;show(List.take s.length s).drop ((n:Int)).toNat=s.drop n;rw[au3];rfl
def amm (a:Nat) (c:aJ8):(a*256) ||| c.toNat=a*256+c.toNat:=by have h:c.toNat < 2 ^8:=c.toNat_lt;have:=Nat.shiftLeft_add_eq_or_of_lt h a;rw[Nat.shiftLeft_eq] at this;exact this.symm
def pF (st:fV) (w:Nat) (hw:W w):Fn prog 131 [ap 1001,ab (w:Nat)] (lE st) [] (ab ((fP w st).2:Nat)) (lE (fP w st).1):=by
 have nM:w<=4:=by unfold W at hw;omega
 have ak:=Wg w st;have cm:=Wh st w;show Fn _ _ _ _ _ (ab ((oV (mN w st):Nat):Int)) (lE (nZ w st));generalize mN w st=x at*;generalize nZ w st=amn at*;have ar1:oV x < 4294967296:=au2 (NW x) (az4 (aB1 aD2 (show x.length<=4 by omega)) aD2);refine aY [] func131 ?_;refine ar (NS w hw) <| ar cm ⟨fun h=>as3 (show(x.length:Int)=8 from gd h) aD1,fun _=>d1 [] (X:=Nat) (fun i=>[(5,ab ((oV (x.take i):Nat):Int)),(27,bP .u8 x),(28,ab (x.length:Nat)),(29,ab (i:Nat))]) (fun _=>lE amn) (fun i=>i<=x.length) (fun i=>x.length - i) 0 (at2 _) ?_ ?_⟩
 .exact ac.sub aD aD
 intro i aE;refine⟨fun h=>?_,fun h=>?_⟩
 .have ec:i < x.length:=by
   have h:(i:Int) < (x.length:Int):=gd h;omega
  have au:oV (x.take (i+1))=oV (x.take i)*256+(x[i]).toNat:=by rw[<-vW ec,NV]
  have fk:=NW (x.take i);have y7:256 ^(x.take i).length<=256 ^3:=aB1 aD2 aE8;have J:=(x[i]).toNat_lt;refine⟨aD1,x[i],qf rfl ec,?_⟩;generalize x[i]=c at*;generalize oV (x.take i)=a at*;have amo:=amm a c
  have af:((a:Int)*((2 ^(8:Int).toNat:Nat):Int)).toNat=a*256:=by
   show((a:Int)*256).toNat=_;omega
  have m1:0<=(a:Int)/\(0:Int)<=8/\(8:Int)<=64:=aD9
  have m2: -9223372036854775808<=(a:Int)*((2 ^(8:Int).toNat:Nat):Int)/\(a:Int)*((2 ^(8:Int).toNat:Nat):Int)<=9223372036854775807:=by
   show -9223372036854775808<=(a:Int)*256/\(a:Int)*256<=9223372036854775807;omega
  have m3: -9223372036854775808<=(c.toNat:Int)/\(c.toNat:Int)<=9223372036854775807:=aD9
  have jM:0<=(a:Int)*((2 ^(8:Int).toNat:Nat):Int)/\(a:Int)*((2 ^(8:Int).toNat:Nat):Int)<=9223372036854775807/\0<=(c.toNat:Int)/\(c.toNat:Int)<=9223372036854775807:=by
   show 0<=(a:Int)*256/\(a:Int)*256<=9223372036854775807/\_;omega
  refine⟨m1,m2,m3,jM,aD1,i+1,ec,aD1,ac.sub ⟨?_,rfl,rfl,rfl,trivial⟩ aD⟩;show(((((a:Int)*((2 ^(8:Int).toNat:Nat):Int)).toNat ||| ((c.toNat:Int)).toNat:Nat)):Int)=((oV (x.take (i+1)):Nat):Int);rw[au,af,az0,amo]
 .have ec:i=x.length:=by
   have h: ¬(i:Int) < (x.length:Int):=oj h;omega
  subst ec;exact eN bt rfl (show((oV (x.take x.length):Nat):Int)=_ by rw[au3])
def EA (st:fV) (w:Nat) (hw:W w):Fn prog 132 [ap 1001,ab (w:Nat)] (lE st) [] (bW (q7 w st).2) (lE (q7 w st).1):=by have E:=pF st w hw;have G:=Wh (fP w st).1 (fP w st).2;show Fn _ _ _ _ _ (bW (mN (fP w st).2 (fP w st).1)) (lE (nZ (fP w st).2 (fP w st).1));generalize(fP w st).2=n at*;generalize(fP w st).1=Wi at*;generalize mN n Wi=x at*;generalize nZ n Wi=ar2 at*;refine aY [] func132 ?_;exact ar E <| ar (Fn.arg G aD) bh
def Wj (st:fV):Fn prog 138 [ap 1001] (lE st) [] (ab st.2) (lE st):=by refine aY [] func138 ?_;exact bh
def q8 (st:fV):Int:=if st.2=0/\0 < st.1.length then 11 else st.2
def NX (st:fV):Fn prog 134 [ap 1001] (lE st) [] (ab (q8 st)) (lE st):=by
 obtain⟨s,e⟩:=st;refine aY [] func134 ?_;refine⟨fun h=>?_,fun h=>?_⟩
 .have U:e=0:=gd h;refine⟨fun h=>?_,fun h=>?_⟩
  .have h:(0:Int) < (s.length:Int):=gd h;have:q8 (s,e)=11:=by unfold q8;rw[vj ⟨U,by show 0 < s.length;omega⟩]
   rw[this];exact bh
  .have h: ¬(0:Int) < (s.length:Int):=oj h;have:q8 (s,e)=e:=by unfold q8;rw[mu (fun bd=>by have G:0 < s.length:=bd.2;omega)]
   rw[this];exact bh
 .have U: ¬e=0:=oj h;have:q8 (s,e)=e:=by unfold q8;rw[mu (fun bd=>U bd.1)]
  rw[this];exact bh
end
section
end
section
def Wk (n:Nat): ∀k,ez n (k+1)=ez (n/256) k++[tm n 0]
 |0=>rfl
 |k+1=>by
  show tm n (k+1)::ez n (k+1)=tm (n/256) k::ez (n/256) k++[tm n 0];rw[Wk n k,List.cons_append]
  congr 1
  unfold tm;rw[Nat.div_div_eq_div_mul,Nat.pow_succ,aB2 256]
def amp (n:Nat): ∀k,n < 256 ^k->oV (ez n k)=n:=by
 intro k
 induction k generalizing n with
 |zero=>intro h;simp at h;subst h;rfl
 |succ k bn=>
  intro h;rw[Wk,NV,bn (n/256) (by rw[Nat.pow_succ] at h;omega)];unfold tm;rw[Nat.pow_zero,Nat.div_one,UInt8.toNat_ofNat'];omega
def Wl (x t:aG9):nZ x.length (x++t,0)=(t,0)/\mN x.length (x++t,0)=x:=by unfold nZ mN;rw[mu aD3,mu aD3,mu aD3];exact⟨aD3,aD3⟩
def pG {n w:Nat} (h:n < 256 ^w) (t:aG9):fP w (ez n w++t,0)=((t,0),n):=by have:=Wl (ez n w) t;rw[q6] at this;unfold fP;rw[this.1,this.2,amp n w h]
def EB {w:Nat} {x:aG9} (h:x.length < 256 ^w) (t:aG9):q7 w (gW x w++t,0)=((t,0),x):=by
 have E:fP w (gW x w++t,0)=((x++t,0),x.length):=by
  unfold gW;rw[aw1];exact pG h _
 have:=Wl x t;unfold q7;rw[E];simp only;rw[this.1,this.2]
def v1 (st:fV):fV×xy:=((q7 2 (fP 2 st).1).1,(((fP 2 st).2:Int),(q7 2 (fP 2 st).1).2))
def hr (st:fV):Nat->fV×List xy
 |0=>(st,[])
 |k+1=>((v1 (hr st k).1).1,(hr st k).2++[(v1 (hr st k).1).2])
def E (st:fV):=q7 1 st
def G (st:fV):=q7 1 (E st).1
def ah (st:fV):=fP 1 (G st).1
def aW (st:fV):=fP 2 (ah st).1
def bM (st:fV):=fP 2 (aW st).1
def Wm (st:fV) (l:List xy):nx:=((E st).2,(G st).2,((ah st).2:Int),((aW st).2:Int),l)
def kC (st:fV):fV×nx:=((hr (bM st).1 (bM st).2).1,Wm st (hr (bM st).1 (bM st).2).2)
def oW (mi:fV):Nat->Option (List nx×fV)
 |0=>some ([],mi)
 |k+1=>match oW mi k with
  |none=>none
  |some (l,st)=>if(kC st).1.2=0/\gF (l.map jP) (jP (kC st).2)=0 then some (l++[(kC st).2],(kC st).1) else none
def zo (s:aG9):Option (List nx):=match oW (fP 1 (s,0)).1 (fP 1 (s,0)).2 with
 |none=>none
 |some (l,st)=>if q8 st=0 then some l else none
def EC {L:aH9} (a1:lV L) {b:bQ} (O:b∈L):vZ b:=by
 have nm: ∀x,x∈L->(cT x).length<=15:=fun x hx=>by
  have:=a1.right x hx;simp only[hJ,hg,as1,av6] at this;omega
 have ax:=a1.right b O;obtain⟨b4,cf,a3,a4⟩:=Es ax;have a5:=ame ax;have gR:=VG ax;refine⟨by have:=nm b O;omega,?_,aD1,aD1,gR,fun p ae=>?_⟩
 .by_cases ae:c2 b=[]
  .rw[ae];decide
  .obtain⟨x,hx⟩:=Ie (amd a1 O ae);have E:=List.find?_some hx;simp only[av6] at E;have:=nm x (aC1 hx);rw[E] at this;omega
 .have:=amf ax p ae;omega
end
section
def Ij (n:Nat) (st:fV):(nZ n st).1.length<=st.1.length:=by
 unfold nZ
 split
 .exact as2 _
 .split
  .exact as2 _
  .rw[ax4];omega
def amq (n:Nat) (st:fV):(mN n st).length<=st.1.length:=by
 unfold mN
 split
 .simp
 .rw[at3];omega
def ED (w:Nat) (st:fV):(fP w st).1.1.length<=st.1.length:=Ij w st
def NY (w:Nat) (st:fV):(q7 w st).1.1.length<=st.1.length/\(q7 w st).2.length<=st.1.length:=
 ⟨az4 (Ij _ _) (Ij w st),az4 (amq _ _) (Ij w st)⟩
def Ik (w:Nat) (hw:w<=4) (st:fV):(fP w st).2 < 256 ^w:=
 au2 (NW _) (aB1 aD2 (Wg w st))
def Wn (st:fV):(v1 st).1.1.length<=st.1.length/\(Et (v1 st).2).length<=st.1.length:=by have a:=ED 2 st;have b:=NY 2 (fP 2 st).1;exact⟨az4 b.1 a,az4 b.2 a⟩
def Wo (st:fV): ∀k,(hr st k).1.1.length<=st.1.length/\(hr st k).2.length=k/\ ∀p,p∈(hr st k).2->(Et p).length<=st.1.length
 |0=>⟨as2 _,rfl,fun p ae=>by cases ae⟩
 |k+1=>by
  obtain⟨b4,cf,a3⟩:=Wo st k;obtain⟨b1,b2⟩:=Wn (hr st k).1;refine⟨az4 b1 b4,by show((hr st k).2++[_]).length=_;rw[as4,cf];rfl,fun p ae=>?_⟩;rcases au4.1 ae with ae |ae
  .exact a3 p ae
  .simp only[at7] at ae;subst ae;exact az4 b2 b4
def amr (st:fV):(E st).1.1.length<=st.1.length/\(G st).1.1.length<=st.1.length/\(ah st).1.1.length<=st.1.length/\(aW st).1.1.length<=st.1.length/\(bM st).1.1.length<=st.1.length/\(E st).2.length<=st.1.length/\(G st).2.length<=st.1.length:=by have a:=NY 1 st;have b:=NY 1 (E st).1;have c:=ED 1 (G st).1;have d:=ED 2 (ah st).1;have e:=ED 2 (aW st).1;have b4:(E st).1.1.length<=st.1.length:=a.1;have b1:(G st).1.1.length<=(E st).1.1.length:=b.1;have cD:(ah st).1.1.length<=(G st).1.1.length:=c;have hA:(aW st).1.1.length<=(ah st).1.1.length:=d;have af:(bM st).1.1.length<=(aW st).1.1.length:=e;refine⟨b4,aD1,aD1,aD1,aD1,a.2,?_⟩;have:(G st).2.length<=(E st).1.1.length:=b.2;omega
def ams {mi:fV} {k:Nat} (h:oW mi k=none): ∀{m:Nat},k<=m->oW mi m=none:=by
 intro m ay
 induction m with
 |zero=>
    obtain rfl:k=0:=aD9
    exact h
 |succ m bn=>
  rcases aA6 k (m+1) with E |E
  .unfold oW;rw[bn aD1]
  .obtain rfl:k=m+1:=aD9
   exact h
def amt {s:aG9} {k:Nat} (Z:k<=(fP 1 (s,0)).2) (h:oW (fP 1 (s,0)).1 k=none):zo s=none:=by unfold zo;rw[ams h Z]
def Wp {mi:fV} {k:Nat} {l:List nx} {st:fV} (h:oW mi k=some (l,st)) (bd: ¬((kC st).1.2=0/\gF (l.map jP) (jP (kC st).2)=0)):oW mi (k+1)=none:=by unfold oW;rw[h];exact mu bd
def Wq {mi:fV} {k:Nat} {l:List nx} {st:fV} (h:oW mi k=some (l,st)) (E:(kC st).1.2=0) (G:gF (l.map jP) (jP (kC st).2)=0):oW mi (k+1)=some (l++[(kC st).2],(kC st).1):=by
 conv=>lhs;unfold oW
 rw[h];exact vj ⟨E,G⟩
abbrev NZ (st:fV):Nat×ba:=(2001,.cells [.d (.bG .u8 st.1),.d (.int .i64 st.2)])
abbrev Wr (n k:Nat):aZ:=[(4,ap 1001),(5,ap 2001),(11,ab (n:Nat)),(12,ab (k:Nat))]
abbrev amu (l:List nx) (st:fV):aA:=NZ st::NI 1002 (l.map jP)
abbrev N0 (n k m j:Nat):aZ:=[(4,ap 1001),(5,ap 2001),(6,ap 6),(11,ab (n:Nat)),(12,ab (k:Nat)),(24,ab (m:Nat)),(25,ab (j:Nat))]
abbrev Ha (st:fV):List bE:=[.d (.str (E st).2),.d (.str (G st).2),.d (.int .i64 ((ah st).2:Nat)),.d (.int .i64 ((aW st).2:Nat))]
abbrev N1 (l:List nx) (mi st:fV) (r:Nat) (bI:List jz):aA:=(r,.row 96 oQ bI)::(6,.cells [.d (.str (E mi).2),.d (.str (G mi).2),.d (.int .i64 ((ah mi).2:Nat)),.d (.int .i64 ((aW mi).2:Nat)),.own r])::NZ st::NI 1002 (l.map jP)
def amv:aS:=.cn [.one (.bN (.pointer none)),.one (.d (.int .i64 180))]
def amw:aS:=.cn [.one (.ptr 1001 0),.one (.d (.int .i64 0))]
def Ws (s:aG9) (au:s.length<=100000000) (d:Option (List nx)) (H:zo s=d):
  match d with
  |some l=>Fn prog 84 [bP .u8 s] [] [1001,1002] amw (li (l.map jP))
  |none=>Fn prog 84 [bP .u8 s] [] [] amv []:=by
 cases d
 all_goals
  simp only;refine aY [10] func84 ?_;refine ar NA <| ar (Fn.aX [(1001,2001)] (Ii s aD1)) <| ar (Fn.aX [(1001,2001)] (pF (s,0) 1 (.inl rfl))) ?_;have nN:=ED 1 (s,0);have kI:=Ik 1 aD2 (s,0);have AP:=fun k h=>amt (s:=s) (k:=k) h
  have amx: ∀l st,oW (fP 1 (s,0)).1 (fP 1 (s,0)).2=some (l,st)->zo s=if q8 st=0 then some l else none:=fun l st h=>by unfold zo;rw[h]
  generalize(fP 1 (s,0)).2=n at*;generalize(fP 1 (s,0)).1=mi at*;have nN:mi.1.length<=100000000:=az4 nN au;have kI:n < 256:=by simpa using kI
  refine d1 [10] (X:=Nat×List nx×fV) (fun x=>Wr n x.1) (fun x=>amu x.2.1 x.2.2) (fun x=>x.1<=n/\oW mi x.1=some (x.2.1,x.2.2)/\x.2.2.1.length<=100000000/\(x.2.1.map jP).length<=64) (fun x=>n - x.1) (0,[],mi) ⟨at2 _,rfl,nN,aD3⟩ ?_ ?_
  .exact ac.sub aD aD
  rintro⟨k,l,st⟩ ⟨Z,jg,hN,nh⟩;simp only at Z jg hN nh;refine⟨fun h=>?_,fun h=>?_⟩
  .have cu:k < n:=by
    have h:(k:Int) < (n:Int):=gd h;omega
   obtain⟨b4,cf,a3,a4,a5,gR,zX⟩:=amr st;have ay:=Ik 2 aD2 (aW st).1;have ay:(bM st).2 < 65536:=ay;have hQ:=Ik 1 aD2 (G st).1;have ur:=Ik 2 aD2 (ah st).1;refine ar (Fn.aX [(1001,2001)] (EA st 1 (.inl rfl))) <| ar (Fn.aX [(1001,2001)] (EA (E st).1 1 (.inl rfl))) <| ar (Fn.aX [(1001,2001)] (pF (G st).1 1 (.inl rfl))) <| ar (Fn.aX [(1001,2001)] (pF (ah st).1 2 (.inr (.inl rfl)))) ⟨rfl,ar (Fn.aX [(1001,2001)] (pF (aW st).1 2 (.inr (.inl rfl)))) <| d1 [10] (X:=Nat) (fun j=>N0 n k (bM st).2 j) (fun j=>N1 l st (hr (bM st).1 j).1 2002 ((hr (bM st).1 j).2.map tl)) (fun j=>j<=(bM st).2) (fun j=>(bM st).2 - j) 0 (at2 _) ?_ ?_⟩
   .exact ac.trans (ac.wL 6 4 2002 96 oQ rfl rfl rfl) (ac.sub aD aD)
   intro j V;obtain⟨b1,b2,b3⟩:=Wo (bM st).1 j;refine⟨fun h=>?_,fun h=>?_⟩
   .have eR:j < (bM st).2:=by
     have h:(j:Int) < ((bM st).2:Int):=gd h;omega
    have bl:=Wn (hr (bM st).1 j).1;have vG:(hr (bM st).1 (j+1)).1=(v1 (hr (bM st).1 j).1).1:=rfl
    have amy:(hr (bM st).1 (j+1)).2.map tl=(hr (bM st).1 j).2.map tl++[tl (v1 (hr (bM st).1 j).1).2]:=by
     show((hr (bM st).1 j).2++[_]).map tl=_;rw[aw2];rfl
    have gb:(q7 2 (fP 2 (hr (bM st).1 j).1).1).2.length<=4294967296:=by
     have:(Et (v1 (hr (bM st).1 j).1).2).length<=(hr (bM st).1 j).1.1.length:=bl.2;have this:(q7 2 (fP 2 (hr (bM st).1 j).1).1).2.length<=(hr (bM st).1 j).1.1.length:=this;omega
    refine ar (Fn.aX [(1001,2001)] (pF (hr (bM st).1 j).1 2 (.inr (.inl rfl)))) <| ar (Fn.aX [(1001,2001)] (EA (fP 2 (hr (bM st).1 j).1).1 2 (.inr (.inl rfl)))) ⟨gb,?_,rfl,rfl,?_⟩
    .show((hr (bM st).1 j).2.map tl).length+1<=4294967296;rw[at8,b2];omega
    refine⟨aD1,j+1,eR,aD1,ac.trans (ac.sub (K':=N0 n k (bM st).2 (j+1)) (B':=N1 l st (hr (bM st).1 (j+1)).1 36 ((hr (bM st).1 (j+1)).2.map tl)) aD ⟨?_,rfl,rfl,rfl,rfl,trivial⟩) (ac.aX 36 2002 rfl)⟩;rw[amy];rfl
   .have eR:j=(bM st).2:=by
     have h: ¬(j:Int) < ((bM st).2:Int):=oj h;omega
    subst eR;refine bz [] (ac.trans (cM (N0 n k (bM st).2 (bM st).2) (N1 l st (hr (bM st).1 (bM st).2).1 2002 ((hr (bM st).1 (bM st).2).2.map tl))) (ac.eb 2002 rfl)) <| ar (Fn.aX [(1001,2001)] (Wj (hr (bM st).1 (bM st).2).1)) ⟨fun h=>?_,fun h=>?_⟩
    .have h:(!decide ((kC st).1.2=0))=true:=h;have zp:=AP (k+1) cu (Wp jg (fun bd=>by rw[bd.1] at h;cases h))
     first
      |(have Ic:=H.symm.trans zp;contradiction)
      |exact bh
    have h:(!decide ((kC st).1.2=0))=false:=h;have U:(kC st).1.2=0:=aE0
    have q4:=ND (l.map jP) (jP (kC st).2) aD1 (show(E st).2.length<=4294967296 by omega) (by
     show((hr (bM st).1 (bM st).2).2.map tl).length<=1000000
     rw[at8,b2];omega) (fun p ae=>by
     obtain⟨q,aQ,rfl⟩:=av0.1 ae;have:=b3 q aQ;show(Et q).length<=4294967296;omega)
    refine ar q4 ⟨fun h=>?_,fun h=>?_⟩
    .have h:(!decide (gF (l.map jP) (jP (kC st).2)=0))=true:=h;have zp:=AP (k+1) cu (Wp jg (fun bd=>by rw[bd.2] at h;cases h))
     first
      |(have Ic:=H.symm.trans zp;contradiction)
      |exact bh
    .have h:(!decide (gF (l.map jP) (jP (kC st).2)=0))=false:=h;have dX:gF (l.map jP) (jP (kC st).2)=0:=aE0
     have amz:(l++[(kC st).2]).map jP=e3 (l.map jP) (jP (kC st).2):=by
      unfold e3;rw[vj dX,aw2];rfl
     refine⟨aD1,(k+1,l++[(kC st).2],(kC st).1),⟨cu,Wq jg U dX,?_,?_⟩,?_,?_⟩
     .show(hr (bM st).1 (bM st).2).1.1.length<=100000000;omega
     .have:=(H8 dX).2.2.1;simp only[at8,as4,List.length_singleton] at this⊢;omega
     .simp only;omega
     .refine ac.trans (ac.sub (K':=Wr n (k+1)) (B':=NZ (kC st).1::NI 1003 ((l++[(kC st).2]).map jP)) aD ⟨rfl,rfl,?_,trivial⟩) (ac.aX 1003 1002 rfl);rw[amz];rfl
  .have cu:k=n:=by
    have h: ¬(k:Int) < (n:Int):=oj h;omega
   subst cu;have ax:=amx l st jg;refine ar (Fn.aX [(1001,2001)] (NX st)) ⟨fun h=>?_,fun h=>?_⟩
   .have h:(!decide (q8 st=0))=true:=h;rw[mu aE0] at ax
    first
     |(have Ic:=H.symm.trans ax;contradiction)
     |exact bh
   .have h:(!decide (q8 st=0))=false:=h;rw[vj aE0] at ax
    first
     |(rw[H] at ax;injection ax with ax;subst ax;exact⟨_,_,_,bt,rfl,aD,aD,rfl⟩)
     |(rw[H] at ax;cases ax)
end
section
end
section
def Wt {k:Nat} (h:k < 8):0<=1*((2 ^k:Nat):Int)/\1*((2 ^k:Nat):Int) < 256:=by have ae:2 ^k<=2 ^7:=aB1 aD2 aD1;generalize 2 ^k=y at*;omega
section
variable {P:aH6} {ids:aH0} {K:aZ} {B:aA}
def amA {o:Oper} {T fF:aI0} {x y:aH8} {m:Int} (ag:o.op= .binOp .shl T x y fF) (hx:a7 K x= .c (.one (.d (.int .u8 1)))) (aC:a7 K y= .c (.one (.d (.int .i64 m)))) (aw:0<=m) (E:m < 8) (N:Nat):
  bD P N ids o K B (.c (.one (.d (.int .u8 (1*((2 ^m.toNat:Nat):Int)))))) ⟨[],[],[]⟩:=by
 have m1:x∈o.op.operands:=aD8
 have m2:y∈o.op.operands:=aD8
 refine bD.val fun K' B' g1 g2 C ρ F fx w al av=>?_
 have af:=av.int ((g1 x m1).trans hx);have ao:=av.int ((g1 y m2).trans aC);exact⟨_,JU ag af ao aD2 aw (by simp[IntKind.bits];omega) (.inl ⟨rfl,rfl⟩) (fun _=>Wt aD1),rfl⟩
def amB {a b:Int} (E:0<=a) (G:a < 256) (ah:0<=b) (aW:b < 256):
  IntKind.u8.wrap (((BitVec.ofInt 8 a ||| BitVec.ofInt 8 b).toNat:Nat):Int)=((a.toNat ||| b.toNat:Nat):Int):=by
 have af:(BitVec.ofInt 8 a).toNat=a.toNat:=aG0
 have ao:(BitVec.ofInt 8 b).toNat=b.toNat:=aG0
 rw[BitVec.toNat_or,af,ao];have h:a.toNat ||| b.toNat < 2 ^8:=Nat.or_lt_two_pow aD1 aD1;exact x2 (by simp only[uR];omega)
def amC {o:Oper} {T fF:aI0} {x y:aH8} {a b:Int} (ag:o.op= .binOp .or T x y fF) (hx:a7 K x= .c (.one (.d (.int .u8 a)))) (aC:a7 K y= .c (.one (.d (.int .u8 b)))) (E:0<=a) (G:a < 256) (ah:0<=b) (aW:b < 256) (N:Nat):
  bD P N ids o K B (.c (.one (.d (.int .u8 ((a.toNat ||| b.toNat:Nat):Int))))) ⟨[],[],[]⟩:=by
 have m1:x∈o.op.operands:=aD8
 have m2:y∈o.op.operands:=aD8
 refine bD.val fun K' B' g1 g2 C ρ F fx w al av=>?_
 have af:=av.int ((g1 x m1).trans hx);have ao:=av.int ((g1 y m2).trans aC);refine⟨_,?_,rfl⟩;have e:=amB E G ah aW
 have au:Op.intBits .or .u8 a b=pure (.int .u8 ((a.toNat ||| b.toNat:Nat):Int)):=by
  exact as5 (fun aB:Int=>(pure (Value.int .u8 aB):Sem Value)) e
 simp only[execOp,ag,af,ao,eqGuard,binOp,au];simp[go_sem]
end
def i9 (es:aH1) (aB:Int):Bool:=yN ((b0 (aI:=ai) (aK:=ai) es aB).getD (cR ai))
def iC (es:aH1) (aB:Int):Nat->Nat
 |0=>0
 |k+1=>if i9 es (aB+(k:Int))=true then iC es aB k ||| 2 ^k else iC es aB k
def Wu (es:aH1) (aB:Int): ∀k,iC es aB k < 2 ^k
 |0=>Nat.one_pos
 |k+1=>by
  have h:=Wu es aB k;have G:(2:Nat) ^k < 2 ^(k+1):=Nat.pow_lt_pow_right aD2 aD1;unfold iC
  split
  .exact Nat.or_lt_two_pow aD1 G
  .omega
def Wv (es:aH1) (aB:Int) {k:Nat} (h:k<=8):iC es aB k < 256:=by have E:=Wu es aB k;have G:(2:Nat) ^k<=2 ^8:=aB1 aD2 h;omega
def pH (es:aH1):Nat->aG9
 |0=>[]
 |n+1=>pH es n++[UInt8.ofNat (iC es (8*(n:Int)) 8)]
def N2 (es:aH1): ∀n,(pH es n).length=n
 |0=>rfl
 |n+1=>by unfold pH;rw[as4,N2 es n];rfl
def fL (s g:Int):Nat:=((mL s g+7)/8).toNat
def Il {s g:Int} (au:0<=s/\s<=4096) (aU:1<=g/\g<=64):mL s g<=8*(fL s g:Int)/\(8*(fL s g:Int) < mL s g+8)/\fL s g<=521:=by have h:=y0 au aU;unfold fL;omega
def tp (s g:Int):aG9:=eV 2 [s.toNat]++eV 1 [g.toNat]
def Ww (s g:Int):(tp s g).length=3:=by unfold tp;rw[as4,nY,nY];rfl
def encZ (s g:Int) (es:aH1):aG9:=tp s g++pH es (fL s g)
def Im {s g:Int} (au:0<=s/\s<=4096) (aU:1<=g/\g<=64) (es:aH1):(encZ s g es).length<=524:=by have h:=Il au aU;unfold encZ;rw[as4,Ww,N2];omega
abbrev N3 (r:Nat) (j:Nat):aZ:=[(0,ap 1001),(3,eC r),(5,ab (8*(j:Int)))]
abbrev amD (r:Nat) (j:Nat) (n k:Nat):aZ:=[(0,ap 1001),(3,eC r),(5,ab (8*(j:Int))),(6,.c (.one (.d (.int .u8 (n:Int))))),(33,ab (k:Int))]
abbrev In (s g:Int) (es:aH1) (r:Nat) (x:aG9):aA:=iN s g es++[(r,.row 5 .u8 x)]
def amE (s g:Int) (es:aH1) (au:0<=s/\s<=4096) (aU:1<=g/\g<=64):Fn prog 56 [ap 1001] (iN s g es) [] (bP .u8 (encZ s g es)) (iN s g es):=by
 have r7:=Hv s g es au aU;have lu:=y0 au aU;have e5:=Il au aU;have c4:=Ww s g;have jn:=nY 2 [s.toNat];have c1:=Ih 2 [s.toNat] (.inr (.inl rfl)) (fun n hn=>by simp only[at7] at hn;omega) aD3;have cy:=zl (eV 2 [s.toNat]) 1 [g.toNat] (.inl rfl) (fun n hn=>by simp only[at7] at hn;omega) aD3 (by rw[jn];simp);refine aY [] func56 ?_;refine ar (Fn.arg (Fn.aX [(1002,2002)] c1) ⟨rfl,rfl,Ey au.1,trivial⟩) <| ar (Fn.arg (Fn.aX [(1001,2002),(1002,2003)] cy) ⟨rfl,rfl,Ey aD1,trivial⟩) <| d1 [] (X:=Nat) (fun j=>N3 2001 j) (fun j=>In s g es 2001 (tp s g++pH es j)) (fun j=>j<=fL s g) (fun j=>fL s g - j) 0 (at2 _) ?_ ?_
 .exact ac.trans (ac.sub (K':=N3 2003 0) (B':=In s g es 2003 (tp s g++pH es 0)) aD ⟨rfl,rfl,as5 (fun l=>some (ba.row _ .u8 l)) (av8 _).symm,trivial⟩) (ac.aX 2003 2001 rfl)
 intro j V;have V:j<=fL s g:=V;have wP:=N2 es j;refine ar r7 ⟨fun J=>?_,fun J=>?_⟩
 .have J:decide (8*(j:Int) < mL s g)=true:=J;have J:=gd J;refine d1 [11] (X:=Nat) (fun k=>amD 2001 j (iC es (8*(j:Int)) k) k) (fun _=>In s g es 2001 (tp s g++pH es j)) (fun k=>k<=8) (fun k=>8 - k) 0 (at2 _) ?_ ?_
  .exact ac.sub aD aD
  intro k Z;have Z:k<=8:=Z;have O:=Wv es (8*(j:Int)) Z;refine⟨fun ee=>?_,fun ee=>?_⟩
  .have ee:decide ((k:Int) < 8)=true:=ee;have ee:=gd ee;have c0:c8 (8*(j:Int)+(k:Int)):=aD9
   have ae:=Wt (k:=(k:Int).toNat) aD1;have av:iC es (8*(j:Int)) (k+1)=if i9 es (8*(j:Int)+(k:Int))=true then iC es (8*(j:Int)) k ||| 2 ^k else iC es (8*(j:Int)) k:=rfl
   refine⟨c0,fun H=>?_,fun H=>?_⟩
   .have H:i9 es (8*(j:Int)+(k:Int))=true:=H;rw[vj H] at av;refine bw.mA (2000000+47) aD2 <| bw.mA (2000000+48) aD2 <| bz [] (bt) <| bc (fun N=>amA rfl rfl rfl aD1 aD1 N) ?_;refine bc (fun N=>amC rfl rfl rfl aD1 aD1 ae.1 ae.2 N) ?_;refine⟨aD1,k+1,aD1,aD1,ac.sub ⟨rfl,rfl,rfl,?_,rfl,trivial⟩ aD⟩;rw[av];show((((iC es (8*(j:Int)) k:Nat):Int).toNat ||| (1*((2 ^(k:Int).toNat:Nat):Int)).toNat:Nat):Int)=_;rw[az0,Int.one_mul,az0,az0]
   .have H:i9 es (8*(j:Int)+(k:Int))=false:=H;rw[mu (by rw[H];decide)] at av;exact⟨aD1,k+1,aD1,aD1,ac.sub ⟨rfl,rfl,rfl,(show((iC es (8*(j:Int)) k:Nat):Int)=((iC es (8*(j:Int)) (k+1):Nat):Int) by rw[av]),rfl,trivial⟩ aD⟩
  .have ee:decide ((k:Int) < 8)=false:=ee;have ee:=oj ee;have nq:k=8:=aD9
   subst nq;refine⟨⟨aD1,aD1⟩,?_,rfl,?_⟩
   .show(tp s g++pH es j).length+1<=4294967296;rw[as4];omega
   refine⟨aD1,j+1,aD1,aD1,ac.trans (ac.sub (K':=N3 53 (j+1)) (B':=In s g es 53 (tp s g++pH es (j+1))) ⟨rfl,rfl,(show 8*(j:Int)+8=8*((j+1:Nat):Int) by omega),trivial⟩ ⟨rfl,rfl,as5 (fun l=>some (ba.row _ .u8 l)) ?_,trivial⟩) (ac.aX 53 2001 rfl)⟩;show(tp s g++pH es j)++[UInt8.ofNat ((iC es (8*(j:Int)) 8:Nat):Int).toNat]=tp s g++(pH es j++[UInt8.ofNat (iC es (8*(j:Int)) 8)]);rw[az0,aw1]
 .have J:decide (8*(j:Int) < mL s g)=false:=J;have J:=oj J;have dF:j=fL s g:=aD9
  subst dF;exact⟨_,_,_,ac.eb 2001 rfl,rfl,rfl,aD,rfl⟩
def ny (es:aH1) (j:Nat):Nat->aG9
 |0=>[]
 |n+1=>UInt8.ofNat (iC es (8*(j:Int)) 8)::ny es (j+1) n
def Wx (es:aH1): ∀(n j:Nat),ny es j n++[UInt8.ofNat (iC es (8*((j+n:Nat):Int)) 8)]=ny es j (n+1)
 |0,j=>rfl
 |n+1,j=>by
  have h:=Wx es n (j+1);rw[show j+1+n=j+(n+1) by omega] at h;show UInt8.ofNat (iC es (8*(j:Int)) 8)::(ny es (j+1) n++[UInt8.ofNat (iC es (8*((j+(n+1):Nat):Int)) 8)])=_;rw[h];rfl
def Wy (es:aH1): ∀n,pH es n=ny es 0 n
 |0=>rfl
 |n+1=>by
  have h:=Wx es n 0;rw[aw9] at h;rw[<-h,<-Wy es n];rfl
def Wz (es:aH1) (aB:Int): ∀(m i:Nat),(iC es aB m).testBit i=(decide (i < m)&&i9 es (aB+(i:Int)))
 |0,i=>by simp[iC]
 |m+1,i=>by
  unfold iC;have h:=Wz es aB m i
  by_cases e:i=m
  .subst e
   split
   .rename_i ae;rw[Nat.testBit_or,h,Nat.testBit_two_pow_self,ae];simp
   .rename_i ae;rw[h];simp at ae;simp[ae]
  .have ao:decide (i < m+1)=decide (i < m):=by
    by_cases q:i < m
    .rw[at4 q,at4 aD1]
    .rw[av7 q,av7 aD1]
   rw[ao]
   split
   .rw[Nat.testBit_or,h,Nat.testBit_two_pow_of_ne aD1];simp
   .exact h
def amF (es:aH1) (aB:Int) {k:Nat} (h:k < 8):(iC es aB 8/2 ^k) &&& 1=if i9 es (aB+(k:Int))=true then 1 else 0:=by
 have E:=Wz es aB 8 k;rw[at4 h,aB4] at E;rw[<-E,<-Nat.shiftRight_eq_div_pow,Nat.testBit,Nat.and_comm];have G:1 &&& (iC es aB 8 >>> k)<=1:=Nat.and_le_left;generalize 1 &&& (iC es aB 8 >>> k)=y at*;have:y=0\/y=1:=aD9
 rcases this with rfl |rfl <;>rfl
def hK (es:aH1):Nat->List (aa ai×aa ai)
 |0=>[]
 |n+1=>if i9 es (n:Int)=true then dx (aI:=ai) (aK:=ai) (hK es n) (n:Int) (1:Int) else hK es n
def kT (s g:Int) (es:aH1):Prop:= ∀aB,i9 es aB=true->0<=aB/\aB < mL s g
abbrev amG (j:Nat):aZ:=[(4,ap 3001),(5,ap 4001),(7,ab (8*(j:Int)))]
abbrev amH (j:Nat) (n k:Nat):aZ:=[(4,ap 3001),(5,ap 4001),(7,ab (8*(j:Int))),(8,ab (n:Int)),(35,ab (k:Int))]
abbrev WA (s g:Int) (es:aH1) (x:aG9):aA:=[(3001,.cells [.d (.bG .u8 x),.d (.int .i64 0)]),(4001,.cells [.d (.int .i64 s),.d (.int .i64 g),.mp 4002]),(4002,.map ai ai es)]
def amI (n:Nat):ez n 1=[UInt8.ofNat n]:=by
 show[UInt8.ofNat (n/256 ^0 % 256)]=_;rw[Nat.pow_zero,Nat.div_one]
 congr 1
 exact UInt8.ofNat_mod_size (x:=n)
def amJ (s g:Int) (es:aH1) (ag:oH s g=true) (a1:kT s g es):Fn prog 133 [bP .u8 (encZ s g es)] [] [2001,2002] (.cn [.one (.ptr 2001 0),dJ 0])
  [(2001,.cells [.d (.int .i64 s),.d (.int .i64 g),.mp 2002]),(2002,.map ai ai (hK es (8*fL s g)))]:=by
 obtain⟨au,amK,tf⟩:=Hd ag;have aU:1<=g/\g<=64:=⟨amK,tf⟩;have lu:=y0 au aU;have e5:=Il au aU;have cO:=Im au aU es;have gA:=Ii (encZ s g es) aD1;have lX:=pF (encZ s g es,0) 2 (.inr (.inl rfl))
 have a2:encZ s g es=ez s.toNat 2++(ez g.toNat 1++ny es 0 (fL s g)):=by
  unfold encZ tp eV;rw[Wy];simp
 rw[a2,pG aD1] at lX;have c0:=pF (ez g.toNat 1++ny es 0 (fL s g),0) 1 (.inl rfl);rw[pG aD1] at c0;have lX:Fn prog 131 [ap 1001,ab 2] (lE (encZ s g es,0)) [] (ab ((s.toNat:Nat):Int)) (lE (ez g.toNat 1++ny es 0 (fL s g),0)):=by rw[a2];exact lX
 have c0:Fn prog 131 [ap 1001,ab 1] (lE (ez g.toNat 1++ny es 0 (fL s g),0)) [] (ab ((g.toNat:Nat):Int)) (lE (ny es 0 (fL s g),0)):=c0;have N4:((s.toNat:Nat):Int)=s:=aD9
 have amL:((g.toNat:Nat):Int)=g:=aD9
 rw[N4] at lX;rw[amL] at c0;have U:Fn prog 138 [ap 1001] (lE (ny es 0 (fL s g),0)) [] (ab 0) (lE (ny es 0 (fL s g),0)):=Wj (ny es 0 (fL s g),0);have mv:=L2 s g ag;have mf:Fn prog 134 [ap 1001] (lE ([],0)) [] (ab 0) (lE ([],0)):=NX ([],0);generalize encZ s g es=X at*;refine aY [] func133 ?_;refine ar (Fn.aX [(1001,3001)] gA) <| ar (Fn.aX [(1001,3001)] lX) <| ar (Fn.aX [(1001,3001)] c0) <| ar (Fn.aX [(2001,4001),(2002,4002)] mv) <| dE <| ar (Fn.aX [(1001,3001)] U) <| dE <| d1 [] (X:=Nat) (fun j=>amG j) (fun j=>WA s g (hK es (8*j)) (ny es j (fL s g - j))) (fun j=>j<=fL s g) (fun j=>fL s g - j) 0 (at2 _) ?_ ?_
 .exact ac.sub aD aD
 intro j V;have V:j<=fL s g:=V;refine ar (Fn.aX [(1001,4001),(1002,4002)] (Hv s g (hK es (8*j)) au aU)) ⟨fun J=>?_,fun J=>?_⟩
 .have J:decide (8*(j:Int) < mL s g)=true:=J;have J:=gd J;have O:=Wv es (8*(j:Int)) (as2 8);have d5:=pF (ez (iC es (8*(j:Int)) 8) 1++ny es (j+1) (fL s g - (j+1)),0) 1 (.inl rfl);rw[pG aD1] at d5
  have bo:ny es j (fL s g - j)=ez (iC es (8*(j:Int)) 8) 1++ny es (j+1) (fL s g - (j+1)):=by
   rw[show fL s g - j=(fL s g - (j+1))+1 by omega,amI];rfl
  rw[<-bo] at d5;refine ar (Fn.aX [(1001,3001)] d5) <| d1 [] (X:=Nat) (fun k=>amH j (iC es (8*(j:Int)) 8) k) (fun k=>WA s g (hK es (8*j+k)) (ny es (j+1) (fL s g - (j+1)))) (fun k=>k<=8) (fun k=>8 - k) 0 (at2 _) ?_ ?_
  .exact ac.sub aD aD
  intro k Z;have Z:k<=8:=Z;refine⟨fun ee=>?_,fun ee=>?_⟩
  .have ee:decide ((k:Int) < 8)=true:=ee;have ee:=gd ee;have amM:=amF es (8*(j:Int)) (k:=k) aD1
   have ce:hK es (8*j+(k+1))=if i9 es (8*(j:Int)+(k:Int))=true then dx (aI:=ai) (aK:=ai) (hK es (8*j+k)) (8*(j:Int)+(k:Int)) (1:Int) else hK es (8*j+k):=by
    show(if i9 es ((8*j+k:Nat):Int)=true then dx (aI:=ai) (aK:=ai) (hK es (8*j+k)) ((8*j+k:Nat):Int) (1:Int) else hK es (8*j+k))=_;rw[show((8*j+k:Nat):Int)=8*(j:Int)+(k:Int) by omega]
   have amN:=a1 (8*(j:Int)+(k:Int));generalize iC es (8*(j:Int)) 8=n at*;have kI:n/2 ^k<=n:=Nat.div_le_self _ _
   have aC:0<=((n/2 ^k:Nat):Int)/\((n/2 ^k:Nat):Int)<=9223372036854775807:=by
    generalize n/2 ^k=y at*;omega
   have aQ:((n:Int)/((2 ^(k:Int).toNat:Nat):Int))=((n/2 ^k:Nat):Int):=by rw[az0];exact(Int.natCast_ediv _ _).symm
   have lO:c8 (8*(j:Int)+(k:Int)):=aD9
   refine⟨⟨aD1,aD1,aD1⟩,?_⟩;refine bc (fun N=>Hb rfl rfl rfl (by rw[aQ];exact aC.1) (by rw[aQ];exact aC.2) aD1 aD1 N) ?_
   have vl:((((n:Int)/((2 ^(k:Int).toNat:Nat):Int)).toNat &&& (1:Int).toNat:Nat):Int)=if i9 es (8*(j:Int)+(k:Int))=true then 1 else 0:=by
    rw[aQ,az0];show(((n/2 ^k) &&& 1:Nat):Int)=_;rw[amM]
    split <;>rfl
   refine⟨fun H=>?_,fun H=>?_⟩
   .have H:=gd H
    have ae:i9 es (8*(j:Int)+(k:Int))=false:=by
     cases ae:i9 es (8*(j:Int)+(k:Int))
     .rfl
     .rw[ae,vj rfl] at vl;have H:((((n:Int)/((2 ^(k:Int).toNat:Nat):Int)).toNat &&& (1:Int).toNat:Nat):Int)=0:=H;omega
    rw[ae,mu aD2] at ce;exact⟨aD1,k+1,aD1,aD1,ac.sub aD ⟨rfl,rfl,as5 (fun l=>some (ba.map ai ai l)) ce.symm,trivial⟩⟩
   .have H:=oj H
    have ae:i9 es (8*(j:Int)+(k:Int))=true:=by
     cases ae:i9 es (8*(j:Int)+(k:Int))
     .rw[ae,mu aD2] at vl;exact as3 vl H
     .rfl
    rw[ae,vj rfl] at ce;have aN:=amN ae;exact⟨lO,ar (Fn.aX [(1001,4001),(1002,4002)] (Hv s g (hK es (8*j+k)) au aU)) ⟨fun h=>as3 (gd h) aD1,fun _=>⟨lO,trivial,aD1,k+1,aD1,aD1,ac.sub aD ⟨rfl,rfl,as5 (fun l=>some (ba.map ai ai l)) ce.symm,trivial⟩⟩⟩⟩
  .have ee:decide ((k:Int) < 8)=false:=ee;have ee:=oj ee;have nq:k=8:=aD9
   subst nq;refine⟨aD1,j+1,aD1,aD1,ac.sub ⟨rfl,rfl,(show 8*(j:Int)+8=8*((j+1:Nat):Int) by omega),trivial⟩ aD⟩
 .have J:decide (8*(j:Int) < mL s g)=false:=J;have J:=oj J;have dF:j=fL s g:=aD9
  subst dF;rw[Nat.sub_self];exact ar (Fn.aX [(1001,3001)] mf) <| dE ⟨_,_,_,ac.trans (ac.aX 4001 2001 rfl) (ac.aX 4002 2002 rfl),rfl,aD,aD,rfl⟩
end
section
def iR (b:Bool):Nat:=if b=true then 1 else 0
def Io (b:Bool):iR b < 256 ^1:=by cases b <;>decide
def N5 (b:Bool):Fn prog 55 [fX b] [] [] (ab ((iR b:Nat):Int)) []:=by
 refine aY [] func55 ?_;refine⟨fun h=>?_,fun h=>?_⟩
 .have h:b=true:=h;subst h;exact bh
 .have h:b=false:=h;subst h;exact bh
def iS (hs:Bool) (e:bf):aG9:=gW e.nm 1++(eV 1 [iR e.on,iR (e.us&&hs)]++gW (encZ e.s e.g e.es) 2)
def n0 (hs:Bool) (l:aH7) (nm:aG9):aG9:=match c9 l nm with
 |some e=>iS hs e
 |none=>[]
def q9 (hs:Bool) (l:aH7):aG9:=eV 1 [l.length]++(iB l).flatMap (n0 hs l)
abbrev Ip (hs:Bool) (l:aH7) (r k:Nat):aZ:=[(0,ap 1001),(1,fX hs),(5,eC r),(21,bP .str (iB l)),(22,ab ((iB l).length:Nat)),(23,ab (k:Nat))]
abbrev amO (hs:Bool) (l:aH7) (r k:Nat) (nm:aG9) (ad:Nat):aZ:=(8,bW nm)::(9,dy ad)::Ip hs l r k
abbrev Iq (l:aH7) (r:Nat) (x:aG9):aA:=eJ l++[(r,.row 5 .u8 x)]
def WB {hs:Bool} {e:bf} (au:0<=e.s/\e.s<=4096) (aU:1<=e.g/\e.g<=64) (hn:e.nm.length<=64):(iS hs e).length<=600:=by have h:=Im au aU e.es;unfold iS;rw[as4,as4,zm,zm,nY];simp;omega
def Ir {l:aH7} {nm:aG9} (h:nm∈iB l): ∃e,c9 l nm=some e:=by
 unfold iB oI at h;have h:=(List.mergeSort_perm _ _).mem_iff.1 h;rw[BD] at h;obtain⟨d,H,e⟩:=av0.1 h
 cases Z:c9 l nm with
 |some e=>exact⟨e,rfl⟩
 |none=>exact as3 (e▸au0 H) (Ep Z)
def WC {l:aH7} (h:eh l) (hs:Bool):Fn prog 25 [ap 1001,fX hs] (eJ l) [] (bP .u8 (q9 hs l)) (eJ l):=by
 obtain⟨pt,gD,gE⟩:=kL Eo;obtain⟨Nv,xw,xx⟩:=kL HV;have bX:=h.len;have ar3:=Nt l;have zf:(d7 l).length=l.length:=by unfold d7;exact at8 _
 have amP:=akK h;have c1:=Ih 1 [l.length] (.inl rfl) (fun n hn=>by simp only[at7] at hn;omega) aD3;have jn:=nY 1 [l.length];refine aY [] func25 ?_;refine ar (Fn.arg (Fn.aX [(1002,2002)] c1) ⟨rfl,rfl,(show([((d7 l).length:Int)]:List Int)=tn [l.length] by rw[zf];rfl),trivial⟩) <| ar amP <| d1 [6,8] (X:=Nat) (Ip hs l 2001) (fun k=>Iq l 2001 (eV 1 [l.length]++((iB l).take k).flatMap (n0 hs l))) (fun k=>k<=(iB l).length) (fun k=>(iB l).length - k) 0 (at2 _) ?_ ?_
 .exact ac.trans (ac.sub (K':=Ip hs l 2002 0) (B':=Iq l 2002 (eV 1 [l.length]++((iB l).take 0).flatMap (n0 hs l))) aD ⟨rfl,rfl,rfl,rfl,as5 (fun l=>some (ba.row _ .u8 l)) (av8 _).symm,trivial⟩) (ac.aX 2002 2001 rfl)
 intro k Z;have Z:k<=(iB l).length:=Z;refine⟨fun J=>?_,fun J=>?_⟩
 .have cu:k < (iB l).length:=by simpa using J
  obtain⟨e,U⟩:=Ir (av2 cu);have eB:=NT (n0 hs l) cu;have G4:=qf (L:=iB l) (n:=(k:Nat)) rfl cu;have lB:n0 hs l (iB l)[k]=iS hs e:=by unfold n0;rw[U]
  rw[lB] at eB;obtain⟨rI,pE⟩:=ke U;obtain⟨b',cS,en,e0⟩:=h.ok e rI
  have dX:((eV 1 [l.length]++((iB l).take k).flatMap (n0 hs l))).length<=8*600+1:=by
   rw[as4,jn]
   have E:(((iB l).take k).flatMap (n0 hs l)).length<=((iB l).take k).length*600:=zn (n0 hs l) 600 _ fun nm ay=>by
    obtain⟨b9,hc⟩:=Ir (List.mem_of_mem_take ay);obtain⟨cB,cH,dO,fy⟩:=h.ok b9 (ke hc).1;unfold n0;rw[hc];exact WB cB cH fy
   rw[at3] at E;have ar4: [l.length].length*1=1:=rfl;omega
  rw[<-pE] at G4 U;have ce:=h.D rI;have al:=h.M rI;have Bm:=HU (amE e.s e.g e.es b' cS) al rfl rfl rfl rfl;rw[yI al] at Bm;have m7:=Im b' cS e.es;have amQ:eV 1 [l.length]++((iB l).take (k+1)).flatMap (n0 hs l)=(eV 1 [l.length]++((iB l).take k).flatMap (n0 hs l))++iS hs e:=by rw[eB,aw1]
  generalize eV 1 [l.length]++((iB l).take k).flatMap (n0 hs l)=A at*;have uC:=Ex A e.nm 1 (.inl rfl) aD1 aD1 aD1;have g':=zm e.nm 1
  have BM:=zl (A++gW e.nm 1) 1 [iR e.on,iR (e.us&&hs)] (.inl rfl) (fun n hn=>by
   simp only[as8,List.not_mem_nil,or_false] at hn;rcases hn with rfl |rfl
   .exact Io _
   .exact Io _) aD3 (by rw[as4,g'];omega)
  have pW:=nY 1 [iR e.on,iR (e.us&&hs)];have t3:=Ex (A++gW e.nm 1++eV 1 [iR e.on,iR (e.us&&hs)]) (encZ e.s e.g e.es) 2 (.inr (.inl rfl)) aD1 aD1 (by rw[as4,as4,g',pW];simp;omega);have EE:A++gW e.nm 1++eV 1 [iR e.on,iR (e.us&&hs)]++gW (encZ e.s e.g e.es) 2=A++iS hs e:=by unfold iS;simp only[aw1]
  refine⟨aD1,e.nm,G4,bz [8] (ac.sub (K':=amO hs l 2001 k e.nm e.ad) (B':=Iq l 2001 A) ⟨rfl,(BG U),rfl,rfl,rfl,rfl,rfl,rfl,trivial⟩ aD) <| ar (Fn.aX [(1001,2001),(1002,2002)] uC) <| bc (ju (b:=e.ad) rfl rfl) ?_⟩;refine bc (fun N=>jN rfl underlying60 rfl rfl gD aE4 rfl N) ?_;refine bc (lR (q:=1003) rfl underlying4 rfl rfl rfl ce rfl) ?_;refine ar (N5 e.on) <| bc (ju (b:=e.ad) rfl rfl) ?_;refine bc (fun N=>jN rfl underlying60 rfl rfl gD aE4 rfl N) ?_;refine bc (lR (q:=1003) rfl underlying4 rfl rfl rfl ce rfl) ?_;refine⟨fun a6=>?EF,fun a6=>?EG⟩
  case' EF=>
   have a6:e.us=true:=a6;rw[a6,aB4] at BM t3 EE pW;refine ar (N5 hs) ?_
  case' EG=>
   have a6:e.us=false:=a6;rw[a6,Bool.false_and] at BM t3 EE pW;refine ar (Fn.arg (N5 false) aD) ?_
  all_goals
   refine ar (Fn.aX [(1001,2002),(1002,2003)] BM) ⟨eU aD4,bz [] (bt) <| bc (ju (b:=e.ad) rfl rfl) ?_⟩;refine bc (fun N=>jN rfl underlying60 rfl rfl xw (by rw[xx];decide) rfl N) ?_;refine bc (lR (q:=1003) rfl underlying58 rfl rfl rfl ce rfl) ?_;exact ar Bm <| ar (Fn.aX [(1001,2003),(1002,2004)] t3) ⟨aD1,k+1,cu,aD1,ac.trans (ac.sub (K':=Ip hs l 2004 (k+1)) (B':=Iq l 2004 (eV 1 [l.length]++((iB l).take (k+1)).flatMap (n0 hs l))) aD ⟨rfl,rfl,rfl,rfl,as5 (fun l=>some (ba.row _ .u8 l)) (EE.trans amQ.symm),trivial⟩) (ac.aX 2004 2001 rfl)⟩
 .have cu:k=(iB l).length:=by
   have: ¬k < (iB l).length:=by simpa using J
   omega
  subst cu;rw[au3];exact⟨_,_,_,ac.eb 2001 rfl,rfl,rfl,aD,rfl⟩
end
section
def WD (es:aH1): ∀(n:Nat) (aB:Int),b0 (aI:=ai) (aK:=ai) (hK es n) aB=if(0<=aB/\aB < (n:Int))/\i9 es aB=true then some (1:Int) else none
 |0,aB=>by
  rw[mu aD1];rfl
 |n+1,aB=>by
  have h:=WD es n aB;unfold hK
  by_cases ae:i9 es (n:Int)=true
  .rw[vj ae];obtain⟨c1,cy⟩:=yv (aI:=ai) (aK:=ai) qK (n:Int) (1:Int) (hK es n)
   by_cases e:aB=(n:Int)
   .subst e;rw[vj ⟨aD1,ae⟩];exact c1
   .rw[cy aB e,h]
    by_cases q:(0<=aB/\aB < (n:Int))/\i9 es aB=true
    .rw[vj q,vj ⟨aD1,q.2⟩]
    .rw[mu q,mu (fun bd=>q ⟨aD1,bd.2⟩)]
  .rw[mu ae,h]
   by_cases q:(0<=aB/\aB < (n:Int))/\i9 es aB=true
   .rw[vj q,vj ⟨aD1,q.2⟩]
   .rw[mu q,mu (fun bd=>by
     by_cases e:aB=(n:Int)
     .subst e;exact ae bd.2
     .exact q ⟨aD1,bd.2⟩)]
def WE {s g:Int} (au:0<=s/\s<=4096) (aU:1<=g/\g<=64) {es:aH1} (a1:kT s g es) (aB:Int):i9 (hK es (8*fL s g)) aB=i9 es aB:=by
 have e5:=Il au aU;have h:=WD es (8*fL s g) aB;have aN:=a1 aB;show yN ((b0 (aI:=ai) (aK:=ai) (hK es (8*fL s g)) aB).getD (cR ai))=_;rw[h]
 cases ae:i9 es aB
 .rw[mu (fun bd=>by cases bd.2)];rfl
 .have aN:=aN ae;rw[vj ⟨aD1,rfl⟩];rfl
def WF {es eL:aH1} (h: ∀aB,i9 eL aB=i9 es aB) (aB:Int): ∀k,iC eL aB k=iC es aB k
 |0=>rfl
 |k+1=>by unfold iC;rw[h,WF h aB k]
def WG {es eL:aH1} (h: ∀aB,i9 eL aB=i9 es aB): ∀n,pH eL n=pH es n
 |0=>rfl
 |n+1=>by unfold pH;rw[WF h,WG h n]
def amR {s g:Int} (au:0<=s/\s<=4096) (aU:1<=g/\g<=64) {es:aH1} (a1:kT s g es):encZ s g (hK es (8*fL s g))=encZ s g es:=by unfold encZ;rw[WG (WE au aU a1)]
def N6 (es:aH1): ∀n,fg (hK es n)
 |0=>List.Pairwise.nil
 |n+1=>by
  unfold hK
  split
  .exact fg.put qK (N6 es n)
  .exact N6 es n
end
section
def h5 (l:aH7):List bf:=(iB l).filterMap (c9 l)
def WH (c:Bool) (l:aH7): ∀N:List aG9,(∀nm∈N,∃e,c9 l nm=some e)->N.flatMap (n0 c l)=(N.filterMap (c9 l)).flatMap (iS c)
 | [],_=>rfl
 |nm::N,h=>by
  obtain⟨e,U⟩:=h nm (at6 ..);have E:n0 c l nm=iS c e:=by unfold n0;rw[U]
  rw[aB5,WH c l N (fun x hx=>h x (as6 _ hx)),E,aC8,U];rfl
def N7 (c:Bool) (l:aH7):q9 c l=eV 1 [l.length]++(h5 l).flatMap (iS c):=by unfold q9 h5;rw[WH c l _ fun nm h=>Ir h]
def WI (l:aH7): ∀N:List aG9,(∀nm∈N,∃e,c9 l nm=some e)->(N.filterMap (c9 l)).map (·.nm)=N
 | [],_=>rfl
 |nm::N,h=>by
  obtain⟨e,U⟩:=h nm (at6 ..);rw[aC8,U];show e.nm::(N.filterMap (c9 l)).map (·.nm)=_;rw[WI l N (fun x hx=>h x (as6 _ hx)),(ke U).2]
def N8 (l:aH7):(h5 l).map (·.nm)=iB l:=WI l _ fun nm h=>Ir h
def amS (l:aH7):(h5 l).length=l.length:=by rw[<-Nt l,<-N8 l,at8]
def Is {l:aH7} {e:bf} (h:e∈h5 l):e∈l:=by obtain⟨nm,_,G⟩:=List.mem_filterMap.1 h;exact(ke G).1
abbrev v6:Type:=aG9×Bool×Bool×Int×Int×List (aa ai×aa ai)
def pI (e:bf):v6:=(e.nm,e.on,e.us,e.s,e.g,e.es)
def q' (e:bf):v6:=(e.nm,e.on,false,e.s,e.g,hK e.es (8*fL e.s e.g))
def It (c:Bool) (p:v6):aG9:=gW p.1 1++(eV 1 [iR p.2.1,iR (p.2.2.1&&c)]++gW (encZ p.2.2.2.1 p.2.2.2.2.1 p.2.2.2.2.2) 2)
def amT (c:Bool) (e:bf):It c (pI e)=iS c e:=rfl
def amU {l:aH7} (h:eh l) (a1: ∀e∈l,kT e.s e.g e.es) {e:bf} (U:e∈l):It true (q' e)=iS false e:=by obtain⟨b',cS,en,e0⟩:=h.ok e U;unfold It q' iS;show gW e.nm 1++(eV 1 [iR e.on,iR (false&&true)]++gW (encZ e.s e.g (hK e.es (8*fL e.s e.g))) 2)=_;rw[amR b' cS (a1 e U),Bool.and_false];rfl
def WJ {c ca:Bool} {g:bf->v6}: ∀{a b:aH7},a.map pI=b.map g->(∀e∈b,It c (g e)=iS ca e)->a.flatMap (iS c)=b.flatMap (iS ca)
 | [],[],_,_=>rfl
 | [],_::_,h,_=>by cases h
 |_::_,[],h,_=>by cases h
 |x::a,y::b,h,q=>by
  injection h with E G
  rw[aB5,aB5,WJ G (fun e U=>q e (as6 _ U)),<-amT c x,E,q y (at6 ..)]
def N9 {l:aH7} (h:eh l) {e:bf} (U:e∈l):c9 l e.nm=some e:=by
 cases Z:c9 l e.nm with
 |none=>exact as3 (au0 U) (Ep Z)
 |some b9=>
  obtain⟨E,G⟩:=ke Z;rw[xv h.ji E U G]
def WK {l:aH7} (h:eh l): ∀N:List bf,(∀e∈N,e∈l)->(N.map (·.nm)).filterMap (c9 l)=N
 | [],_=>rfl
 |e::N,q=>by
  rw[au1,aC8,N9 h (q e (at6 ..)),WK h N fun x hx=>q x (as6 _ hx)]
def amV {l l':aH7} (h:eh l) (h':eh l') (a1: ∀e∈l,kT e.s e.g e.es) (ae:l'.map pI=(h5 l).map q'):q9 true l'=q9 false l:=by
 have hn:l'.map (·.nm)=iB l:=by
  rw[<-N8 l];have E:=as5 (List.map fun p:v6=>p.1) ae;rw[aw7,aw7] at E;exact E
 have H:iB l'=l'.map (·.nm):=by
  rw[hn];unfold iB oI;rw[BD l',hn];unfold iB oI;exact Go.mergeSort_of_perm (List.mergeSort_perm _ _)
 have au:h5 l'=l':=by
  unfold h5;rw[H];exact WK h' l' fun e U=>U
 have ak:l'.length=l.length:=by
  have:=as5 List.length hn
  rwa[at8,Nt] at this
 rw[N7,N7,au,ak,WJ ae fun e U=>amU h a1 (Is U)]
end
section
abbrev hj:bB:=.arr 16 .u8
abbrev qi:bB:=.bU (.int .i64) hj
structure cq where
 n:Int
 R:Int
 n1:List (aa ai×aa hj)
 bO:List (aa ai×aa hj)
 fA:List (aa qi)
abbrev i' (c d e f:Nat) (m:cq):aA:=[(c,.cells [.d (.int .i64 m.n),.d (.int .i64 m.R),.mp d,.mp e,.own f]),(d,.map ai hj m.n1),(e,.map ai hj m.bO),(f,.row 259 qi m.fA)]
def ht (m:cq):bg:=.jq 1001 (i' 1001 1002 1003 1004 m)
def sj (n:Int):Bool:=decide (0<=n)&&decide (n<=4096)
def amW (n:Int):Fn prog 241 [ab n] [] [] (fX (sj n)) []:=by
 refine aY [] func241 ?_;refine⟨fun h=>?_,fun h=>?_⟩
 .exact eN bt rfl (show decide (n<=4096)=sj n by simp at h;simp[sj,h])
 .exact eN bt rfl (show false=sj n by simp at h;simp[sj];omega)
def amX (n r:Int) (h:(sj n&&decide (0<=r))=true):Fn prog 216 [ab n,ab r] [] [1001] (.cn [.one (.ptr 1001 0),dJ 0]) [(1001,.aH (ht ⟨n,r,[],[],[]⟩))]:=by
 refine aY [] func216 ?_;refine ar (amW n) ?_;simp only[as1,av6] at h;refine⟨fun E=>?_,fun E=>?_⟩
 .exfalso;simp[h.1] at E
 refine⟨fun G=>?_,fun G=>?_⟩
 .exfalso;simp at G;omega
 exact⟨rfl,rfl,rfl,_,_,_,(ac.wL 18 4 1004 259 qi rfl rfl rfl).trans ((ac.aX 18 1001 rfl).trans ((ac.aX 15 1002 rfl).trans ((ac.aX 16 1003 rfl).trans (ac.close 1001 (i' 1001 1002 1003 1004 ⟨n,r,[],[],[]⟩) (o:=ht ⟨n,r,[],[],[]⟩) aD rfl fun _ _ _ _ h=>h)))),rfl,aD,aD,rfl⟩
end
section
def WL (es:List (aa ai×aa hj)):Fn prog 179 [.c (.one (.mp 1001))] [(1001,.map ai hj es)] [2001] (.c (.one (.mp 2001))) [(1001,.map ai hj es),(2001,.map ai hj es)]:=
 T4 agL aD4 es
end
section
abbrev BN:aH0:=[1002,1003,1004]
def EH {f:aI5} {args:List aS} {m gN:cq} {aJ aT:aA} {res:aS} {bb:aH0} (h:Fn prog f args (i' 1001 1002 1003 1004 m++aJ) bb res (i' 1001 1002 1003 1004 gN++aT))
  (E:ox 1001 BN args (i' 1001 1002 1003 1004 m) aJ bb []=true) (G:oy 1001 (nd BN bb []) res (i' 1001 1002 1003 1004 gN) aT=true):
  Fn prog f args ((1001,.aH (ht m))::aJ) [] res ((1001,.aH (ht gN))::aT):=
 (cC.close (br:=i' 1001 1002 1003 1004 m) (dP:=fun _:Unit=>i' 1001 1002 1003 1004 gN) (aT:=fun _=>aT) (o:=ht m) (o':=fun _=>ht gN) BN h.x (fun _ _ _ _ h=>h) (fun _ _ _ _ _ h=>h) E (fun _=>G)).fn
def cq.lF (m:cq) (at_ aO:Int):Bool:=decide (0<=at_)&&decide (aO<=m.n)&&decide (at_<=m.n - aO)
def amY (m:cq):Fn prog 238 [ap 1001] [(1001,.aH (ht m))] [] (ab m.n) [(1001,.aH (ht m))]:=by refine EH (aJ:=[]) (aT:=[]) (bb:=[]) ?_ rfl rfl;refine aY [] func238 ?_;exact bh
def WM (m:cq):Fn prog 264 [ap 1001] (i' 1001 1002 1003 1004 m) [] (ab (m.bO.length:Nat)) (i' 1001 1002 1003 1004 m):=by refine aY [] func264 ?_;exact bh
def N' (m:cq) (at_ aO:Int) (aw:0<=aO) (E:0<=m.n) (G:m.n<=4096):Fn prog 262 [ap 1001,ab at_,ab aO] (i' 1001 1002 1003 1004 m) [] (fX (m.lF at_ aO)) (i' 1001 1002 1003 1004 m):=by
 refine aY [] func262 ?_;refine⟨fun h=>?_,fun h=>?_⟩
 .have h:decide (0<=at_)=true:=h;refine⟨fun ah=>?_,fun ah=>?_⟩
  .have ah:decide (aO<=m.n)=true:=ah;have aW:aO<=m.n:=by simpa using ah
   refine⟨aD1,?_⟩;exact eN bt rfl (show decide (at_<=m.n - aO)=m.lF at_ aO by rw[cq.lF,h,ah];rfl)
  .have ah:decide (aO<=m.n)=false:=ah;exact eN bt rfl (show false=m.lF at_ aO by rw[cq.lF,h,ah];rfl)
 .have h:decide (0<=at_)=false:=h;exact eN bt rfl (show false=m.lF at_ aO by rw[cq.lF,h];rfl)
def cq.qj (m:cq):cq:={m with n1:=m.bO,fA:=[]}
def amZ (m:cq):Fn prog 243 [ap 1001] (i' 1001 1002 1003 1004 m) [2001,2002] g4 (i' 1001 2001 1003 2002 m.qj):=by refine aY [] func243 ?_;exact ar (Fn.aX [(1001,1003)] (WL m.bO)) ⟨_,_,_,ac.wL 1001 4 2002 259 qi rfl rfl rfl,rfl,trivial,aD,rfl⟩
end
section
def Oa {f:aI5} {args:List aS} {m gN:cq} {aJ aT:aA} {res:aS} {bb:aH0} {d e g:Nat} (l:aJ7) (h:Fn prog f args (i' 1001 1002 1003 1004 m++aJ) bb res (i' 1001 d e g gN++aT))
  (ak:eM (lL l []) 1001=1001/\eM (lL l []) d=1002/\eM (lL l []) e=1003/\eM (lL l []) g=1004)
  (E:ox 1001 BN args (i' 1001 1002 1003 1004 m) aJ bb []=true) (G:oy 1001 (nd BN bb []) res (i' 1001 d e g gN) aT=true):
  Fn prog f args ((1001,.aH (ht m))::aJ) [] res ((1001,.aH (ht gN))::aT):=
 (cC.close (br:=i' 1001 1002 1003 1004 m) (dP:=fun _:Unit=>i' 1001 d e g gN) (aT:=fun _=>aT) (o:=ht m) (o':=fun _=>ht gN) BN h.x (fun _ _ _ _ h=>h) (fun _ I F w p bd=>by
  have:=jJ.aX l bd;obtain⟨af,ao,bo,c7⟩:=ak;simp only[i',kK,af,ao,bo,c7,ba.eM,AA,bE.eM] at this;exact this) E (fun _=>G)).fn
def am0 (m:cq):Fn prog 243 [ap 1001] [(1001,.aH (ht m))] [] g4 [(1001,.aH (ht m.qj))]:=
 Oa (aJ:=[]) (aT:=[]) [(2001,1002),(2002,1004)] (amZ m) ⟨rfl,rfl,rfl,rfl⟩ rfl rfl
def zq (l:aI2) (v:Int):Int:=match l.idxOf? v with
 |some i=>(i:Nat)
 |none=> -1
def am1 (l:aI2) (v:Int) (ak:l.length<=4294967296):Fn prog 213 [bP ai l,ab v] [] [] (ab (zq l v)) []:=by
 refine aY [] func213 ?_;refine d1 [] (X:=Nat) (fun k=>[(0,bP ai l),(1,ab v),(7,ab (l.length:Nat)),(8,ab (k:Nat))]) (fun _=>[]) (fun k=>k<=l.length/\ ∀(i:Nat),i < k->l[i]? ≠some v) (fun k=>l.length - k) 0 ⟨at2 _,fun i h=>as3 h (aB8 _)⟩ ?_ ?_
 .exact ac.sub aD trivial
 intro k ⟨Z,ae⟩;refine⟨fun h=>?_,fun h=>?_⟩
 .have cu:k < l.length:=by
   have h:decide ((k:Int) < (l.length:Int))=true:=h;simpa using h
  refine⟨aD1,l[k],j4 (n:=k) cu,fun G=>?_,fun G=>?_⟩
  .have G:v=l[k]:=gd G;refine⟨_,_,_,bt,rfl,(show((k:Nat):Int)=zq l v from ?_),trivial,rfl⟩
   have:l.idxOf? v=some k:=by
    rw[List.idxOf?_eq_some_iff];refine⟨cu,by simp[G],fun j V=>?_⟩;have:=ae j V;rw[as0 aD1] at this;simpa using this
   rw[zq,this]
  .have G:v≠l[k]:=oj G;refine⟨aD1,k+1,⟨aD1,fun i aE=>?_⟩,aD1,ac.sub aD trivial⟩;rcases aA6 i k with aW |aW
   .exact ae i aW
   .have:i=k:=aD9
    subst this;rw[as0 cu];intro e;injection e with e
    exact G e.symm
 .have h:decide ((k:Int) < (l.length:Int))=false:=h;have eX:k=l.length:=aG1
  refine⟨_,_,_,bt,rfl,(show(-1:Int)=zq l v from ?_),trivial,rfl⟩
  have:l.idxOf? v=none:=by
   rw[List.idxOf?_eq_none_iff];intro ay;obtain⟨i,aE,e⟩:=ay5 ay;have:=ae i aD1;rw[as0 aE] at this;exact this (by rw[e])
  rw[zq,this]
def am2 (l:aI2) (v:Int) (ak:l.length<=4294967296):Fn prog 178 [bP ai l,ab v] [] [] (fX (l.contains v)) []:=by
 refine aY [] func178 ?_;refine ar (am1 l v ak) ⟨_,_,_,bt,rfl,(show decide (0<=zq l v)=l.contains v from ?_),trivial,rfl⟩;unfold zq
 cases h:l.idxOf? v with
 |none=>
  rw[List.idxOf?_eq_none_iff] at h;simp[h]
 |some i=>
  obtain⟨aE,e,_⟩:=List.idxOf?_eq_some_iff.1 h
  have:v∈l:=by
   have:=av2 aE
   rwa[show l[i]=v by simpa using e] at this
  simp[this]
end
section
abbrev am3 (x y:aG9) (i:Nat):aZ:=[(0,bP .u8 x),(1,bP .u8 y),(12,ab (x.length:Nat)),(13,ab (i:Nat))]
def am4 {x y:aG9} {i:Nat} (hx:i < x.length) (aC:i < y.length) (h:x.take i=y.take i) (U:x[i]=y[i]):x.take (i+1)=y.take (i+1):=by rw[aw6 hx,aw6 aC,h,U]
def WN (x y:aG9) (hx:x.length<=4294967296) (aC:y.length<=4294967296):Fn prog 135 [bP .u8 x,bP .u8 y] [] [] (fX (decide (x=y))) []:=by
 refine aY [] func135 ?_;refine⟨fun h=>?_,fun h=>?_⟩
 .have h:(!decide ((x.length:Int)=(y.length:Nat)))=true:=h;have a8:x≠y:=fun e=>by rw[e] at h;simp at h
  rw[av7 a8];exact bh
 have h:(!decide ((x.length:Int)=(y.length:Nat)))=false:=h;have ak:x.length=y.length:=aG1
 refine d1 [] (X:=Nat) (am3 x y) (fun _=>[]) (fun i=>i<=x.length/\x.take i=y.take i) (fun i=>x.length - i) 0 ⟨at2 _,rfl⟩ ?_ ?_
 .exact ac.sub aD trivial
 rintro i ⟨aE,cm⟩;refine⟨fun G=>?_,fun G=>?_⟩
 .have G:decide ((i:Int) < (x.length:Int))=true:=G;have ec:i < x.length:=by simpa using G
  have p9:i < y.length:=aD9
  refine⟨aD1,x[i],j4 (n:=i) ec,aD1,y[i],j4 (n:=i) p9,rfl,fun ah=>?_,fun ah=>?_⟩
  .have ah:(!decide ((UInt8.toNat x[i]:Int)=(UInt8.toNat y[i]:Nat)))=true:=ah
   have a8:x≠y:=fun e=>by
    subst e;simp at ah
   rw[av7 a8];exact bh
  .have ah:(!decide ((UInt8.toNat x[i]:Int)=(UInt8.toNat y[i]:Nat)))=false:=ah
   have U:x[i]=y[i]:=by
    have aW:(UInt8.toNat x[i]:Int)=(UInt8.toNat y[i]:Nat):=by simpa using ah
    exact UInt8.toNat_inj.1 aD1
   exact⟨aD1,i+1,⟨aD1,am4 ec p9 cm U⟩,aD1,ac.sub aD trivial⟩
 .have G:decide ((i:Int) < (x.length:Int))=false:=G;have ec:i=x.length:=by simp at G;omega
  subst ec
  have U:x=y:=by
   rw[au3] at cm;rw[cm,ak,au3]
  rw[at4 U];exact bh
end
section
structure v7 (e:bf):Prop where
 ok:oH e.s e.g=true
 gi:kT e.s e.g e.es
 nm:hg e.nm=true
abbrev am5 (l:aH7) (k:Nat):aZ:=[(0,bP .u8 (q9 false l)),(4,ap 1001),(5,ap 3001),(13,ab (l.length:Nat)),(14,ab (k:Nat))]
abbrev am6 (l':aH7) (x:aG9):aA:=[(1001,.cells [.mp 1002]),(1002,.map .str .aM (d7 l')),(1003,.aH (.bA (kA l'))),(1004,.aH (.bA (kc l'))),(3001,.cells [.d (.bG .u8 x),.d (.int .i64 0)])]
structure am7 (l:aH7) (p:Nat×List bf):Prop where
 k:p.1<=l.length
 ok:eh p.2
 Iu:p.2.map pI=((h5 l).take p.1).map q'
def WO {o o':bg} {b:Nat}: ∀{L:List (Nat×bg)},eH L b=some o->eH (fl L b o') b=some o'
 | [],h=>by cases h
 |(c,x)::L,h=>by
  by_cases e:c=b
  .subst e;simp[fl,eH]
  .have G:eH L b=some o:=by simpa[eH,e] using h
   have ah:=WO (o':=o') G;simpa[fl,eH,e] using ah
def WP {o:bg}: ∀{L:aH7} {n n':bf},n.ad∉L.map (·.ad)->n'.ad=n.ad->fl (fl (kA (L++[n])) n.ad o) n.ad (q3 n'.nm n'.on n'.us n'.dG)=kA (L++[n'])
 | [],n,n',_,e=>by simp[kA,fl,e]
 |d::L,n,n',h,e=>by
  have E: ¬d.ad=n.ad:=fun e=>h (by rw[<-e];exact at6 ..)
  have G:=WP (o:=o) (L:=L) (n:=n) (n':=n') (fun bd=>h (as6 _ bd)) e;simpa[kA,fl,E] using G
def eh.oR {L:aH7} {n n':bf} (h:eh (L++[n])) (E:n'.nm=n.nm) (G:n'.ad=n.ad) (ah:n'.dG=n.dG) (aW:n'.s=n.s) (bM:n'.g=n.g) (fU:n'.es=n.es):eh (L++[n']):=by
 refine⟨by have:=h.ji;simpa[E] using this,by have:=h.mE;simpa[G] using this,by have:=h.vU;simpa[ah] using this,fun e U=>?_,by have:=h.len;simpa using this⟩;rcases au4.1 U with U |U
 .exact h.ok e (au4.2 (.inl U))
 .rw[at7] at U;subst U;rw[E,aW,bM,fU];exact h.ok n (au4.2 (.inr (at7.2 rfl)))
def am8 {l:aH7} (h:eh l) (a2: ∀e∈l,v7 e):cC prog 82 [bP .u8 (q9 false l)] [] [1001,1002,1003,1004] (X:={l':List bf//eh l'/\l'.map pI=(h5 l).map q'}) (fun _=>.cn [.one (.ptr 1001 0),dJ 0]) (fun p=>eJ p.1):=by
 obtain⟨pt,gD,gE⟩:=kL Eo;have bX:=h.len;have hN:=amS l
 have ar5:((h5 l).flatMap (iS false)).length<=8*600:=by
  have E:=zn (iS false) 600 (h5 l) fun e U=>by
   obtain⟨cB,cH,dO,fy⟩:=h.ok e (Is U);exact WB cB cH fy
  omega
 have qY:=N7 false l
 have ar6:(q9 false l).length<=5000:=by
  rw[qY,as4,nY];simp only[List.length_singleton];omega
 have gA:=Ii (q9 false l) aD1;have lX:=pF (ez l.length 1++(h5 l).flatMap (iS false),0) 1 (.inl rfl);rw[pG aD1] at lX
 have am9:ez l.length 1++(h5 l).flatMap (iS false)=q9 false l:=by
  rw[qY];unfold eV;simp
 rw[am9] at lX;refine hZ [7,11] func82 ?_;refine ar Vj <| ar (Fn.aX [(1001,3001)] gA) <| ar (Fn.aX [(1001,3001)] lX) <| d1 [7] (X:=Nat×List bf) (fun p=>am5 l p.1) (fun p=>am6 p.2 (((h5 l).drop p.1).flatMap (iS false))) (am7 l) (fun p=>l.length - p.1) (0,[]) ⟨at2 _,?_,rfl⟩ ?_ ?_
 .exact eh.nil
 .exact ac.sub aD aD
 rintro⟨k,l'⟩ ae;have Z:k<=l.length:=ae.k;refine⟨fun J=>?_,fun J=>?_⟩
 .have J:decide ((k:Int) < (l.length:Int))=true:=J;have J:=gd J;have cu:k < (h5 l).length:=aD9
  have am':k+1<=l.length:=aD9
  obtain⟨e,U⟩: ∃e,e=(h5 l)[k]:=⟨_,rfl⟩;have rI:e∈l:=Is (U▸av2 cu);obtain⟨b',cS,en,e0⟩:=h.ok e rI;have Ob:=a2 e rI
  have eS:((h5 l).drop k).flatMap (iS false)=iS false e++((h5 l).drop (k+1)).flatMap (iS false):=by
   rw[ay6 cu,aB5,U]
  generalize gA:((h5 l).drop (k+1)).flatMap (iS false)=bp at*;have uC:=EA (iS false e++bp,0) 1 (.inl rfl);have ut:=Io e.on;have m7:=Im b' cS e.es
  have af:iS false e++bp=gW e.nm 1++(ez (iR e.on) 1++(ez (iR (e.us&&false)) 1++(gW (encZ e.s e.g e.es) 2++bp))):=by
   unfold iS eV;simp[aw1]
  rw[<-eS] at uC;have af:=eS.trans af;rw[af] at uC;rw[EB aD1] at uC;rw[<-af] at uC;have BM:=pF (ez (iR e.on) 1++(ez (iR (e.us&&false)) 1++(gW (encZ e.s e.g e.es) 2++bp)),0) 1 (.inl rfl);rw[pG ut] at BM;have t3:=pF (ez (iR (e.us&&false)) 1++(gW (encZ e.s e.g e.es) 2++bp),0) 1 (.inl rfl);rw[pG (Io _)] at t3;have t4:=EA (gW (encZ e.s e.g e.es) 2++bp,0) 2 (.inr (.inl rfl));rw[EB aD1] at t4;have ana:=amJ e.s e.g e.es Ob.ok Ob.gi;refine ar (Fn.aX [(1001,3001)] uC) <| ar (Fn.aX [(1001,3001)] BM) <| ar (Fn.aX [(1001,3001)] t3) ⟨rfl,ar (Fn.aX [(1001,3001)] t4) ⟨(show(encZ e.s e.g e.es).length<=4294967296 by omega),ar (Fn.aX [(2001,6001),(2002,6002)] ana) ?_⟩⟩;show bw _ _ _ _ _ _ _
  have anb:l'.map (·.nm)=((h5 l).take k).map (·.nm):=by
   have E:=as5 (List.map fun p:v6=>p.1) ae.Iu;rw[aw7,aw7] at E;exact E
  have dD:((h5 l).map (·.nm)).Nodup:=by
   rw[N8];unfold iB oI;rw[(List.mergeSort_perm _ _).nodup_iff,BD];exact h.ji
  have gz:l'.length=k:=by
   have:=as5 List.length ae.Iu;rw[at8,at8,at3] at this;show l'.length=k;have Gw:(k,l').snd.length=min (k,l').fst (h5 l).length:=this;have ar7:l'.length=min k (h5 l).length:=Gw;omega
  have gg:c9 l' e.nm=none:=by
   cases anc:c9 l' e.nm with
   |none=>rfl
   |some x=>
    exfalso;obtain⟨g1,g2⟩:=ke anc;have cK:e.nm∈l'.map (·.nm):=g2▸au0 g1;rw[anb] at cK;rw[<-List.take_append_drop k (h5 l),ay6 cu,<-U,aw2,au1] at dD;exact(List.nodup_append.1 dD).2.2 _ cK _ (at6 ..) rfl
  have q4:=Vq ae.ok e.nm aD1 Ob.nm gg (by show l'.length < 8;omega) e.s e.g (hK e.es (8*fL e.s e.g)) ⟨b',cS,N6 _ _⟩;refine bw.iJ fa aD4 <| dE <| lM (cC.aX [(2001,6001),(2002,6002)] q4) fun g=>dE ?_
  obtain⟨⟨ad,dG⟩,oq⟩:=g;have tf:=BG (N9 oq (e:=⟨e.nm,ad,dG,true,true,e.s,e.g,hK e.es (8*fL e.s e.g)⟩) aD3);refine bc (fun N=>ju (b:=ad) rfl (by exact as5 (fun o=>aS.c (.one (.d (.aM o)))) tf) N) ?_;have BO:=oq.D (e:=⟨e.nm,ad,dG,true,true,e.s,e.g,hK e.es (8*fL e.s e.g)⟩) aD3;refine bc (fun N=>jN rfl underlying60 rfl rfl gD aE4 rfl N) ?_;refine bc (fun N=>A3 (q:=1003) (b:=ad) (j:=1) (y:=.bool (decide (((iR e.on:Nat):Int)=1))) (l:=BC e.nm true true dG) (h':=fun _=>rfl) rfl gD gE rfl rfl rfl BO (show 1 < 4 by decide) Nu N) ?_;refine bc (fun N=>ju (b:=ad) rfl (by exact as5 (fun o=>aS.c (.one (.d (.aM o)))) tf) N) ?_;refine bc (fun N=>jN rfl underlying60 rfl rfl gD aE4 rfl N) ?_;have ane:eH (fl (kA (l'++[⟨e.nm,ad,dG,true,true,e.s,e.g,hK e.es (8*fL e.s e.g)⟩])) ad (q3 e.nm (decide (((iR e.on:Nat):Int)=1)) true dG)) ad=some (q3 e.nm (decide (((iR e.on:Nat):Int)=1)) true dG):=WO BO;refine bc (fun N=>A3 (q:=1003) (b:=ad) (j:=2) (y:=.bool (decide (((iR (e.us&&false):Nat):Int)=1))) (l:=BC e.nm (decide (((iR e.on:Nat):Int)=1)) true dG) (h':=fun _=>rfl) rfl gD gE rfl rfl rfl ane (show 2 < 4 by decide) Nu N) ?_;refine⟨eU aD4,?_⟩;have tq:decide (((iR e.on:Nat):Int)=1)=e.on:=by cases e.on <;>rfl
  have uZ:decide (((iR (e.us&&false):Nat):Int)=1)=false:=by cases e.us <;>rfl
  have Iv:ad∉l'.map (·.ad):=by
   have E:=oq.mE;rw[aw2] at E;exact fun h=>(List.nodup_append.1 E).2.2 _ h _ (at6 ..) rfl
  have l3:=WP (L:=l') (n:=⟨e.nm,ad,dG,true,true,e.s,e.g,hK e.es (8*fL e.s e.g)⟩) (n':=⟨e.nm,ad,dG,e.on,false,e.s,e.g,hK e.es (8*fL e.s e.g)⟩) (o:=q3 e.nm e.on true dG) Iv rfl
  have vc:d7 (l'++[⟨e.nm,ad,dG,true,true,e.s,e.g,hK e.es (8*fL e.s e.g)⟩])=d7 (l'++[⟨e.nm,ad,dG,e.on,false,e.s,e.g,hK e.es (8*fL e.s e.g)⟩]):=by
   unfold d7;rw[aw2,aw2];rfl
  have je:kc (l'++[⟨e.nm,ad,dG,true,true,e.s,e.g,hK e.es (8*fL e.s e.g)⟩])=kc (l'++[⟨e.nm,ad,dG,e.on,false,e.s,e.g,hK e.es (8*fL e.s e.g)⟩]):=by
   unfold kc;rw[aw2,aw2];rfl
  have anf:eh (l'++[⟨e.nm,ad,dG,e.on,false,e.s,e.g,hK e.es (8*fL e.s e.g)⟩]):=oq.oR rfl rfl rfl rfl rfl rfl;refine⟨aD1,(k+1,l'++[⟨e.nm,ad,dG,e.on,false,e.s,e.g,hK e.es (8*fL e.s e.g)⟩]),⟨am',anf,?_⟩,by show l.length - (k+1) < l.length - k;omega,ac.sub aD ⟨rfl,as5 (fun x=>some (ba.map .str .aM x)) vc,?_,as5 (fun x=>some (ba.aH (.bA x))) je,as5 (fun x=>some (ba.cells [.d (.bG .u8 x),.d (.int .i64 0)])) gA.symm,trivial⟩⟩
  .show(l'++[_]).map pI=((h5 l).take (k+1)).map q';have aQ:l'.map pI=((h5 l).take k).map q':=ae.Iu;rw[aw2,aQ,aw6 cu,aw2,<-U];rfl
  .have ang:fl (fl (kA (l'++[⟨e.nm,ad,dG,true,true,e.s,e.g,hK e.es (8*fL e.s e.g)⟩])) ad (q3 e.nm (decide (((iR e.on:Nat):Int)=1)) true dG)) ad (q3 e.nm (decide (((iR e.on:Nat):Int)=1)) (decide (((iR (e.us&&false):Nat):Int)=1)) dG)=kA (l'++[⟨e.nm,ad,dG,e.on,false,e.s,e.g,hK e.es (8*fL e.s e.g)⟩]):=by
    rw[tq,uZ];exact l3
   exact as5 (fun x=>some (ba.aH (.bA x))) ang
 .have J:decide ((k:Int) < (l.length:Int))=false:=J;have J:=oj J;have cu:k=l.length:=aD9
  subst cu
  have BI:l'.map pI=(h5 l).map q':=by
   have E:l'.map pI=((h5 l).take l.length).map q':=ae.Iu
   rwa[<-hN,au3] at E
  have aw:((h5 l).drop l.length).flatMap (iS false)=[]:=by rw[<-hN,List.drop_length];rfl
  have mf:=NX (((h5 l).drop l.length).flatMap (iS false),0);rw[show q8 (((h5 l).drop l.length).flatMap (iS false),0)=0 by rw[aw];rfl] at mf;have pE:=WC (l:=l') ae.ok true;have WQ:=amV h ae.ok (fun e U=>(a2 e U).gi) BI;have aQ:=WN (q9 true l') (q9 false l) (by rw[WQ];omega) aD1;rw[at4 WQ] at aQ;exact bz [] (bt) <| ar (Fn.aX [(1001,3001)] mf) <| dE <| ar (Fn.arg pE aD) <| ar aQ <| dE ⟨⟨l',ae.ok,BI⟩,_,_,_,bt,rfl,aD,aD,rfl⟩
end
section
def zr (c:aJ8) (p:Int×Int):Int×Int:=((p.1+(UInt8.toNat c:Int)) % 65521,(p.2+(p.1+(UInt8.toNat c:Int)) % 65521) % 65521)
def oX (x:aG9) (p:Int×Int):Int×Int:=x.foldl (fun p c=>zr c p) p
def BP (p:Int×Int):Prop:=(0<=p.1/\p.1 < 65521)/\(0<=p.2/\p.2 < 65521)
def anh {c:aJ8} {p:Int×Int} (h:BP p):BP (zr c p):=by unfold BP zr;simp only;have:=h.1;have:=h.2;omega
def Iw: ∀{x:aG9} {p:Int×Int},BP p->BP (oX x p)
 | [],_,h=>h
 |c::x,p,h=>Iw (x:=x) (anh h)
def ani (x:aG9) (c:aJ8) (p:Int×Int):oX (x++[c]) p=zr c (oX x p):=by unfold oX;rw[aC2];rfl
def jR (x:aG9):Int:=65536*(oX x (1,0)).2+(oX x (1,0)).1
def Oc (x:aG9):0<=jR x/\jR x < 4294967296:=by have h:=Iw (x:=x) (p:=(1,0)) ⟨aD2,aD2⟩;unfold jR;have:=h.1;have:=h.2;omega
def anj (c:aJ8) (p:Int×Int) (h:BP p):Fn prog 263 [k0 (.d (.int .u8 (UInt8.toNat c:Int))),ap 1001,ap 1002] [(1001,.cells [.d (.int .i64 p.1)]),(1002,.cells [.d (.int .i64 p.2)])] [] (.cn [.one (.d (.int .i64 (zr c p).1)),.one (.d (.int .i64 (zr c p).2))]) [(1001,.cells [.d (.int .i64 p.1)]),(1002,.cells [.d (.int .i64 p.2)])]:=by
 have J:UInt8.toNat c < 256:=UInt8.toNat_lt c;obtain⟨⟨E,G⟩,ah,aW⟩:=h;refine aY [] func263 ?_;have cB: -9223372036854775808<=(UInt8.toNat c:Int)/\(UInt8.toNat c:Int)<=9223372036854775807:=aD9
 refine⟨cB,?_⟩;have cH: -9223372036854775808<=p.1+(UInt8.toNat c:Int)/\p.1+(UInt8.toNat c:Int)<=9223372036854775807:=aD9
 refine⟨cH,?_⟩;have dO:0<=p.1+(UInt8.toNat c:Int)/\(0:Int) < 65521:=aD9
 have fy: -9223372036854775808<=(p.1+(UInt8.toNat c:Int)) % 65521/\(p.1+(UInt8.toNat c:Int)) % 65521<=9223372036854775807:=aD9
 refine⟨dO,fy,?_⟩;have yG: -9223372036854775808<=p.2+(p.1+(UInt8.toNat c:Int)) % 65521/\p.2+(p.1+(UInt8.toNat c:Int)) % 65521<=9223372036854775807:=aD9
 refine⟨yG,?_⟩;have xb:0<=p.2+(p.1+(UInt8.toNat c:Int)) % 65521/\(0:Int) < 65521:=aD9
 have yH: -9223372036854775808<=(p.2+(p.1+(UInt8.toNat c:Int)) % 65521) % 65521/\(p.2+(p.1+(UInt8.toNat c:Int)) % 65521) % 65521<=9223372036854775807:=aD9
 exact⟨xb,yH,rfl,bh⟩
abbrev WR (p:Int×Int):aA:=[(3,.cells [.d (.int .i64 p.1)]),(4,.cells [.d (.int .i64 p.2)])]
abbrev ank (bI:aJ0) (i:Nat):aZ:=[(3,ap 3),(4,ap 4),(5,.c (.one (.c3 263 [.p 3 0,.p 4 0]))),(11,bP (.cc .u8) bI),(12,ab (bI.length:Nat)),(13,ab (i:Nat))]
abbrev anl (bI:aJ0) (i:Nat) (x:aG9) (j:Nat):aZ:=[(3,ap 3),(4,ap 4),(5,.c (.one (.c3 263 [.p 3 0,.p 4 0]))),(11,bP (.cc .u8) bI),(12,ab (bI.length:Nat)),(13,ab (i:Nat)),(17,bP .u8 x),(18,ab (x.length:Nat)),(19,ab (j:Nat))]
def WS {bI:aJ0} {i:Nat} (h:i < bI.length):(bI.take (i+1)).flatten=(bI.take i).flatten++bI[i]:=by rw[aw6 h,List.flatten_append];simp
def Od (bI:aJ0) (ak:bI.length<=1000000) (ae: ∀x∈bI,x.length<=4294967296):Fn prog 240 [bP (.cc .u8) bI] [] [] (ab (jR bI.flatten)) []:=by
 refine aY [] func240 ?_;refine⟨rfl,rfl,d1 [] (X:=Nat) (ank bI) (fun i=>WR (oX (bI.take i).flatten (1,0))) (fun i=>i<=bI.length) (fun i=>bI.length - i) 0 (at2 _) ?_ ?_⟩
 .exact ac.sub aD aD
 intro i aE;refine⟨fun h=>?_,fun h=>?_⟩
 .have h:decide ((i:Int) < (bI.length:Int))=true:=h;have ec:i < bI.length:=aE0
  have hx:=ae _ (av2 ec);refine⟨aD1,bI[i],j4 (n:=i) ec,d1 [] (X:=Nat) (fun j=>anl bI i bI[i] j) (fun j=>WR (oX ((bI.take i).flatten++bI[i].take j) (1,0))) (fun j=>j<=bI[i].length) (fun j=>bI[i].length - j) 0 (at2 _) ?_ ?_⟩
  .refine ac.sub aD ⟨?_,?_,trivial⟩
   .rw[List.take_zero,av8];rfl
   .rw[List.take_zero,av8];rfl
  intro j V;refine⟨fun G=>?_,fun G=>?_⟩
  .have G:decide ((j:Int) < (bI[i].length:Int))=true:=G;have eR:j < bI[i].length:=by simpa using G
   have au:oX ((bI.take i).flatten++bI[i].take (j+1)) (1,0)=zr bI[i][j] (oX ((bI.take i).flatten++bI[i].take j) (1,0)):=by
    rw[aw6 eR,<-aw1,ani]
   have bx:=Iw (x:=(bI.take i).flatten++bI[i].take j) (p:=(1,0)) ⟨aD2,aD2⟩;refine⟨aD1,bI[i][j],j4 (n:=j) eR,ar (Fn.aX [(1001,3),(1002,4)] (anj bI[i][j] _ bx)) ⟨aD1,j+1,aD1,aD1,ac.sub aD ⟨?_,?_,trivial⟩⟩⟩
   .rw[au];rfl
   .rw[au];rfl
  .have G:decide ((j:Int) < (bI[i].length:Int))=false:=G;have eR:j=bI[i].length:=by simp at G;omega
   subst eR;refine⟨aD1,i+1,aD1,aD1,ac.sub aD ⟨?_,?_,trivial⟩⟩
   .rw[WS ec,au3];rfl
   .rw[WS ec,au3];rfl
 .have h:decide ((i:Int) < (bI.length:Int))=false:=h;have ec:i=bI.length:=aG1
  subst ec;rw[au3];obtain⟨⟨E,G⟩,ah,aW⟩:=Iw (x:=bI.flatten) (p:=(1,0)) ⟨aD2,aD2⟩;have cB: -9223372036854775808<=65536*(oX bI.flatten (1,0)).2/\65536*(oX bI.flatten (1,0)).2<=9223372036854775807:=aD9
  refine⟨cB,?_⟩;have cH: -9223372036854775808<=65536*(oX bI.flatten (1,0)).2+(oX bI.flatten (1,0)).1/\65536*(oX bI.flatten (1,0)).2+(oX bI.flatten (1,0)).1<=9223372036854775807:=aD9
  exact⟨cH,bh⟩
end
section
abbrev v8 (c d:Nat) (R:Int) (es:List (aa .str×aa .aM)):aA:=[(c,.cells [.d (.int .i64 R),.mp d]),(d,.map .str .aM es)]
def iT (es:List (aa .str×aa .aM)) (k:aG9):Option Nat:=(b0 es (k:aa .str)).getD (cR .aM)
def Oe (R:Int) (es:List (aa .str×aa .aM)) (name:aG9) (b:Nat) (h:iT es name=some b):Fn prog 136 [ap 1001,bW name] (v8 1001 1002 R es) [] (.cn [RP (some b),dJ 0]) (v8 1001 1002 R es):=by
 refine aY [] func136 ?_;refine⟨fun ej h'=>?_,fun h'=>?_⟩
 .exact eN bt rfl ⟨h,rfl,trivial⟩
 .exfalso;have:iT es name=none:=h';rw[h] at this
  cases this
def WT (R:Int) (es:List (aa .str×aa .aM)) (name:aG9) (h:iT es name=none):Fn prog 136 [ap 1001,bW name] (v8 1001 1002 R es) [] (.cn [nf,dJ 40]) (v8 1001 1002 R es):=by
 refine aY [] func136 ?_;refine⟨fun ej h'=>?_,fun h'=>?_⟩
 .exfalso;have:iT es name=some ej:=h';rw[h] at this
  cases this
 .exact bh
def anm (R:Int) (h:0<=R):Fn prog 28 [ab R] [] [1001,1002] (.cn [.one (.ptr 1001 0),dJ 0]) (v8 1001 1002 R []):=by
 refine aY [] func28 ?_;refine⟨fun E=>?_,fun E=>?_⟩
 .simp at E;omega
 exact⟨rfl,rfl,_,_,_,(ac.aX 9 1001 rfl).trans (ac.aX 7 1002 rfl),rfl,aD,aD,rfl⟩
def ann (R:Int) (es:List (aa .str×aa .aM)) (fr to:aG9) (b:Nat) (ak:to.length<=4294967296) (h:hg to=true) (hn:iT es fr=some b):Fn prog 185 [ap 1001,bW fr,bW to] (v8 1001 1002 R es) [] (ab 0) (v8 1001 1002 R (dx (g0 es (fr:aa .str)) (to:aa .str) (some b:aI1))):=by
 refine aY [] func185 ?_;refine ar (qV _ ak) ⟨fun E=>?_,fun E=>?_⟩
 .rw[h] at E;cases E
 refine ar (Oe R es fr b hn) ⟨fun G=>?_,fun G=>?_⟩
 .exact as3 G aD2
 exact⟨trivial,bh⟩
end
section
abbrev Of (c d q:Nat) (R:Int) (es:List (aa .str×aa .aM)) (L:List (Nat×bg)):aA:=[(c,.cells [.d (.int .i64 R),.mp d]),(d,.map .str .aM es),(q,.aH (.bA L))]
def ano (R:Int) (es:List (aa .str×aa .aM)) (L:List (Nat×bg)) (name:aG9) (n:Int) (ak:name.length<=4294967296) (E:hg name=true) (G:(sj n&&decide (0<=R))=true) (aW:iT es name=none) (bM:es.length < 16):
  cC prog 183 [ap 1001,bW name,ab n] (Of 1001 1002 1003 R es L) [] (fun b:Nat=>.cn [RP (some b),dJ 0]) (fun b=>Of 1001 1002 1003 R (dx es (name:aa .str) (some b:aI1)) ((b,ht ⟨n,R,[],[],[]⟩)::L)):=by
 refine hZ [8] func183 ?_;refine ar (Fn.aX [(1001,2001)] (amX n R G)) <| ar (qV _ ak) ⟨fun af=>?_,fun af=>?_⟩
 .rw[E] at af;cases af
 refine⟨fun ao=>?_,fun ao=>?_⟩
 .exact as3 ao aD2
 refine⟨fun ej bo=>?_,fun bo=>?_⟩
 .exfalso;have:iT es name=some ej:=bo;rw[aW] at this
  cases this
 refine⟨fun c7=>?_,fun c7=>?_⟩
 .exfalso;simp at c7;omega
 exact bw.ff (dv.name 8 2001 rfl rfl) fun b=>bz [] (bt) ⟨trivial,b,_,_,_,ac.put 1003 2001 aD2 rfl rfl,rfl,aD,aD,rfl⟩
end
section
abbrev iD:=List (aa ai×aa hj)
def tr (x:aa hj):Prop:=List.length (α:=UInt8) x=16
def tr.wf {x:aa hj} (h:tr x):o4 hj x:=⟨h,fun _ _=>trivial⟩
def ts (eP:aI2):Nat->List (aa qi)->iD->iD
 |_,[],s=>s
 |k,w::l,s=>ts eP (k+1) l (match eP.contains (k:Int) with
  |true=>dx s w.1 w.2
  |false=>s)
def WU (eP:aI2) (w:aa qi): ∀(l:List (aa qi)) (k:Nat) (s:iD),ts eP k (l++[w]) s=match eP.contains ((k+l.length:Nat):Int) with
  |true=>dx (ts eP k l s) w.1 w.2
  |false=>ts eP k l s
 | [],k,s=>rfl
 |v::l,k,s=>by
  rw[List.cons_append,ts,WU eP w l (k+1)];rw[show k+1+l.length=k+(v::l).length by simp;omega];rfl
def cq.n2 (m:cq) (eP:aI2):cq:=let s:=ts eP 0 m.fA m.n1;{m with n1:=s,bO:=s,fA:=[]}
def anp (eP:aI2) (k:Int) (ak:eP.length<=4294967296):Fn prog 177 [ab k,ap 1001] [(1001,.cells [.d (.bG ai eP)])] [] (fX (eP.contains k)) [(1001,.cells [.d (.bG ai eP)])]:=by refine aY [] func177 ?_;exact ar (am2 eP k ak) bh
abbrev anq (m:cq) (eP:aI2) (k:Nat):aZ:=[(0,ap 1001),(4,.c (.one (.c3 177 [.p 3 0]))),(11,eC 1004),(12,ab (m.fA.length:Nat)),(13,ab (k:Nat))]
abbrev anr (m:cq) (eP:aI2) (s:iD):aA:=i' 1001 1002 1003 1004 {m with n1:=s}++[(3,.cells [.d (.bG ai eP)])]
def ans (m:cq) (eP:aI2) (Z:eP.length<=4294967296) (ak:m.fA.length<=4294967296) (hw: ∀w,w∈m.fA->tr w.2):
  Fn prog 129 [ap 1001,bP ai eP] (i' 1001 1002 1003 1004 m) [2001,2002] g4 (i' 1001 1002 2001 2002 (m.n2 eP)):=by
 refine aY [] func129 ?_;refine⟨rfl,d1 [] (X:=Nat) (anq m eP) (fun k=>anr m eP (ts eP 0 (m.fA.take k) m.n1)) (fun k=>k<=m.fA.length) (fun k=>m.fA.length - k) 0 (at2 _) ?_ ?_⟩
 .exact ac.sub aD aD
 intro k cu;refine⟨fun h=>?_,fun h=>?_⟩
 .have eX:k < m.fA.length:=by
   have h:decide ((k:Int) < (m.fA.length:Int))=true:=h;simpa using h
  have nP:=hw _ (av2 eX)
  have sg:ts eP 0 (m.fA.take (k+1)) m.n1=match eP.contains (k:Int) with
    |true=>dx (ts eP 0 (m.fA.take k) m.n1) (m.fA[k]).1 (m.fA[k]).2
    |false=>ts eP 0 (m.fA.take k) m.n1:=by
   rw[aw6 eX,WU,at3,Nat.min_eq_left aD1,aw9]
  refine⟨⟨aD1,by show(k:Int) < (m.fA.length:Nat);omega⟩,m.fA[k],j4 (n:=k) eX,rfl,ar (Fn.aX [(1001,3)] (anp eP (k:Nat) Z)) ⟨fun G=>?_,fun G=>?_⟩⟩
  .rw[G] at sg;refine⟨(m.fA[k]).2,⟨nP.wf,rfl⟩,rfl,aD1,k+1,aD1,aD1,ac.sub aD ⟨rfl,?_,rfl,rfl,rfl,trivial⟩⟩;rw[sg];rfl
  .rw[G] at sg;refine⟨aD1,k+1,aD1,aD1,ac.sub aD ⟨rfl,?_,rfl,rfl,rfl,trivial⟩⟩;rw[sg];rfl
 .have h:decide ((k:Int) < (m.fA.length:Int))=false:=h;have eX:k=m.fA.length:=aG1
  subst eX;rw[au3];exact ar (Fn.aX [(1001,1002)] (WL (ts eP 0 m.fA m.n1))) ⟨_,_,_,ac.wL 1001 4 2002 259 qi rfl rfl rfl,rfl,trivial,aD,rfl⟩
def WV (m:cq) (eP:aI2) (Z:eP.length<=4294967296) (ak:m.fA.length<=4294967296) (hw: ∀w,w∈m.fA->tr w.2):
  Fn prog 129 [ap 1001,bP ai eP] [(1001,.aH (ht m))] [] g4 [(1001,.aH (ht (m.n2 eP)))]:=
 Oa (aJ:=[]) (aT:=[]) [(2001,1003),(2002,1004)] (ans m eP Z ak hw) ⟨rfl,rfl,rfl,rfl⟩ rfl rfl
end
section
def ant (a b:Int):(fT ai (a:aa ai) (b:aa ai)=true)↔a=b:=by show zV a b=true↔a=b;unfold zV;exact decide_eq_true_iff
def Og {α l7:Type} {f:α->l7}: ∀{l:List α},(l.map f).Nodup-> ∀{p q:α},p∈l->q∈l->f p=f q->p=q
 | [],_,_,_,h,_,_=>by cases h
 |a::l,h,p,q,ae,aQ,e=>by
  rw[au1,av5] at h;rcases as8.1 ae with ae |ae <;>rcases as8.1 aQ with aQ |aQ
  .rw[ae,aQ]
  .exact as3 (by rw[<-ae,e];exact au0 aQ) h.1
  .exact as3 (by rw[<-aQ,<-e];exact au0 ae) h.1
  .exact Og h.2 ae aQ e
end
section
def sk {aK:bB} (es:List (aa ai×aa aK)):List Int:=es.map fun p=>(show Int from p.1)
def EI (s:iD) (a:Int):aa hj:=(b0 s (a:aa ai)).getD (cR hj)
def ja (s:iD) (a:Int):aG9:=EI s a
def qk (s:iD) (a:Int) (k:Nat):aG9:=(List.range k).flatMap fun i=>ja s (a+(i:Nat))
def xA (s:iD):Prop:= ∀p∈s,tr p.2
def WW {aI aK:bB} {k:aa aI} {x:aa aK}: ∀{l:List (aa aI×aa aK)},b0 l k=some x-> ∃p∈l,p.2=x
 | [],h=>by cases h
 |p::l,h=>by
  unfold b0 at h
  split at h
  .injection h with h
   exact⟨p,at6 ..,h⟩
  .obtain⟨q,aQ,e⟩:=WW h;exact⟨q,as6 _ aQ,e⟩
def WX {s:iD} (h:xA s) (a:Int):tr (EI s a):=by
 unfold EI
 cases e:b0 s (a:aa ai) with
 |none=>exact at5
 |some x=>
  obtain⟨p,ae,e⟩:=WW e;rw[<-e];exact h p ae
def WY (s:iD) (a:Int) (k:Nat):qk s a (k+1)=qk s a k++ja s (a+(k:Nat)):=by unfold qk;rw[List.range_succ,List.flatMap_append];simp
def Ix {s:iD} (h:xA s) (a:Int): ∀k,(qk s a k).length=16*k
 |0=>rfl
 |k+1=>by
  have e:(ja s (a+(k:Nat))).length=16:=WX h _;rw[WY,as4,Ix h a k];omega
abbrev WZ (at_ aO:Int) (k r:Nat):aZ:=[(0,ap 1001),(1,ab at_),(2,ab aO),(8,eC r),(20,ab aO),(21,ab (k:Nat))]
abbrev W0 (m:cq) (r:Nat) (x:aG9):aA:=i' 1001 1002 1003 1004 m++[(r,.row 5 .u8 x)]
def anu (m:cq) (at_ aO:Int) (h:0<=aO) (aE:m.lF at_ aO=true) (E:0<=m.n) (G:m.n<=4096) (hw:xA m.bO):Fn prog 235 [ap 1001,ab at_,ab aO] [(1001,.aH (ht m))] [] (.cn [.one (.d (.bG .u8 (qk m.bO at_ aO.toNat))),dJ 0]) [(1001,.aH (ht m))]:=by
 refine EH (aJ:=[]) (aT:=[]) (bb:=[]) ?_ rfl rfl;refine aY [] func235 ?_;refine⟨fun E=>?_,fun _=>?_⟩
 .have E:aO < 0:=gd E;omega
 refine ar (N' m at_ aO h E G) ?_;rw[aE];refine dE ?_;simp only[cq.lF,as1,av6] at aE;obtain⟨⟨kG,jX⟩,vt⟩:=aE;refine d1 [] (X:=Nat) (fun k=>WZ at_ aO k 2003) (fun k=>W0 m 2003 (qk m.bO at_ k)) (fun k=>(k:Int)<=aO) (fun k=>aO.toNat - k) 0 h ?_ ?_
 .exact ac.trans (ac.nil 8 2003 5 .u8 rfl rfl) (ac.sub aD aD)
 intro k Z;refine⟨fun J=>?_,fun J=>?_⟩
 .have cu:(k:Int) < aO:=gd J;have nP:=WX hw (at_+(k:Nat));have bX:=Ix hw at_ k;refine⟨aD1,rfl,EI m.bO (at_+(k:Nat)),⟨nP.wf,rfl⟩,?_⟩
  have af:(qk m.bO at_ k).length+(ja m.bO (at_+(k:Nat))).length<=4294967296:=by
   have:(ja m.bO (at_+(k:Nat))).length=16:=nP;omega
  refine⟨af,rfl,aD1,k+1,aD1,aD1,ac.trans (ac.sub (K':=WZ at_ aO (k+1) 34) (B':=W0 m 34 (qk m.bO at_ (k+1))) aD ⟨rfl,rfl,rfl,rfl,?_,trivial⟩) (ac.aX 34 2003 rfl)⟩;rw[WY];rfl
 .have cu:k=aO.toNat:=by
   have: ¬(k:Int) < aO:=oj J;omega
  subst cu;exact⟨_,_,_,ac.eb 2003 rfl,rfl,aD,aD,rfl⟩
end
section
def Iy (b:aG9) (k:Nat):aG9:=List.take 16 ((b.take ((((k:Nat):Int)+1)*16).toNat).drop (((k:Nat):Int)*16).toNat)
def tt (b:aG9) (k:Nat):aa hj:=Iy b k
def Oh {b:aG9} {k:Nat} (h:16*(k+1)<=b.length):tr (tt b k):=by show(List.take 16 ((b.take _).drop _)).length=16;rw[at3,ax4,at3];omega
def anv (b:aG9) (k:Nat):Iy b k=(b.drop (16*k)).take 16:=by
 unfold Iy;rw[show((((k:Nat):Int)+1)*16).toNat=16*k+16 by omega,show(((k:Nat):Int)*16).toNat=16*k by omega,List.drop_take,List.take_take]
 congr 1
 omega
abbrev Iz (a:Int) (x:aa hj):aa qi:=(a,x)
def zs (at_:Int) (b:aG9) (s:iD):Nat->iD
 |0=>s
 |k+1=>dx (zs at_ b s k) (at_+(k:Nat):Int) (tt b k)
def xB (at_:Int) (b:aG9) (l:List (aa qi)):Nat->List (aa qi)
 |0=>l
 |k+1=>xB at_ b l k++[Iz (at_+(k:Nat)) (tt b k)]
def Oi (at_:Int) (b:aG9) (l:List (aa qi)): ∀k,(xB at_ b l k).length=l.length+k
 |0=>rfl
 |k+1=>by rw[xB,as4,Oi];simp;omega
def mj (s:iD) (at_:Int):Nat->Nat
 |0=>0
 |k+1=>match(b0 s (at_+(k:Nat):Int)).isSome with
  |true=>mj s at_ k
  |false=>mj s at_ k+1
def W1 (s:iD) (at_:Int): ∀k,mj s at_ k<=k
 |0=>as2 _
 |k+1=>by
  have:=W1 s at_ k;unfold mj
  split <;>omega
def cq.sl (m:cq) (at_:Int) (k:Nat):Bool:=decide (m.R < (m.bO.length+mj m.bO at_ k:Nat))&&decide (0 < mj m.bO at_ k)
def cq.IA (m:cq) (at_:Int) (b:aG9):cq:={m with bO:=zs at_ b m.bO (b.length/16),fA:=xB at_ b m.fA (b.length/16)}
def v' (b:aG9):Bool:=decide (b.length=0)|| !decide (b.length % 16=0)
abbrev anw (m:cq) (at_:Int) (b:aG9) (k:Nat):aZ:=[(0,ap 1001),(1,ab at_),(2,bP .u8 b),(7,ab (b.length/16:Nat)),(8,ab (m.bO.length+mj m.bO at_ k:Nat)),(35,ab (b.length/16:Nat)),(36,ab (k:Nat))]
abbrev Oj (m:cq) (at_:Int) (b:aG9) (k:Nat):aZ:=[(0,ap 1001),(1,ab at_),(2,bP .u8 b),(7,ab (b.length/16:Nat)),(67,ab (b.length/16:Nat)),(68,ab (k:Nat))]
abbrev Ok (m:cq) (at_:Int) (b:aG9) (k r:Nat):aA:=i' 1001 1002 1003 r {m with bO:=zs at_ b m.bO k,fA:=xB at_ b m.fA k}
def Ol (b:aG9):v' b=(decide ((b.length:Int)=0)|| !decide ((b.length:Int) % 16=0)):=by
 have af:decide (b.length=0)=decide ((b.length:Int)=0):=by rw[Bool.eq_iff_iff,decide_eq_true_iff,decide_eq_true_iff];omega
 have ao:decide (b.length % 16=0)=decide ((b.length:Int) % 16=0):=by rw[Bool.eq_iff_iff,decide_eq_true_iff,decide_eq_true_iff];omega
 rw[v',af,ao]
def Om {b:aG9} (ak:b.length<=4294967296):(0<=(b.length:Int)/\(0:Int) < 16)/\(-9223372036854775808<=(b.length:Int)/16/\(b.length:Int)/16<=9223372036854775807)/\(-9223372036854775808<=(b.length:Int) % 16/\(b.length:Int) % 16<=9223372036854775807):=aD9
def anx (m:cq) (at_:Int) (b:aG9) (ak:b.length<=4294967296) (h:v' b=true):Fn prog 246 [ap 1001,ab at_,bP .u8 b] [(1001,.aH (ht m))] [] (ab 1) [(1001,.aH (ht m))]:=by
 refine EH (aJ:=[]) (aT:=[]) (bb:=[]) ?_ rfl rfl;rw[Ol] at h;obtain⟨b4,cf,a3⟩:=Om ak;refine aY [] func246 ?_;refine⟨b4,cf,fun _=>?_,fun E=>?_⟩
 .exact bh
 refine⟨b4,a3,fun _=>?_,fun G=>?_⟩
 .exact bh
 .have E:decide ((b.length:Int)=0)=false:=E;have G:(!decide ((b.length:Int) % 16=0))=false:=G;rw[E,G] at h
  cases h
def anz (m:cq) (at_:Int) (b:aG9) (ak:b.length<=4294967296) (h:v' b=false) (aE:m.lF at_ (b.length/16:Nat)=false) (E:0<=m.n) (G:m.n<=4096):Fn prog 246 [ap 1001,ab at_,bP .u8 b] [(1001,.aH (ht m))] [] (ab 31) [(1001,.aH (ht m))]:=by refine EH (aJ:=[]) (aT:=[]) (bb:=[]) ?_ rfl rfl;rw[Ol,ax0] at h;obtain⟨b4,cf,a3⟩:=Om ak;refine aY [] func246 ?_;refine⟨b4,cf,fun ah=>as3 (h.1.symm.trans ah) aD2,fun _=>⟨b4,a3,fun ah=>as3 (h.2.symm.trans ah) aD2,fun _=>ar (N' m at_ (b.length/16:Nat) aD1 E G) ?_⟩⟩;rw[aE];exact fm bh
def anA (m:cq) (at_:Int) (b:aG9) (ak:b.length<=4294967296) (h:v' b=false) (aE:m.lF at_ (b.length/16:Nat)=true) (E:0<=m.n) (G:m.n<=4096) (ah:m.bO.length<=4096) (hw:xA m.bO) (BQ:m.fA.length+b.length<=4294967296):
  Fn prog 246 [ap 1001,ab at_,bP .u8 b] (i' 1001 1002 1003 1004 m) [2004] (ab (match m.sl at_ (b.length/16) with |true=>30 |false=>0)) (match m.sl at_ (b.length/16) with |true=>i' 1001 1002 1003 1004 m |false=>i' 1001 1002 1003 2004 (m.IA at_ b)):=by
 rw[Ol,ax0] at h;obtain⟨b4,cf,a3⟩:=Om ak;refine aY [] func246 ?_;refine⟨b4,cf,fun ah=>as3 (h.1.symm.trans ah) aD2,fun _=>⟨b4,a3,fun ah=>as3 (h.2.symm.trans ah) aD2,fun _=>ar (N' m at_ (b.length/16:Nat) aD1 E G) ?_⟩⟩;rw[aE];refine dE ?_;simp only[cq.lF,as1,av6] at aE;obtain⟨⟨kG,jX⟩,vt⟩:=aE;refine ar (WM m) ?_;show bw _ _ _ _ _ _ _;have bK:((b.length:Int)/16)=((b.length/16:Nat):Int):=aD9
 have Bc:=W1 m.bO at_;refine d1 [] (X:=Nat) (anw m at_ b) (fun k=>i' 1001 1002 1003 1004 m) (fun k=>k<=b.length/16) (fun k=>b.length/16 - k) 0 (at2 _) ?_ ?_
 .exact ac.sub ⟨rfl,rfl,rfl,bK,rfl,bK,rfl,trivial⟩ aD
 intro k Z;refine⟨fun J=>?_,fun J=>?_⟩
 .have cu:(k:Int) < (b.length/16:Nat):=gd J;have zi:=Bc k;refine⟨aD1,rfl,?_⟩
  have au:mj m.bO at_ (k+1)=match(b0 m.bO (at_+(k:Nat):Int)).isSome with
    |true=>mj m.bO at_ k
    |false=>mj m.bO at_ k+1:=rfl
  refine⟨fun aW=>?_,fun aW=>?_⟩
  .have aW:(b0 m.bO (at_+(k:Nat):Int)).isSome=false:=by
    have aW:(!(b0 m.bO (at_+(k:Nat):Int)).isSome)=true:=aW;simpa using aW
   rw[aW] at au;have au:mj m.bO at_ (k+1)=mj m.bO at_ k+1:=au;refine⟨aD1,aD1,k+1,aD1,aD1,ac.sub ⟨rfl,rfl,rfl,rfl,?_,rfl,rfl,trivial⟩ aD⟩;show _=_;rw[au];omega
  .have aW:(b0 m.bO (at_+(k:Nat):Int)).isSome=true:=by
    have aW:(!(b0 m.bO (at_+(k:Nat):Int)).isSome)=false:=aW;simpa using aW
   rw[aW] at au;refine⟨aD1,k+1,aD1,aD1,ac.sub ⟨rfl,rfl,rfl,rfl,?_,rfl,rfl,trivial⟩ aD⟩;show _=_;rw[au]
 .have cu:k=b.length/16:=by
   have: ¬(k:Int) < (b.length/16:Nat):=oj J;omega
  subst cu;have zi:=Bc (b.length/16);refine⟨fun cD=>?EF,fun cD=>?EG⟩
  case' EF=>
   have cD:decide (m.R < (m.bO.length+mj m.bO at_ (b.length/16):Nat))=true:=cD;refine ar (WM m) ?_;refine⟨fun cv=>?On,fun cv=>?anB⟩
  case On=>
   have cv:decide (((m.bO.length:Nat):Int) < (m.bO.length+mj m.bO at_ (b.length/16):Nat))=true:=cv
   have hf:m.sl at_ (b.length/16)=true:=by
    have aw:0 < mj m.bO at_ (b.length/16):=by have:=gd cv;omega
    rw[cq.sl,cD,at4 aw];rfl
   rw[hf];exact bh
  case' anB=>
   have cv:decide (((m.bO.length:Nat):Int) < (m.bO.length+mj m.bO at_ (b.length/16):Nat))=false:=cv
   have hf:m.sl at_ (b.length/16)=false:=by
    have aw: ¬0 < mj m.bO at_ (b.length/16):=by have:=oj cv;omega
    rw[cq.sl,cD,av7 aw];rfl
   clear cD cv
  case' EG=>
   have cD:decide (m.R < (m.bO.length+mj m.bO at_ (b.length/16):Nat))=false:=cD
   have hf:m.sl at_ (b.length/16)=false:=by
    rw[cq.sl,cD];rfl
   clear cD
  all_goals
   rw[hf];refine d1 [] (X:=Nat) (Oj m at_ b) (fun k=>Ok m at_ b k 2004) (fun k=>k<=b.length/16) (fun k=>b.length/16 - k) 0 (at2 _) ?_ ?_
   .exact ac.trans (cM (Oj m at_ b 0) (Ok m at_ b 0 1004)) (ac.aX 1004 2004 rfl)
   intro k Z;refine⟨fun J=>?_,fun J=>?_⟩
   .have cu:(k:Int) < (b.length/16:Nat):=gd J;have nP:tr (tt b k):=Oh aD1;have nh:=Oi at_ b m.fA k;have cB: -9223372036854775808<=(k:Int)*16/\(k:Int)*16<=9223372036854775807:=aD9
    have cH: -9223372036854775808<=(k:Int)+1/\(k:Int)+1<=9223372036854775807:=aD9
    have dO: -9223372036854775808<=((k:Int)+1)*16/\((k:Int)+1)*16<=9223372036854775807:=aD9
    have fy:0<=(k:Int)*16/\(k:Int)*16<=((k:Int)+1)*16/\((k:Int)+1)*16<=(b.length:Nat):=aD9
    refine⟨cB,cH,dO,fy,?_⟩
    have yG:0 < 16/\16<=((b.take (((k:Int)+1)*16).toNat).drop ((k:Int)*16).toNat).length:=by
     rw[ax4,at3];omega
    refine⟨yG,rfl,?_⟩;have xb: -9223372036854775808<=at_+(k:Nat)/\at_+(k:Nat)<=9223372036854775807:=aD9
    refine⟨xb,tt b k,⟨nP.wf,rfl⟩,rfl,xb,rfl,Iz (at_+(k:Nat)) (tt b k),⟨⟨trivial,nP.wf⟩,rfl⟩,?_⟩
    have yH:(xB at_ b m.fA k).length+ [Iz (at_+(k:Nat)) (tt b k)].length<=4294967296:=by
     rw[nh];simp only[aw4,List.length_nil];omega
    exact⟨yH,rfl,rfl,aD1,k+1,aD1,aD1,ac.trans (cM (Oj m at_ b (k+1)) (Ok m at_ b (k+1) 99)) (ac.aX 99 2004 rfl)⟩
   .have cu:k=b.length/16:=by
     have: ¬(k:Int) < (b.length/16:Nat):=oj J;omega
    subst cu;exact bh
def cq.write (m:cq) (at_:Int) (b:aG9):cq×Int:=match v' b with
 |true=>(m,1)
 |false=>match m.lF at_ (b.length/16:Nat) with
  |false=>(m,31)
  |true=>match m.sl at_ (b.length/16) with
   |true=>(m,30)
   |false=>(m.IA at_ b,0)
def anC (m:cq) (at_:Int) (b:aG9) (ak:b.length<=1073741824) (E:0<=m.n) (G:m.n<=4096) (ah:m.bO.length<=4096) (hw:xA m.bO) (BQ:m.fA.length<=1073741824):
  Fn prog 246 [ap 1001,ab at_,bP .u8 b] [(1001,.aH (ht m))] [] (ab (m.write at_ b).2) [(1001,.aH (ht (m.write at_ b).1))]:=by
 unfold cq.write
 cases af:v' b with
 |true=>exact anx m at_ b aD1 af
 |false=>
  simp only
  cases ao:m.lF at_ (b.length/16:Nat) with
  |false=>exact anz m at_ b aD1 af ao E G
  |true=>
   simp only;have h:=anA m at_ b aD1 af ao E G ah hw aD1
   cases bo:m.sl at_ (b.length/16) with
   |true=>rw[bo] at h;exact EH (aJ:=[]) (aT:=[]) (bb:=[2004]) h rfl rfl
   |false=>rw[bo] at h;exact Oa (aJ:=[]) (aT:=[]) (bb:=[2004]) [(2004,1004)] h ⟨rfl,rfl,rfl,rfl⟩ rfl rfl
end
section
abbrev ey:=List (Nat×cq)
def e6 (L:ey):List (Nat×bg):=L.map fun p=>(p.1,ht p.2)
def h6:ey->Nat->Option cq
 | [],_=>none
 |p::L,b=>if p.1=b then some p.2 else h6 L b
def iE:ey->Nat->cq->ey
 | [],_,_=>[]
 |p::L,b,m=>if p.1=b then(p.1,m)::L else p::iE L b m
def W2 (b:Nat): ∀L:ey,eH (e6 L) b=(h6 L b).map ht
 | []=>rfl
 |p::L=>by
  show(if p.1=b then some (ht p.2) else eH (e6 L) b)=_;unfold h6
  split
  .rfl
  .exact W2 b L
def W3 (b:Nat) (m:cq): ∀L:ey,fl (e6 L) b (ht m)=e6 (iE L b m)
 | []=>rfl
 |p::L=>by
  show(if p.1=b then(p.1,ht m)::e6 L else(p.1,ht p.2)::fl (e6 L) b (ht m))=_;unfold iE
  split
  .rfl
  .rw[W3 b m L];rfl
abbrev n3 (c d q:Nat) (R:Int) (es:List (aa .str×aa .aM)) (L:ey):aA:=Of c d q R es (e6 L)
def BR {f:aI5} {args:List aS} {res:aS} {m gN:cq} {L:ey} {b:Nat} (h:Fn prog f (ap 1001::args) [(1001,.aH (ht m))] [] res [(1001,.aH (ht gN))]) (cO:h6 L b=some m)
  (E:(args.all fun v=> !v.has 1001)=true) (G:(!res.has 1001)=true):Fn prog f (dy b::args) [(1003,.aH (.bA (e6 L)))] [] res [(1003,.aH (.bA (e6 (iE L b gN))))]:=by
 have:=(cC.bA (c:=1001) (q:=1003) (b:=b) (args:=args) (aJ:=[]) (bb:=[]) (X:=Unit) (res:=fun _=>res) (aT:=fun _=>[]) (o:=ht m) (o':=fun _=>ht gN) (L:=e6 L) h.x (by rw[W2,cO];rfl) E ⟨rfl,rfl⟩ rfl (fun _=>G)).fn;rw[W3] at this;exact this
def anD (R:Int) (es:List (aa .str×aa .aM)) (name:aG9):Fn prog 182 [ap 1001,bW name] (v8 1001 1002 R es) [] (ab (match iT es name with |some _=>0 |none=>40)) (v8 1001 1002 R (g0 es (name:aa .str))):=by
 cases h:iT es name with
 |some b=>
  refine aY [] func182 ?_;exact ar (Oe R es name b h) bh
 |none=>
  refine aY [] func182 ?_;exact ar (WT R es name h) bh
structure pJ (n:Int) (s:iD):Prop where
 ho:(sk s).Nodup
 rg: ∀k∈sk s,0<=k/\k < n
 wf:xA s
structure hu (m:cq):Prop where
 lX:0<=m.n
 c0:m.n<=4096
 bO:pJ m.n m.bO
 n1:pJ m.n m.n1
 anE: ∀w∈m.fA,0<=(show Int from w.1)/\(show Int from w.1) < m.n
 Oo: ∀w∈m.fA,tr w.2
def nz (k:Int) (p:aa ai×aa hj):Bool:=fT ai (k:aa ai) p.1
def zt (k:Int) (x:aa hj):aa ai×aa hj:=(k,x)
def EJ (p:aa ai×aa hj):Int:=p.1
def tu (s:iD) (k:Int) (x:aa hj):iD:=dx s (k:aa ai) x
def IB (k:Int) (x:aa hj):tu [] k x=[zt k x]:=rfl
def BS (p:aa ai×aa hj) (l:iD) (k:Int) (x:aa hj):tu (p::l) k x=match nz k p with |true=>zt k x::l |false=>p::tu l k x:=rfl
def tv {k:Int} {p:aa ai×aa hj}:nz k p=true↔k=EJ p:=ant _ _
def wa (p:aa ai×aa hj) (l:iD):sk (p::l)=EJ p::sk l:=rfl
def Oq (k:Int) (x:aa hj):EJ (zt k x)=k:=rfl
def Ot {k:Int} {x:aa hj} {j:Int}: ∀{s:iD},j∈sk (tu s k x)↔j=k\/j∈sk s
 | []=>by rw[IB,wa,Oq,as8]
 |p::s=>by
  rw[BS]
  cases e:nz k p with
  |true=>
   rw[wa,wa,Oq,<-tv.1 e];simp
  |false=>
   simp only;rw[wa,wa,as8,as8,Ot];constructor
   .rintro(h |h |h)
    .exact .inr (.inl h)
    .exact .inl h
    .exact .inr (.inr h)
   .rintro(h |h |h)
    .exact .inr (.inl h)
    .exact .inl h
    .exact .inr (.inr h)
def W4 {k:Int} {x:aa hj}: ∀{s:iD},(sk s).Nodup->(sk (tu s k x)).Nodup
 | [],_=>by rw[IB,wa];exact av5.2 ⟨fun h=>aE1,ay9⟩
 |p::s,h=>by
  rw[wa,av5] at h;rw[BS]
  cases e:nz k p with
  |true=>
   simp only;rw[wa,Oq,tv.1 e];exact av5.2 h
  |false=>
   have e:k≠EJ p:=fun bd=>by rw[tv.2 bd] at e;cases e
   simp only;rw[wa];refine av5.2 ⟨fun ay=>?_,W4 h.2⟩;rcases Ot.1 ay with bd |bd
   .exact e bd.symm
   .exact h.1 bd
def W5 {k:Int} {x:aa hj} (hx:tr x): ∀{s:iD},xA s->xA (tu s k x)
 | [],_=>fun p ae=>by
  rw[IB] at ae;rcases as8.1 ae with e |e
  .rw[e];exact hx
  .cases e
 |q::s,h=>fun p ae=>by
  rw[BS] at ae
  split at ae
  .rcases as8.1 ae with rfl |ae
   .exact hx
   .exact h p (as6 _ ae)
  .rcases as8.1 ae with rfl |ae
   .exact h _ (at6 ..)
   .exact W5 hx (fun p ae=>h p (as6 _ ae)) p ae
def pJ.put {n:Int} {s:iD} (h:pJ n s) {k:Int} {x:aa hj} (aw:0<=k) (E:k < n) (hx:tr x):pJ n (dx s (k:aa ai) x):=
 ⟨W4 h.ho,fun j V=>by
  rcases Ot.1 V with rfl |V
  .exact⟨aw,E⟩
  .exact h.rg j V,W5 hx h.wf⟩
def pJ.nil (n:Int):pJ n []:=⟨ay9,fun k h=>aE1,fun p h=>aE1⟩
def IC: ∀(n:Nat) (l:aI2),l.Nodup->(∀k∈l,0<=k/\k < n)->l.length<=n
 |0,[],_,_=>as2 _
 |0,k::l,_,h=>by have:=h k (at6 ..);omega
 |n+1,l,hn,h=>by
  by_cases ay:(n:Int)∈l
  .have E:=IC n (l.erase (n:Int)) (hn.erase _) fun k Z=>by
    have eX:=(List.Nodup.mem_erase_iff hn).1 Z;have:=h k eX.2;have:=eX.1;omega
   rw[List.length_erase_of_mem ay] at E;omega
  .have:=IC n l hn fun k Z=>by
    have:=h k Z;have:k≠n:=fun e=>ay (e▸Z)
    omega
   omega
def pJ.len {n:Int} {s:iD} (h:pJ n s) (E:n<=4096):s.length<=4096:=by
 have:=IC 4096 (sk s) h.ho fun k Z=>by have:=h.rg k Z;omega
 rwa[show(sk s).length=s.length from at8 _] at this
def hu.new {n R:Int} (h:sj n=true):hu ⟨n,R,[],[],[]⟩:=by simp[sj] at h;exact⟨h.1,h.2,pJ.nil _,pJ.nil _,fun w hw=>(by cases hw),fun w hw=>(by cases hw)⟩
def hu.qj {m:cq} (h:hu m):hu m.qj:=⟨h.lX,h.c0,h.bO,h.bO,fun w hw=>(by cases hw),fun w hw=>(by cases hw)⟩
def Ou {n at_:Int} {b:aG9} (aw:0<=at_) {s:iD} (h:pJ n s): ∀k:Nat,at_+k<=n->16*k<=b.length->pJ n (zs at_ b s k)
 |0,_,_=>h
 |k+1,E,G=>(Ou aw h k aD1 aD1).put aD1 aD1 (Oh G)
def Ov {at_:Int} {b:aG9} {l:List (aa qi)} {w:aa qi}: ∀k:Nat,w∈xB at_ b l k->w∈l\/ ∃i,i < k/\w=Iz (at_+(i:Nat)) (tt b i)
 |0,h=>.inl h
 |k+1,h=>by
  rcases au4.1 h with h |h
  .rcases Ov k h with h |⟨i,aE,e⟩
   .exact .inl h
   .exact .inr ⟨i,aD1,e⟩
  .rw[at7] at h;exact .inr ⟨k,aD1,h⟩
def hu.write {m:cq} (h:hu m) (at_:Int) (b:aG9):hu (m.write at_ b).1:=by
 unfold cq.write
 split
 .exact h
 .split
  .exact h
  .rename_i aE;simp only[cq.lF,as1,av6] at aE;obtain⟨⟨kG,jX⟩,vt⟩:=aE
   split
   .exact h
   .refine⟨h.lX,h.c0,Ou kG h.bO _ (by show at_+_<=m.n;omega) aD1,h.n1,fun w hw=>?_,fun w hw=>?_⟩
    .rcases Ov _ hw with hw |⟨i,aE,rfl⟩
     .exact h.anE w hw
     .show 0<=at_+(i:Nat)/\at_+(i:Nat) < m.n;omega
    .rcases Ov _ hw with hw |⟨i,aE,rfl⟩
     .exact h.Oo w hw
     .exact Oh aD1
end
section
abbrev ra (bF:Nat):aa .fn:=((242,[bF]):Nat×aH0)
abbrev oY (bF a b:Nat):aa .fn:=((245,[bF,a,b]):Nat×aH0)
abbrev Ow (d:Nat) (e:Int) (e4:List (aa .fn)) (L:List (Nat×bg)):aA:=[(1001,.cells [.ptr 1002 0]),(1002,.cells [.own d,.d (.int .i64 e)]),(d,.row 128 .fn e4),(1005,.aH (.bA L))]
abbrev anF (e:Int) (e4:List (aa .fn)) (L:List (Nat×bg)):aA:=Ow 1006 e e4 L
def W6 (at_:Int) (x:aG9) (bF:Nat) (e:Int) (e4:List (aa .fn)) (L:List (Nat×bg)) (ak:e4.length<=1000000):
  cC prog 244 [ab at_,bP .u8 x,ap 1001,dy bF] (anF e e4 L) [2006] (X:=Nat×Nat) (fun _=>g4) (fun g=>Ow 2006 e (e4++[oY bF g.1 g.2]) ((g.2,hB (.bG .u8 x))::(g.1,hB (.int .i64 at_))::L)):=by
 refine hZ [1] func244 ?_;refine⟨rfl,rfl,bw.ff (dv.box 4 4 1005 rfl rfl aD2 rfl) fun eG=>bw.ff (dv.box 5 5 1005 rfl rfl aD2 rfl) fun fz=>bz [] (bt) ?_⟩;have O:e4.length+1<=4294967296:=aD9
 exact⟨O,rfl,rfl,(eG,fz),_,_,_,(cM [] (Ow 13 e (e4++[oY bF eG fz]) ((fz,hB (.bG .u8 x))::(eG,hB (.int .i64 at_))::L))).trans (ac.aX 13 2006 rfl),rfl,trivial,aD,rfl⟩
def anG {bF s:Nat} {m:cq} {L:List (Nat×bg)} {M:ey} (cO:eH L bF=some (hB (.aM (some s)))) (al:h6 M s=some m):
  Fn prog 242 [dy bF] [(1005,.aH (.bA L)),(1003,.aH (.bA (e6 M)))] [] (ab 0) [(1005,.aH (.bA L)),(1003,.aH (.bA (e6 (iE M s m.qj))))]:=by
 refine aY [] func242 ?_;refine bc (C7 (q:=1005) rfl underlying198 rfl rfl rfl cO) ?_;exact ar (BR (am0 m) al rfl rfl) bh
def anH {bF s eG fz:Nat} {at_:Int} {x:aG9} {m:cq} {L:List (Nat×bg)} {M:ey} (G:eH L bF=some (hB (.aM (some s)))) (aW:eH L eG=some (hB (.int .i64 at_))) (bM:eH L fz=some (hB (.bG .u8 x)))
  (al:h6 M s=some m) (ag:hu m) (hx:x.length<=1073741824) (ak:m.fA.length<=1073741824):
  Fn prog 245 [dy bF,dy eG,dy fz] [(1005,.aH (.bA L)),(1003,.aH (.bA (e6 M)))] [] (ab (m.write at_ x).2) [(1005,.aH (.bA L)),(1003,.aH (.bA (e6 (iE M s (m.write at_ x).1))))]:=by
 refine aY [] func245 ?_;refine bc (C7 (q:=1005) rfl underlying198 rfl rfl rfl G) ?_;refine bc (C7 (q:=1005) rfl underlying3 rfl rfl rfl aW) ?_;refine bc (C7 (q:=1005) rfl underlying31 rfl rfl rfl bM) ?_;exact ar (BR (anC m at_ x hx ag.lX ag.c0 (ag.bO.len ag.c0) ag.bO.wf ak) al rfl rfl) bh
end
section
def anI (x:aG9) (hx:x.length<=4294967296):Fn prog 169 [bP .u8 x] [] [2001] (eC 2001) (qh 2001 x):=by
 refine aY [1] func169 ?_;refine bw.iJ fa aD4 ⟨_,RO rfl rfl underlying31,fun v e h=>?_⟩;obtain⟨b,O,rfl,rfl⟩:=h
 cases b
 .refine⟨rfl,?_⟩;have ak:0+x.length<=4294967296:=aD9
  exact⟨ak,rfl,_,_,_,ac.aX 7 2001 rfl,rfl,rfl,aD,rfl⟩
 .have O:=O rfl;subst O;exact⟨_,_,_,ac.nil 2 2001 5 .u8 rfl rfl,rfl,rfl,aD,rfl⟩
def sm (x:aG9):aG9:=x++ez (jR x).toNat 4
def W7 (x:aG9) (hx:x.length<=1000000):Fn prog 247 [bP .u8 x] [] [] (bP .u8 (sm x)) []:=by
 have h:=Oc x;refine aY [2] func247 ?_;refine ar (anI x aD1) ?_;refine ar (Od [x] aD3 (fun y aC=>by rw[at7] at aC;rw[aC];omega)) ?_;have af:([x]:aJ0).flatten=x:=by simp
 rw[af];refine ar (Fn.arg (Fn.aX [(1001,2001),(1002,3002)] (zl x 4 [(jR x).toNat] (by unfold W;omega) (fun n hn=>by rw[at7] at hn;rw[hn];omega) aD3 aD1)) ⟨rfl,rfl,Ey h.1,trivial⟩) <| bz [] (ac.eb 3002 rfl) ?_;exact eN bt rfl (show x++eV 4 [(jR x).toNat]=sm x by unfold sm eV;simp)
def dH (n:Int):Int:=max (n - 2) 0/2
def ID (n:Int) (aw:0<=n) (E:n<=4096):Fn prog 239 [ab n] [] [] (ab (dH n)) []:=by
 refine aY [] func239 ?_;have cB: -9223372036854775808<=n - 2/\n - 2<=9223372036854775807:=aD9
 refine⟨cB,?_⟩;have cH:0<=max (n - 2) 0/\(0:Int) < 2:=aD9
 have dO: -9223372036854775808<=max (n - 2) 0/2/\max (n - 2) 0/2<=9223372036854775807:=aD9
 exact⟨cH,dO,bh⟩
def Ox (n:Int) (aw:0<=n) (E:n<=4096):Fn prog 237 [ab n] [] [] (ab (dH n*16)) []:=by
 refine aY [] func237 ?_;refine ar (ID n aw E) ?_;have dO: -9223372036854775808<=dH n*16/\dH n*16<=9223372036854775807:=by unfold dH;omega
 exact⟨dO,bh⟩
end
section
abbrev ml:bB:=.bU .str (.cc ai)
abbrev mm:=aa ml
abbrev pK (k:mm):aG9:=k.1
abbrev mO (k:mm):List Int:=k.2
def wb (ks:List mm) (nm:aG9):Option Nat:=ks.findIdx? fun k=>decide (pK k=nm)
def rb (ks:List mm) (nm:aG9):Int:=match wb ks nm with
 |some i=>(i:Nat)
 |none=> -1
def tw (ks:List mm) (nm:aG9):List Int:=match wb ks nm with
 |some i=>match ks[i]? with
  |some k=>mO k
  |none=>[]
 |none=>[]
def anJ (k:mm) (nm:aG9):Fn prog 128 [.c (.agg [.d (.str (pK k)),.d (.bG ai (mO k))]),ap 1001] [(1001,.cells [.d (.str nm)])] [] (fX (decide (pK k=nm))) [(1001,.cells [.d (.str nm)])]:=by refine aY [] func128 ?_;exact⟨rfl,bh⟩
def anK (ks:List mm) (nm:aG9) (ak:ks.length<=4294967296):
  Fn prog 127 [bP ml ks,k0 (.c3 128 [.p 1001 0])] [(1001,.cells [.d (.str nm)])] [] (ab (rb ks nm)) [(1001,.cells [.d (.str nm)])]:=by
 refine aY [] func127 ?_;refine d1 [] (X:=Nat) (fun k=>[(0,bP ml ks),(1,k0 (.c3 128 [.p 1001 0])),(7,ab (ks.length:Nat)),(8,ab (k:Nat))]) (fun _=>[(1001,.cells [.d (.str nm)])]) (fun k=>k<=ks.length/\ ∀(i:Nat) x,i < k->ks[i]? =some x->pK x≠nm) (fun k=>ks.length - k) 0 ⟨at2 _,fun i x h=>as3 h (aB8 _)⟩ ?_ ?_
 .exact ac.sub aD aD
 rintro k ⟨Z,ae⟩;refine⟨fun h=>?_,fun h=>?_⟩
 .have cu:k < ks.length:=by
   have h:decide ((k:Int) < (ks.length:Int))=true:=h;simpa using h
  refine⟨aD1,ks[k],j4 (n:=k) cu,ar (anJ ks[k] nm) ⟨fun G=>?_,fun G=>?_⟩⟩
  .have G:pK ks[k]=nm:=gd G;refine⟨_,_,_,bt,rfl,(show((k:Nat):Int)=rb ks nm from ?_),aD,rfl⟩
   have:wb ks nm=some k:=by
    rw[wb,List.findIdx?_eq_some_iff_getElem];refine⟨cu,by simp[G],fun j V=>?_⟩;have:=ae j _ V (as0 aD1);simpa using this
   rw[rb,this]
  .have G:pK ks[k]≠nm:=oj G;refine⟨aD1,k+1,⟨aD1,fun i x aE hx=>?_⟩,aD1,ac.sub aD aD⟩;rcases aA6 i k with aW |aW
   .exact ae i x aW hx
   .have:i=k:=aD9
    subst this;rw[as0 cu] at hx;injection hx with hx
    rw[<-hx];exact G
 .have eX:k=ks.length:=by
   have h:decide ((k:Int) < (ks.length:Int))=false:=h;simp at h;omega
  refine⟨_,_,_,bt,rfl,(show(-1:Int)=rb ks nm from ?_),aD,rfl⟩
  have:wb ks nm=none:=by
   rw[wb,List.findIdx?_eq_none_iff];intro x hx;obtain⟨i,aE,rfl⟩:=ay5 hx;have:=ae i _ aD1 (as0 aE);simpa using this
  rw[rb,this]
def uD (p:Nat×cq) (L:ey) (b:Nat):h6 (p::L) b=if p.1=b then some p.2 else h6 L b:=rfl
def mP (f:Nat->cq->cq) (L:ey):ey:=L.map fun q=>(q.1,f q.1 q.2)
def W8 (f:Nat->cq->cq) (a:Nat): ∀L:ey,h6 (mP f L) a=(h6 L a).map (f a)
 | []=>rfl
 |p::L=>by
  show(if p.1=a then some (f p.1 p.2) else h6 (mP f L) a)=_;rw[uD]
  split
  .rename_i e;rw[e];rfl
  .exact W8 f a L
def W9 {f g:Nat->cq->cq} {L:ey} (h: ∀p∈L,f p.1 p.2=g p.1 p.2):mP f L=mP g L:=av1 fun p ae=>by rw[h p ae]
def W' {f g:Nat->cq->cq} {a:Nat} {gN:cq}: ∀{L:ey},(L.map (·.1)).Nodup-> ∀{m:cq},h6 L a=some m->g a m=gN->(∀b,b≠a-> ∀m,g b m=f b m)->iE (mP f L) a gN=mP g L
 | [],_,m,h,_,_=>by cases h
 |p::L,hn,m,h,E,G=>by
  rw[au1,av5] at hn;show(if p.1=a then(p.1,gN)::mP f L else(p.1,f p.1 p.2)::iE (mP f L) a gN)=(p.1,g p.1 p.2)::mP g L;rw[uD] at h
  split at h
  .rename_i e;injection h with h
   rw[vj e,<-E,<-h,e]
   congr 1
   refine W9 fun q aQ=>(G _ (fun ao=>hn.1 ?_) _).symm
   rw[e,<-ao];exact au0 aQ
  .rename_i e;rw[mu e,W' hn.2 h E G,G _ e]
def anL {ks:List mm} {nm:aG9} (h:rb ks nm < 0):tw ks nm=[]:=by
 unfold tw;unfold rb at h
 cases e:wb ks nm with
 |none=>rfl
 |some i=>rw[e] at h;simp only at h;omega
def anM {ks:List mm} {nm:aG9} (h: ¬rb ks nm < 0): ∃(i:Nat) (aE:i < ks.length),rb ks nm=(i:Nat)/\tw ks nm=mO ks[i]:=by
 unfold tw;unfold rb at h⊢
 cases e:wb ks nm with
 |none=>rw[e] at h;simp only at h;omega
 |some i=>
  have E:i < ks.length:=by
   rw[wb,List.findIdx?_eq_some_iff_getElem] at e;exact e.1
  refine⟨i,E,rfl,?_⟩;simp only;rw[as0 E]
abbrev tx:=Nat×(aa .str×aa .aM)
def Xa (e:tx):aG9:=e.2.1
def nF (e:tx):Option Nat:=e.2.2
def ql (ks:List mm) (l:List tx) (bO:aH0) (a:Nat) (m:cq):cq:=match l.find? fun e=>decide (nF e=some a) with
 |some e=>match bO.contains e.1 with
  |true=>m.n2 (tw ks (Xa e))
  |false=>m
 |none=>m
def tz (p:aa .str×aa .aM):aG9:=p.1
def rc (p:aa .str×aa .aM):Option Nat:=p.2
def zu (ks:List mm) (es:List (aa .str×aa .aM)) (a:Nat) (m:cq):cq:=match es.find? fun p=>decide (rc p=some a) with
 |some p=>m.n2 (tw ks (tz p))
 |none=>m
def anN {ks:List mm} {l:List tx} {bO:aH0} (h: ∀e∈l,e.1∈bO) (a:Nat) (m:cq):ql ks l bO a m=zu ks (l.map (·.2)) a m:=by
 unfold ql zu;rw[List.find?_map]
 show _=match Option.map (·.2) (l.find? fun e=>decide (nF e=some a)) with
  |some p=>m.n2 (tw ks (tz p))
  |none=>m
 cases e:l.find? fun e=>decide (nF e=some a) with
 |none=>rfl
 |some x=>
  have:=h x (aC1 e);simp[this];rfl
structure tA (es:List (aa .str×aa .aM)) (L:ey) (W:Nat):Prop where
 ex: ∀p∈es,∃a,rc p=some a/\a∈L.map (·.1)
 ho:(es.map rc).Nodup
 IE:(L.map (·.1)).Nodup
 ok: ∀p∈L,hu p.2
 BT: ∀p∈L,p.2.fA.length<=W
def Oy {a:Nat} {m:cq}: ∀{L:ey},h6 L a=some m->(a,m)∈L
 | [],h=>by cases h
 |p::L,h=>by
  rw[uD] at h
  split at h
  .rename_i e;injection h with h
   rw[<-e,<-h];exact at6 ..
  .exact as6 _ (Oy h)
def Xb {a:Nat}: ∀{L:ey},a∈L.map (·.1)-> ∃m,h6 L a=some m
 | [],h=>by cases h
 |p::L,h=>by
  rw[uD]
  split
  .exact⟨_,rfl⟩
  .rename_i e;rcases as8.1 h with h |h
   .exact as3 h.symm e
   .exact Xb h
def anO {l:List tx} (hn:(l.map nF).Nodup) {e:tx} (U:e∈l) {a:Nat} (ha:nF e=some a):(l.find? fun x=>decide (nF x=some a))=some e:=by
 cases h:l.find? fun x=>decide (nF x=some a) with
 |none=>
  have:=List.find?_eq_none.1 h e U;simp[ha] at this
 |some x=>
  have E:=List.find?_some h;have G:=aC1 h;have E:nF x=some a:=aG2
  rw[Og hn G U (E.trans ha.symm)]
abbrev anP (ks:List mm):aZ:=[(0,ap 1001),(1,bP ml ks),(11,ap 11)]
abbrev anQ (R:Int) (b bY:Nat) (bO:aH0) (l:List tx) (L:ey):aA:=[(1001,.cells [.d (.int .i64 R),.mp 1002]),(1002,.aH (.wX b .str .aM l bY)),(11,.aH (.wY b bY bO bY)),(1003,.aH (.bA (e6 L)))]
def zv (bO:aH0) (l:List tx):List tx:=l.filter fun p=> !bO.contains p.1
def Xc {bO:aH0} {l:List tx} {p:tx} (ae:p∈l) (hn:p.1∉bO):(zv (bO++[p.1]) l).length < (zv bO l).length:=by
 have e:zv (bO++[p.1]) l=(zv bO l).filter fun q=> !decide (q.1=p.1):=by
  unfold zv;rw[List.filter_filter];refine List.filter_congr fun q _=>?_
  by_cases e:q.1=p.1 <;>simp[e]
 rw[e];have ay:p∈zv bO l:=aB9.2 ⟨ae,by simp[hn]⟩;exact List.length_filter_lt_length_iff_exists.2 ⟨p,ay,aD3⟩
def anR (R:Int) (es:List (aa .str×aa .aM)) (L:ey) (W:Nat) (ks:List mm) (h:tA es L W) (dd:W<=1073741824) (Z:ks.length<=1073741824) (he: ∀k∈ks,(mO k).length<=1073741824):
  Fn prog 81 [ap 1001,bP ml ks] (n3 1001 1002 1003 R es L) [] g4 (n3 1001 1002 1003 R es (mP (zu ks es) L)):=by
 refine aY [0] func81 ?_;refine bw.ff (dv.RG 1002 rfl) fun x=>?_
 obtain⟨b,l,bY,wc,Oz,bv⟩:=x;refine bz [] (bt) <| bc (RI (d:=11) rfl underlying123 rfl rfl) ?_;show bw _ _ _ _ _ _ _;have O:(l.map (·.1)).Nodup:=Oz.imp fun h=>by omega
 have dD:(l.map nF).Nodup:=by
  have:=h.ho;rw[<-wc,aw7] at this;exact this
 refine d1 [1] (X:=aH0) (fun _=>anP ks) (fun bO=>anQ R b bY bO l (mP (ql ks l bO) L)) (fun _=>True) (fun bO=>(zv bO l).length) [] trivial ?_ ?_
 .refine ac.sub aD ⟨rfl,rfl,rfl,?_,trivial⟩
  have:mP (ql ks l []) L=L:=by
   have: ∀p:Nat×cq,(p.1,ql ks l [] p.1 p.2)=p:=fun p=>by
    unfold ql
    split <;>rfl
   unfold mP;simp only[this];exact List.map_id' L
  rw[this];rfl
 intro bO _;refine bw.iJ fa aD4 ⟨_,RM (c:=1002) (r:=11) rfl rfl rfl rfl (fun p ae=>bv _ (au0 ae)) (as2 _),fun v e az=>?_⟩;rcases az with⟨p,ae,au,rfl,rfl⟩ |⟨dK,rfl,rfl⟩
 .have BU:p.2∈es:=by rw[<-wc];exact au0 ae
  obtain⟨a,ha,anS⟩:=h.ex _ BU;obtain⟨m,ay⟩:=Xb anS;have lK:=Oy ay;have zk:=anO dD ae (a:=a) ha
  have QC:ql ks l bO a m=m:=by
   unfold ql;rw[zk];simp[au]
  have m4:h6 (mP (ql ks l bO) L) a=some m:=by rw[W8,ay,ay7,QC]
  have hb:iE (mP (ql ks l bO) L) a (m.n2 (tw ks (Xa p)))=mP (ql ks l (bO++[p.1])) L:=by
   refine W' h.IE ay ?_ ?_
   .unfold ql;rw[zk];simp
   .intro ej dB gN;unfold ql
    cases e:l.find? fun e=>decide (nF e=some ej) with
    |none=>rfl
    |some y=>
     have E:nF y=some ej:=by simpa using List.find?_some e
     have a8:y.1≠p.1:=fun ao=>by
      have:=Og O (aC1 e) ae ao;rw[this] at E;exact dB (Option.some.inj (E.symm.trans ha))
     simp[a8]
  have eB:=h.ok _ lK;have BQ:=h.BT _ lK;obtain⟨vL,zw,pa⟩:=p;have ha:pa=some a:=ha;subst ha;refine bc (RN (c:=1002) (r:=11) rfl rfl rfl rfl ae) ?_;refine⟨rfl,ar (Fn.aX [(1001,4)] (anK ks zw aD1)) ⟨fun G=>?_,fun G=>?_⟩⟩
  .have G:rb ks zw < 0:=gd G;have oN:tw ks zw=[]:=anL G;refine ar (Fn.arg (BR (WV m [] aD3 (by have:=BQ;simp only at this;omega) eB.Oo) m4 rfl rfl) aD) ⟨bO++[vL],trivial,Xc ae au,ac.sub aD ⟨rfl,rfl,rfl,?_,trivial⟩⟩;rw[<-hb];show _=some (ba.aH (bg.bA (e6 (iE _ a (m.n2 (tw ks zw))))));rw[oN];rfl
  .have G: ¬rb ks zw < 0:=oj G;obtain⟨i,aE,wA,oN⟩:=anM G;refine⟨aD1,ks[i],(by rw[show(rb ks zw).toNat=i by omega];exact j4 (n:=i) aE),?_⟩;refine ar (BR (WV m (mO ks[i]) (by have:=he _ (av2 aE);omega) (by have:=BQ;simp only at this;omega) eB.Oo) m4 rfl rfl) ⟨bO++[vL],trivial,Xc ae au,ac.sub aD ⟨rfl,rfl,rfl,?_,trivial⟩⟩;rw[<-hb];show _=some (ba.aH (bg.bA (e6 (iE _ a (m.n2 (tw ks zw))))));rw[oN];rfl
 .refine⟨_,_,_,ac.RH 1002 rfl,rfl,trivial,⟨rfl,?_,?_,trivial⟩,rfl⟩
  .show some (ba.map .str .aM (l.map (·.2)))=_;rw[wc]
  .show some (ba.aH (bg.bA (e6 (mP (ql ks l bO) L))))=_;rw[W9 (g:=zu ks es) fun q _=>by rw[anN dK,wc]]
end
section
def IF {b:Nat} {m:cq}: ∀{L:ey},h6 L b=some m->iE L b m=L
 | [],h=>by cases h
 |p::L,h=>by
  rw[uD] at h;show(if p.1=b then(p.1,m)::L else p::iE L b m)=_
  split at h
  .rename_i e;injection h with h
   rw[vj e,<-h]
  .rename_i e;rw[mu e,IF h]
def anT (a b:aG9):(fT .str (a:aa .str) (b:aa .str)=true)↔a=b:=by show zW a b=true↔a=b;unfold zW;exact decide_eq_true_iff
end
section
def mQ (b:aG9):aG9×Bool:=if b.length < 4 then([],false) else if sm (b.take (b.length - 4))=b then(b.take (b.length - 4),true) else([],false)
def anU (b:aG9) (O:b.length<=1000000):Fn prog 236 [bP .u8 b] [] [] (.cn [.one (.d (.bG .u8 (mQ b).1)),.one (.d (.bool (mQ b).2))]) []:=by
 unfold mQ;refine aY [] func236 ?_;refine⟨fun c=>?_,fun c=>?_⟩
 .have c:(b.length:Int) < 4:=gd c;rw[vj (show b.length < 4 by omega)];exact bh
 have c: ¬(b.length:Int) < 4:=oj c;rw[mu (show¬b.length < 4 by omega)];have q: -9223372036854775808<=(b.length:Int) - 4/\(b.length:Int) - 4<=9223372036854775807:=aD9
 have cH:0<=(b.length:Int) - 4/\(b.length:Int) - 4<=(b.length:Nat):=aD9
 have e:((b.length:Int) - 4).toNat=b.length - 4:=aD9
 have ak:(b.take (b.length - 4)).length<=1000000:=aE8
 have au:(sm (b.take (b.length - 4))).length<=4294967296:=by
  unfold sm;rw[as4,q6];omega
 have bo:List.drop 0 (List.take ((b.length:Int) - 4).toNat b)=b.take (b.length - 4):=by rw[e,List.drop_zero]
 refine⟨q,cH,ar (Fn.arg (W7 (b.take (b.length - 4)) ak) ⟨bo,trivial⟩) <| ar (WN (sm (b.take (b.length - 4))) b au aD1) ⟨fun d=>?_,fun d=>?_⟩⟩
 .have d: ¬sm (b.take (b.length - 4))=b:=by simpa using d
  rw[mu d];exact bh
 .have d:sm (b.take (b.length - 4))=b:=by simpa using d
  rw[vj d];exact⟨q,cH,ar (Fn.arg (Mc (b.take (b.length - 4)) aD1) ⟨bo,trivial⟩) bh⟩
def BV {m:cq} {L:ey} {b:Nat} (cO:h6 L b=some m):Fn prog 238 [dy b] [(1003,.aH (.bA (e6 L)))] [] (ab m.n) [(1003,.aH (.bA (e6 L)))]:=by
 have:=BR (amY m) cO rfl rfl
 rwa[IF cO] at this
def Xd {m:cq} {L:ey} {b:Nat} (cO:h6 L b=some m) (h:hu m) (at_ aO:Int) (aw:0<=aO) (aE:m.lF at_ aO=true):Fn prog 235 [dy b,ab at_,ab aO] [(1003,.aH (.bA (e6 L)))] [] (.cn [.one (.d (.bG .u8 (qk m.bO at_ aO.toNat))),dJ 0]) [(1003,.aH (.bA (e6 L)))]:=by
 have:=BR (anu m at_ aO aw aE h.lX h.c0 h.bO.wf) cO rfl rfl
 rwa[IF cO] at this
def mR (m:cq) (k:Int):aG9:=qk m.bO k 1
def iU (x:aG9):Nat×Nat×Nat:=((fP 4 (x,0)).2,(fP 4 (fP 4 (x,0)).1).2,(fP 4 (fP 4 (fP 4 (x,0)).1).1).2)
def n4 (m:cq) (k:Int):aG9:=qk m.bO (2+k*dH m.n) (dH m.n).toNat
def nA (m:cq) (k:Int):aG9×Int:=match(mQ (mR m k)).2 with
 |false=>([],0)
 |true=>match decide (((iU (mQ (mR m k)).1).1:Int) < 1)||decide ((1073741824:Int) < ((iU (mQ (mR m k)).1).1:Int))||decide (dH m.n*16 < ((iU (mQ (mR m k)).1).2.1:Int)) with
  |true=>([],0)
  |false=>match decide (jR ((n4 m k).take (iU (mQ (mR m k)).1).2.1)=((iU (mQ (mR m k)).1).2.2:Int)) with
   |false=>([],0)
   |true=>((n4 m k).take (iU (mQ (mR m k)).1).2.1,((iU (mQ (mR m k)).1).1:Int))
def EK {n:Int} (G:2<=n) (E:n<=4096):0<=dH n/\2+dH n+dH n<=n:=by unfold dH;omega
def anV {m:cq} (ag:hu m) (G:2<=m.n) (k:Int):(n4 m k).length=16*(dH m.n).toNat:=Ix ag.bO.wf _ _
def anW {m:cq} (ag:hu m) (G:2<=m.n) (k:Int) (Z:k=0\/k=1) {s:Nat} {M:ey} (al:h6 M s=some m):Fn prog 215 [dy s,ab k] [(1003,.aH (.bA (e6 M)))] [] (.cn [.one (.d (.bG .u8 (nA m k).1)),.one (.d (.int .i64 (nA m k).2))]) [(1003,.aH (.bA (e6 M)))]:=by
 have kI:=ag.c0;have ec:m.lF k 1=true:=by simp only[cq.lF,as1,av6];omega
 obtain⟨a0,b4⟩:=EK G kI;unfold nA;refine aY [] func215 ?_;refine ar (Xd al ag k 1 aD2 ec) ?_
 have bd:(mR m k).length<=1000000:=by
  have:=Ix ag.bO.wf k 1;unfold mR;omega
 refine ar (anU (mR m k) bd) <| dE ?_
 cases wN:(mQ (mR m k)).2 with
 |false=>
  exact fm bh
 |true=>
  refine dE ?_
  have hx:(mQ (mR m k)).1.length<=4294967296:=by
   unfold mQ
   split
   .simp
   .split
    .show((mR m k).take _).length<=_;rw[at3];omega
    .simp
  generalize(mQ (mR m k)).1=x at hx⊢;refine ar (Ii x hx) ?_;refine ar (pF (x,0) 4 (by unfold W;omega)) ?_;refine ar (pF (fP 4 (x,0)).1 4 (by unfold W;omega)) ?_;refine ar (pF (fP 4 (fP 4 (x,0)).1).1 4 (by unfold W;omega)) ⟨fun cD=>?_,fun cD=>?_⟩
  .have cD:decide (((iU x).1:Int) < 1)=true:=cD;rw[cD];exact bh
  have cD:decide (((iU x).1:Int) < 1)=false:=cD;rw[cD];refine⟨fun cv=>?_,fun cv=>?_⟩
  .have cv:decide ((1073741824:Int) < ((iU x).1:Int))=true:=cv;rw[cv];exact bh
  have cv:decide ((1073741824:Int) < ((iU x).1:Int))=false:=cv;rw[cv];refine ar (BV al) <| ar (Ox m.n ag.lX ag.c0) ⟨fun hQ=>?_,fun hQ=>?_⟩
  .have hQ:decide (dH m.n*16 < ((iU x).2.1:Int))=true:=hQ;rw[hQ];exact bh
  have hQ:decide (dH m.n*16 < ((iU x).2.1:Int))=false:=hQ;rw[hQ];have bX:=anV ag G k
  have nh:(iU x).2.1<=(n4 m k).length:=by
   have:=oj hQ;omega
  refine ar (BV al) <| ar (ID m.n ag.lX ag.c0) ?_;have cB: -9223372036854775808<=k*dH m.n/\k*dH m.n<=9223372036854775807:=by rcases Z with rfl |rfl <;>omega
  have cH: -9223372036854775808<=2+k*dH m.n/\2+k*dH m.n<=9223372036854775807:=by rcases Z with rfl |rfl <;>omega
  have p9:m.lF (2+k*dH m.n) (dH m.n)=true:=by
   simp only[cq.lF,as1,av6];rcases Z with rfl |rfl <;>omega
  refine⟨cB,cH,ar (BV al) <| ar (ID m.n ag.lX ag.c0) <| ar (Xd al ag (2+k*dH m.n) (dH m.n) a0 p9) ?_⟩;have dO:0<=((iU x).2.1:Int)/\((iU x).2.1:Int)<=((n4 m k).length:Nat):=aD9
  refine⟨dO,?_⟩;have c7:([List.drop 0 (List.take (((iU x).2.1:Nat):Int).toNat (n4 m k))]:List aG9)=[(n4 m k).take (iU x).2.1]:=rfl;refine ar (Fn.arg (Od [(n4 m k).take (iU x).2.1] aD3 (fun y aC=>by rw[at7] at aC;rw[aC,at3];omega)) ⟨c7,trivial⟩) ?_;have fY:([(n4 m k).take (iU x).2.1]:List aG9).flatten=(n4 m k).take (iU x).2.1:=by simp
  rw[fY];refine⟨fun ur=>?_,fun ur=>?_⟩
  .have ur:(!decide (jR ((n4 m k).take (iU x).2.1)=((iU x).2.2:Int)))=true:=ur;have DI:decide (jR ((n4 m k).take (iU x).2.1)=((iU x).2.2:Int))=false:=by simpa using ur
   rw[DI];exact bh
  .have ur:(!decide (jR ((n4 m k).take (iU x).2.1)=((iU x).2.2:Int)))=false:=ur;have DI:decide (jR ((n4 m k).take (iU x).2.1)=((iU x).2.2:Int))=true:=by simpa using ur
   rw[DI];refine bc (adR fa rfl rfl rfl rfl rfl rfl dO.1 dO.2) ?_;exact bh
def gP (m:cq):Nat->Int×aG9×Int
 |0=>(-1,[],0)
 |j+1=>if(gP m j).2.2 < (nA m (j:Nat)).2 then((j:Nat),(nA m (j:Nat)).1,(nA m (j:Nat)).2) else gP m j
abbrev anX (m:cq) (s j:Nat):aZ:=[(0,dy s),(5,ab (gP m j).1),(6,ab (gP m j).2.2),(7,bP .u8 (gP m j).2.1),(11,ab (j:Nat))]
def OA {m:cq} (ag:hu m) (G:2<=m.n) {s:Nat} {M:ey} (al:h6 M s=some m):Fn prog 181 [dy s] [(1003,.aH (.bA (e6 M)))] [] (.cn [.one (.d (.int .i64 (gP m 2).1)),.one (.d (.bG .u8 (gP m 2).2.1)),.one (.d (.int .i64 (gP m 2).2.2))]) [(1003,.aH (.bA (e6 M)))]:=by
 refine aY [] func181 ?_;refine d1 [] (X:=Nat) (anX m s) (fun _=>[(1003,.aH (.bA (e6 M)))]) (fun j=>j<=2) (fun j=>2 - j) 0 aD2 ?_ ?_
 .exact ac.sub aD aD
 intro j V;refine⟨fun h=>?_,fun h=>?_⟩
 .have h:(j:Int) < 2:=gd h;refine ar (anW ag G (j:Nat) aD1 al) ⟨fun c=>?_,fun c=>?_⟩
  .have c:(gP m j).2.2 < (nA m (j:Nat)).2:=gd c;have e:gP m (j+1)=(((j:Nat):Int),(nA m (j:Nat)).1,(nA m (j:Nat)).2):=vj c;refine⟨aD1,j+1,aD1,aD1,ac.sub ⟨rfl,?_,?_,?_,rfl,trivial⟩ aD⟩
   .rw[e];rfl
   .rw[e];rfl
   .rw[e];rfl
  .have c: ¬(gP m j).2.2 < (nA m (j:Nat)).2:=oj c;have e:gP m (j+1)=gP m j:=mu c;refine⟨aD1,j+1,aD1,aD1,ac.sub ⟨rfl,?_,?_,?_,rfl,trivial⟩ aD⟩
   .rw[e];rfl
   .rw[e];rfl
   .rw[e];rfl
 .have h: ¬(j:Int) < 2:=oj h;have dF:j=2:=aD9
  subst dF;exact bh
end
end Go.Proofs.YtkfbeijmgggkmaaGreat
