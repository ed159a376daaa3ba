/-
A part of the proof of this claim: lemmas, with no condition beyond what each says.
-/
import Derived.Test.YtkfbeijmgggkmaaGreatZc18
set_option linter.unusedVariables false
set_option linter.unusedSimpArgs false
set_option maxRecDepth 10000
set_option maxHeartbeats 4000000
namespace Go.Proofs.YtkfbeijmgggkmaaGreat
open Go.RowKit Go.Proofs
section
abbrev ie:bA:=.bK .str (.b4 ai)
abbrev j':=aa ie
abbrev pB (k:j'):aA0:=k.1
abbrev mF (k:j'):List Int:=k.2
def vD (ks:List j') (nm:aA0):Option Nat:=ks.findIdx? fun k=>decide (pB k=nm)
def q2 (ks:List j') (nm:aA0):Int:=match vD ks nm with
 |some i=>(i:Nat)
 |none=> -1
def tf (ks:List j') (nm:aA0):List Int:=match vD ks nm with
 |some i=>match ks[i]? with
  |some k=>mF k
  |none=>[]
 |none=>[]
theorem amC (k:j') (nm:aA0):Fn Tryz.prog 128 [.c (.agg [.d (.str (pB k)),.d (.cf ai (mF k))]),ah 1001] [(1001,.cells [.d (.str nm)])] [] (fk (decide (pB k=nm))) [(1001,.cells [.d (.str nm)])]:=by
 refine aT [] Tryz.func128 ?_;exact⟨rfl,bc⟩
theorem amD (ks:List j') (nm:aA0) (ap:ks.length<=4294967296):
  Fn Tryz.prog 127 [bv ie ks,kS (.cY 128 [.p 1001 0])] [(1001,.cells [.d (.str nm)])] [] (ac (q2 ks nm)) [(1001,.cells [.d (.str nm)])]:=by
 refine aT [] Tryz.func127 ?_;refine dG [] (X:=Nat) (fun k=>[(0,bv ie ks),(1,kS (.cY 128 [.p 1001 0])),(7,ac (ks.length:Nat)),(8,ac (k:Nat))]) (fun _=>[(1001,.cells [.d (.str nm)])]) (fun k=>k<=ks.length/\ ∀(i:Nat) x,i < k->ks[i]? =some x->pB x≠nm) (fun k=>ks.length - k) 0 ⟨aq9 _,fun i x h=>absurd h (av5 _)⟩ ?_ ?_
 .exact ab.sub az az
 rintro k ⟨Z,ae⟩;refine⟨fun h=>?_,fun h=>?_⟩
 .have b':k < ks.length:=by
   have h:decide ((k:Int) < (ks.length:Int))=true:=h;simpa using h
  refine⟨aw0,ks[k],iR (n:=k) b',ak (amC ks[k] nm) ⟨fun G=>?_,fun G=>?_⟩⟩
  .have G:pB ks[k]=nm:=gd G;refine⟨_,_,_,bq,rfl,(show((k:Nat):Int)=q2 ks nm from ?_),az,rfl⟩
   have:vD ks nm=some k:=by
    rw[vD,List.findIdx?_eq_some_iff_getElem];refine⟨b',by simp[G],fun j V=>?_⟩;have:=ae j _ V (oj aw0);simpa using this
   rw[q2,this]
  .have G:pB ks[k]≠nm:=mu G;refine⟨aw0,k+1,⟨aw0,fun i x aG hx=>?_⟩,aw0,ab.sub az az⟩;rcases Nat.lt_or_ge i k with aW |aW
   .exact ae i x aW hx
   .have:i=k:=aw8
    subst this;rw[oj b'] at hx;injection hx with hx
    rw[<-hx];exact G
 .have fc:k=ks.length:=by
   have h:decide ((k:Int) < (ks.length:Int))=false:=h;simp at h;omega
  refine⟨_,_,_,bq,rfl,(show(-1:Int)=q2 ks nm from ?_),az,rfl⟩
  have:vD ks nm=none:=by
   rw[vD,List.findIdx?_eq_none_iff];intro x hx;obtain⟨i,aG,rfl⟩:=List.getElem_of_mem hx;have:=ae i _ aw0 (oj aG);simpa using this
  rw[q2,this]
theorem uf (p:Nat×bX) (L:dV) (b:Nat):hY (p::L) b=if p.1=b then some p.2 else hY L b:=rfl
def k8 (f:Nat->bX->bX) (L:dV):dV:=L.map fun q=>(q.1,f q.1 q.2)
theorem Wz (f:Nat->bX->bX) (a:Nat): ∀L:dV,hY (k8 f L) a=(hY L a).map (f a)
 | []=>rfl
 |p::L=>by
  show(if p.1=a then some (f p.1 p.2) else hY (k8 f L) a)=_;rw[uf]
  split
  .rename_i e;rw[e];rfl
  .exact Wz f a L
theorem WA {f g:Nat->bX->bX} {L:dV} (h: ∀p∈L,f p.1 p.2=g p.1 p.2):k8 f L=k8 g L:=as7 fun p ae=>by rw[h p ae]
theorem WB {f g:Nat->bX->bX} {a:Nat} {gx:bX}: ∀{L:dV},(L.map (·.1)).Nodup-> ∀{m:bX},hY L a=some m->g a m=gx->(∀b,b≠a-> ∀m,g b m=f b m)->hj (k8 f L) a gx=k8 g L
 | [],_,m,h,_,_=>by cases h
 |p::L,hn,m,h,E,G=>by
  rw[ar8,at0] at hn;show(if p.1=a then(p.1,gx)::k8 f L else(p.1,f p.1 p.2)::hj (k8 f L) a gx)=(p.1,g p.1 p.2)::k8 g L;rw[uf] at h
  split at h
  .rename_i e;injection h with h
   rw[if_pos e,<-E,<-h,e]
   congr 1
   refine WA fun q aP=>(G _ (fun ao=>hn.1 ?_) _).symm
   rw[e,<-ao];exact as0 aP
  .rename_i e;rw[if_neg e,WB hn.2 h E G,G _ e]
theorem amE {ks:List j'} {nm:aA0} (h:q2 ks nm < 0):tf ks nm=[]:=by
 unfold tf;unfold q2 at h
 cases e:vD ks nm with
 |none=>rfl
 |some i=>rw[e] at h;simp only at h;omega
theorem amF {ks:List j'} {nm:aA0} (h: ¬q2 ks nm < 0): ∃(i:Nat) (aG:i < ks.length),q2 ks nm=(i:Nat)/\tf ks nm=mF ks[i]:=by
 unfold tf;unfold q2 at h⊢
 cases e:vD ks nm with
 |none=>rw[e] at h;simp only at h;omega
 |some i=>
  have E:i < ks.length:=by
   rw[vD,List.findIdx?_eq_some_iff_getElem] at e;exact e.1
  refine⟨i,E,rfl,?_⟩;simp only;rw[oj E]
abbrev tg:=Nat×(aa .str×aa .aL)
def WC (e:tg):aA0:=e.2.1
def nn (e:tg):Option Nat:=e.2.2
def qd (ks:List j') (l:List tg) (bH:aA1) (a:Nat) (m:bX):bX:=match l.find? fun e=>decide (nn e=some a) with
 |some e=>match bH.contains e.1 with
  |true=>m.k7 (tf ks (WC e))
  |false=>m
 |none=>m
def th (p:aa .str×aa .aL):aA0:=p.1
def q3 (p:aa .str×aa .aL):Option Nat:=p.2
def yW (ks:List j') (es:List (aa .str×aa .aL)) (a:Nat) (m:bX):bX:=match es.find? fun p=>decide (q3 p=some a) with
 |some p=>m.k7 (tf ks (th p))
 |none=>m
theorem amG {ks:List j'} {l:List tg} {bH:aA1} (h: ∀e∈l,e.1∈bH) (a:Nat) (m:bX):qd ks l bH a m=yW ks (l.map (·.2)) a m:=by
 unfold qd yW;rw[List.find?_map]
 show _=match Option.map (·.2) (l.find? fun e=>decide (nn e=some a)) with
  |some p=>m.k7 (tf ks (th p))
  |none=>m
 cases e:l.find? fun e=>decide (nn e=some a) with
 |none=>rfl
 |some x=>
  have:=h x (av2 e);simp[this];rfl
structure mb (es:List (aa .str×aa .aL)) (L:dV) (W:Nat):Prop where
 ex: ∀p∈es,∃a,q3 p=some a/\a∈L.map (·.1)
 gF:(es.map q3).Nodup
 yX:(L.map (·.1)).Nodup
 ok: ∀p∈L,fe p.2
 q4: ∀p∈L,p.2.e6.length<=W
theorem Oe {a:Nat} {m:bX}: ∀{L:dV},hY L a=some m->(a,m)∈L
 | [],h=>by cases h
 |p::L,h=>by
  rw[uf] at h
  split at h
  .rename_i e;injection h with h
   rw[<-e,<-h];exact ar4 ..
  .exact aq6 _ (Oe h)
theorem WD {a:Nat}: ∀{L:dV},a∈L.map (·.1)-> ∃m,hY L a=some m
 | [],h=>by cases h
 |p::L,h=>by
  rw[uf]
  split
  .exact⟨_,rfl⟩
  .rename_i e;rcases aq7.1 h with h |h
   .exact absurd h.symm e
   .exact WD h
theorem amH {l:List tg} (hn:(l.map nn).Nodup) {e:tg} (U:e∈l) {a:Nat} (ha:nn e=some a):(l.find? fun x=>decide (nn x=some a))=some e:=by
 cases h:l.find? fun x=>decide (nn x=some a) with
 |none=>
  have:=List.find?_eq_none.1 h e U;simp[ha] at this
 |some x=>
  have E:=List.find?_some h;have G:=av2 h;have E:nn x=some a:=ay8
  rw[N1 hn G U (E.trans ha.symm)]
abbrev amI (ks:List j'):aX:=[(0,ah 1001),(1,bv ie ks),(11,ah 11)]
abbrev amJ (R:Int) (b bV:Nat) (bH:aA1) (l:List tg) (L:dV):ay:=[(1001,.cells [.d (.int .i64 R),.mp 1002]),(1002,.aF (.wq b .str .aL l bV)),(11,.aF (.ws b bV bH bV)),(1003,.aF (.bw (e0 L)))]
def yY (bH:aA1) (l:List tg):List tg:=l.filter fun p=> !bH.contains p.1
theorem WE {bH:aA1} {l:List tg} {p:tg} (ae:p∈l) (hn:p.1∉bH):(yY (bH++[p.1]) l).length < (yY bH l).length:=by
 have e:yY (bH++[p.1]) l=(yY bH l).filter fun q=> !decide (q.1=p.1):=by
  unfold yY;rw[List.filter_filter];refine List.filter_congr fun q _=>?_
  by_cases e:q.1=p.1 <;>simp[e]
 rw[e];have aw:p∈yY bH l:=av0.2 ⟨ae,by simp[hn]⟩;exact List.length_filter_lt_length_iff_exists.2 ⟨p,aw,aw2⟩
theorem amK (R:Int) (es:List (aa .str×aa .aL)) (L:dV) (W:Nat) (ks:List j') (h:mb es L W) (cW:W<=1073741824) (Z:ks.length<=1073741824) (hs: ∀k∈ks,(mF k).length<=1073741824):
  Fn Tryz.prog 81 [ah 1001,bv ie ks] (nN 1001 1002 1003 R es L) [] gV (nN 1001 1002 1003 R es (k8 (yW ks es) L)):=by
 refine aT [0] Tryz.func81 ?_;refine bk.eH (c5.Ro 1002 rfl) fun x=>?_
 obtain⟨b,l,bV,vE,Of,bx⟩:=x;refine br [] (bq) ⟨_,_,fun N=>Rq (d:=11) rfl Tryz.underlying123 rfl rfl N,rfl,?_⟩;show bk _ _ _ _ _ _ _;have O:(l.map (·.1)).Nodup:=Of.imp fun h=>by omega
 have dR:(l.map nn).Nodup:=by
  have:=h.gF;rw[<-vE,at8] at this;exact this
 refine dG [1] (X:=aA1) (fun _=>amI ks) (fun bH=>amJ R b bV bH l (k8 (qd ks l bH) L)) (fun _=>True) (fun bH=>(yY bH l).length) [] trivial ?_ ?_
 .refine ab.sub az ⟨rfl,rfl,rfl,?_,trivial⟩
  have:k8 (qd ks l []) L=L:=by
   have: ∀p:Nat×bX,(p.1,qd ks l [] p.1 p.2)=p:=fun p=>by
    unfold qd
    split <;>rfl
   unfold k8;simp only[this];exact List.map_id' L
  rw[this];rfl
 intro bH _;refine bk.gz ee aw3 ?_;refine⟨_,Ru (c:=1002) (r:=11) rfl rfl rfl rfl (fun p ae=>bx _ (as0 ae)) (aq4 _),fun v e aA=>?_⟩;rcases aA with⟨p,ae,ax,rfl,rfl⟩ |⟨ez,rfl,rfl⟩
 .have Bn:p.2∈es:=by rw[<-vE];exact as0 ae
  obtain⟨a,ha,amL⟩:=h.ex _ Bn;obtain⟨m,aw⟩:=WD amL;have h4:=Oe aw;have yK:=amH dR ae (a:=a) ha
  have Qc:qd ks l bH a m=m:=by
   unfold qd;rw[yK];simp[ax]
  have lL:hY (k8 (qd ks l bH) L) a=some m:=by rw[Wz,aw,au5,Qc]
  have gZ:hj (k8 (qd ks l bH) L) a (m.k7 (tf ks (WC p)))=k8 (qd ks l (bH++[p.1])) L:=by
   refine WB h.yX aw ?_ ?_
   .unfold qd;rw[yK];simp
   .intro ea dt gx;unfold qd
    cases e:l.find? fun e=>decide (nn e=some ea) with
    |none=>rfl
    |some y=>
     have E:nn y=some ea:=by simpa using List.find?_some e
     have a6:y.1≠p.1:=fun ao=>by
      have:=N1 O (av2 e) ae ao;rw[this] at E;exact dt (Option.some.inj (E.symm.trans ha))
     simp[a6]
  have d':=h.ok _ h4;have Ii:=h.q4 _ h4;obtain⟨vg,yZ,pa⟩:=p;have ha:pa=some a:=ha;subst ha;refine⟨_,_,fun N=>Rv (c:=1002) (r:=11) rfl rfl rfl rfl ae N,rfl,?_⟩;refine⟨rfl,ak (Fn.aV [(1001,4)] (amD ks yZ aw0)) ⟨fun G=>?_,fun G=>?_⟩⟩
  .have G:q2 ks yZ < 0:=gd G;have qQ:tf ks yZ=[]:=amE G;refine ak (Fn.arg (Bi (Wl m [] aw2 (by have:=Ii;simp only at this;omega) d'.Bl) lL rfl rfl) az) ⟨bH++[vg],trivial,WE ae ax,ab.sub az ⟨rfl,rfl,rfl,?_,trivial⟩⟩;rw[<-gZ];show _=some (ba.aF (bg.bw (e0 (hj _ a (m.k7 (tf ks yZ))))));rw[qQ];rfl
  .have G: ¬q2 ks yZ < 0:=mu G;obtain⟨i,aG,vV,qQ⟩:=amF G;refine⟨aw0,ks[i],(by rw[show(q2 ks yZ).toNat=i by omega];exact iR (n:=i) aG),?_⟩;refine ak (Bi (Wl m (mF ks[i]) (by have:=hs _ (as3 aG);omega) (by have:=Ii;simp only at this;omega) d'.Bl) lL rfl rfl) ⟨bH++[vg],trivial,WE ae ax,ab.sub az ⟨rfl,rfl,rfl,?_,trivial⟩⟩;rw[<-gZ];show _=some (ba.aF (bg.bw (e0 (hj _ a (m.k7 (tf ks yZ))))));rw[qQ];rfl
 .refine⟨_,_,_,ab.Rp 1002 rfl,rfl,trivial,⟨rfl,?_,?_,trivial⟩,rfl⟩
  .show some (ba.map .str .aL (l.map (·.2)))=_;rw[vE]
  .show some (ba.aF (bg.bw (e0 (k8 (qd ks l bH) L))))=_;rw[WA (g:=yW ks es) fun q _=>by rw[amG ez,vE]]
end
section
theorem Io {b:Nat} {m:bX}: ∀{L:dV},hY L b=some m->hj L b m=L
 | [],h=>by cases h
 |p::L,h=>by
  rw[uf] at h;show(if p.1=b then(p.1,m)::L else p::hj L b m)=_
  split at h
  .rename_i e;injection h with h
   rw[if_pos e,<-h]
  .rename_i e;rw[if_neg e,Io h]
theorem amM (a b:aA0):(fN .str (a:aa .str) (b:aa .str)=true)↔a=b:=by
 show zv a b=true↔a=b;unfold zv;exact decide_eq_true_iff
end
section
def mG (b:aA0):aA0×Bool:=if b.length < 4 then([],false) else if sc (b.take (b.length - 4))=b then(b.take (b.length - 4),true) else([],false)
theorem amN (b:aA0) (O:b.length<=1000000):Fn Tryz.prog 236 [bv .u8 b] [] [] (.cb [.one (.d (.cf .u8 (mG b).1)),.one (.d (.bool (mG b).2))]) []:=by
 unfold mG;refine aT [] Tryz.func236 ?_;refine⟨fun c=>?_,fun c=>?_⟩
 .have c:(b.length:Int) < 4:=gd c;rw[if_pos (show b.length < 4 by omega)];exact bc
 have c: ¬(b.length:Int) < 4:=mu c;rw[if_neg (show¬b.length < 4 by omega)];have q: -9223372036854775808<=(b.length:Int) - 4/\(b.length:Int) - 4<=9223372036854775807:=aw8
 have cF:0<=(b.length:Int) - 4/\(b.length:Int) - 4<=(b.length:Nat):=aw8
 have e:((b.length:Int) - 4).toNat=b.length - 4:=aw8
 have ap:(b.take (b.length - 4)).length<=1000000:=ax7
 have ax:(sc (b.take (b.length - 4))).length<=4294967296:=by
  unfold sc;rw[aq5,qW];omega
 have bm:List.drop 0 (List.take ((b.length:Int) - 4).toNat b)=b.take (b.length - 4):=by rw[e,List.drop_zero]
 refine⟨q,cF,ak (Fn.arg (Wy (b.take (b.length - 4)) ap) ⟨bm,trivial⟩) <| ak (Wd (sc (b.take (b.length - 4))) b ax aw0) ⟨fun d=>?_,fun d=>?_⟩⟩
 .have d: ¬sc (b.take (b.length - 4))=b:=by simpa using d
  rw[if_neg d];exact bc
 .have d:sc (b.take (b.length - 4))=b:=by simpa using d
  rw[if_pos d];exact⟨q,cF,ak (Fn.arg (L0 (b.take (b.length - 4)) aw0) ⟨bm,trivial⟩) bc⟩
theorem Bo {m:bX} {L:dV} {b:Nat} (cH:hY L b=some m):Fn Tryz.prog 238 [c8 b] [(1003,.aF (.bw (e0 L)))] [] (ac m.n) [(1003,.aF (.bw (e0 L)))]:=by
 have:=Bi (alS m) cH rfl rfl
 rwa[Io cH] at this
theorem WF {m:bX} {L:dV} {b:Nat} (cH:hY L b=some m) (h:fe m) (at_ a1:Int) (av:0<=a1) (aG:m.kM at_ a1=true):Fn Tryz.prog 235 [c8 b,ac at_,ac a1] [(1003,.aF (.bw (e0 L)))] [] (.cb [.one (.d (.cf .u8 (pA m.bH at_ a1.toNat))),dp 0]) [(1003,.aF (.bw (e0 L)))]:=by
 have:=Bi (amm m at_ a1 av aG h.kL h.cM h.bH.wf) cH rfl rfl
 rwa[Io cH] at this
def mH (m:bX) (k:Int):aA0:=pA m.bH k 1
def iJ (x:aA0):Nat×Nat×Nat:=((fK 4 (x,0)).2,(fK 4 (fK 4 (x,0)).1).2,(fK 4 (fK 4 (fK 4 (x,0)).1).1).2)
def nO (m:bX) (k:Int):aA0:=pA m.bH (2+k*dv m.n) (dv m.n).toNat
def ng (m:bX) (k:Int):aA0×Int:=match(mG (mH m k)).2 with
 |false=>([],0)
 |true=>match decide (((iJ (mG (mH m k)).1).1:Int) < 1)||decide ((1073741824:Int) < ((iJ (mG (mH m k)).1).1:Int))||decide (dv m.n*16 < ((iJ (mG (mH m k)).1).2.1:Int)) with
  |true=>([],0)
  |false=>match decide (jw ((nO m k).take (iJ (mG (mH m k)).1).2.1)=((iJ (mG (mH m k)).1).2.2:Int)) with
   |false=>([],0)
   |true=>((nO m k).take (iJ (mG (mH m k)).1).2.1,((iJ (mG (mH m k)).1).1:Int))
theorem D8 {n:Int} (G:2<=n) (E:n<=4096):0<=dv n/\2+dv n+dv n<=n:=by unfold dv;omega
theorem amO {m:bX} (ag:fe m) (G:2<=m.n) (k:Int):(nO m k).length=16*(dv m.n).toNat:=Ie ag.bH.wf _ _
theorem amP {m:bX} (ag:fe m) (G:2<=m.n) (k:Int) (Z:k=0\/k=1) {s:Nat} {M:dV} (ar:hY M s=some m):Fn Tryz.prog 215 [c8 s,ac k] [(1003,.aF (.bw (e0 M)))] [] (.cb [.one (.d (.cf .u8 (ng m k).1)),.one (.d (.int .i64 (ng m k).2))]) [(1003,.aF (.bw (e0 M)))]:=by
 have ke:=ag.cM;have dJ:m.kM k 1=true:=by simp only[bX.kM,vj,as1];omega
 obtain⟨a0,b0⟩:=D8 G ke;unfold ng;refine aT [] Tryz.func215 ?_;refine ak (WF ar ag k 1 aw1 dJ) ?_
 have bj:(mH m k).length<=1000000:=by
  have:=Ie ag.bH.wf k 1;unfold mH;omega
 refine ak (amN (mH m k) bj) <| cX ?_
 cases we:(mG (mH m k)).2 with
 |false=>
  exact d7 bc
 |true=>
  refine cX ?_
  have hx:(mG (mH m k)).1.length<=4294967296:=by
   unfold mG
   split
   .simp
   .split
    .show((mH m k).take _).length<=_;rw[ar3];omega
    .simp
  generalize(mG (mH m k)).1=x at hx⊢;refine ak (HZ x hx) ?_;refine ak (ps (x,0) 4 (by unfold W;omega)) ?_;refine ak (ps (fK 4 (x,0)).1 4 (by unfold W;omega)) ?_;refine ak (ps (fK 4 (fK 4 (x,0)).1).1 4 (by unfold W;omega)) ⟨fun cJ=>?_,fun cJ=>?_⟩
  .have cJ:decide (((iJ x).1:Int) < 1)=true:=cJ;rw[cJ];exact bc
  have cJ:decide (((iJ x).1:Int) < 1)=false:=cJ;rw[cJ];refine⟨fun cG=>?_,fun cG=>?_⟩
  .have cG:decide ((1073741824:Int) < ((iJ x).1:Int))=true:=cG;rw[cG];exact bc
  have cG:decide ((1073741824:Int) < ((iJ x).1:Int))=false:=cG;rw[cG];refine ak (Bo ar) <| ak (Od m.n ag.kL ag.cM) ⟨fun hP=>?_,fun hP=>?_⟩
  .have hP:decide (dv m.n*16 < ((iJ x).2.1:Int))=true:=hP;rw[hP];exact bc
  have hP:decide (dv m.n*16 < ((iJ x).2.1:Int))=false:=hP;rw[hP];have bZ:=amO ag G k
  have lq:(iJ x).2.1<=(nO m k).length:=by
   have:=mu hP;omega
  refine ak (Bo ar) <| ak (In m.n ag.kL ag.cM) ?_;have cC: -9223372036854775808<=k*dv m.n/\k*dv m.n<=9223372036854775807:=by rcases Z with rfl |rfl <;>omega
  have cF: -9223372036854775808<=2+k*dv m.n/\2+k*dv m.n<=9223372036854775807:=by rcases Z with rfl |rfl <;>omega
  have ox:m.kM (2+k*dv m.n) (dv m.n)=true:=by
   simp only[bX.kM,vj,as1];rcases Z with rfl |rfl <;>omega
  refine⟨cC,cF,ak (Bo ar) <| ak (In m.n ag.kL ag.cM) <| ak (WF ar ag (2+k*dv m.n) (dv m.n) a0 ox) ?_⟩;have dD:0<=((iJ x).2.1:Int)/\((iJ x).2.1:Int)<=((nO m k).length:Nat):=aw8
  refine⟨dD,?_⟩;have c6:([List.drop 0 (List.take (((iJ x).2.1:Nat):Int).toNat (nO m k))]:List aA0)=[(nO m k).take (iJ x).2.1]:=rfl;refine ak (Fn.arg (NY [(nO m k).take (iJ x).2.1] aw2 (fun y aD=>by rw[ar5] at aD;rw[aD,ar3];omega)) ⟨c6,trivial⟩) ?_;have f2:([(nO m k).take (iJ x).2.1]:List aA0).flatten=(nO m k).take (iJ x).2.1:=by simp
  rw[f2];refine⟨fun t2=>?_,fun t2=>?_⟩
  .have t2:(!decide (jw ((nO m k).take (iJ x).2.1)=((iJ x).2.2:Int)))=true:=t2;have Dh:decide (jw ((nO m k).take (iJ x).2.1)=((iJ x).2.2:Int))=false:=by simpa using t2
   rw[Dh];exact bc
  .have t2:(!decide (jw ((nO m k).take (iJ x).2.1)=((iJ x).2.2:Int)))=false:=t2;have Dh:decide (jw ((nO m k).take (iJ x).2.1)=((iJ x).2.2:Int))=true:=by simpa using t2
   rw[Dh];refine⟨_,_,fun N=>acY ee rfl rfl rfl rfl rfl rfl dD.1 dD.2 N,rfl,?_⟩;exact bc
def gB (m:bX):Nat->Int×aA0×Int
 |0=>(-1,[],0)
 |j+1=>if(gB m j).2.2 < (ng m (j:Nat)).2 then((j:Nat),(ng m (j:Nat)).1,(ng m (j:Nat)).2) else gB m j
abbrev amQ (m:bX) (s j:Nat):aX:=[(0,c8 s),(5,ac (gB m j).1),(6,ac (gB m j).2.2),(7,bv .u8 (gB m j).2.1),(11,ac (j:Nat))]
theorem Og {m:bX} (ag:fe m) (G:2<=m.n) {s:Nat} {M:dV} (ar:hY M s=some m):Fn Tryz.prog 181 [c8 s] [(1003,.aF (.bw (e0 M)))] [] (.cb [.one (.d (.int .i64 (gB m 2).1)),.one (.d (.cf .u8 (gB m 2).2.1)),.one (.d (.int .i64 (gB m 2).2.2))]) [(1003,.aF (.bw (e0 M)))]:=by
 refine aT [] Tryz.func181 ?_;refine dG [] (X:=Nat) (amQ m s) (fun _=>[(1003,.aF (.bw (e0 M)))]) (fun j=>j<=2) (fun j=>2 - j) 0 aw1 ?_ ?_
 .exact ab.sub az az
 intro j V;refine⟨fun h=>?_,fun h=>?_⟩
 .have h:(j:Int) < 2:=gd h;refine ak (amP ag G (j:Nat) aw0 ar) ⟨fun c=>?_,fun c=>?_⟩
  .have c:(gB m j).2.2 < (ng m (j:Nat)).2:=gd c;have e:gB m (j+1)=(((j:Nat):Int),(ng m (j:Nat)).1,(ng m (j:Nat)).2):=if_pos c;refine⟨aw0,j+1,aw0,aw0,ab.sub ⟨rfl,?_,?_,?_,rfl,trivial⟩ az⟩
   .rw[e];rfl
   .rw[e];rfl
   .rw[e];rfl
  .have c: ¬(gB m j).2.2 < (ng m (j:Nat)).2:=mu c;have e:gB m (j+1)=gB m j:=if_neg c;refine⟨aw0,j+1,aw0,aw0,ab.sub ⟨rfl,?_,?_,?_,rfl,trivial⟩ az⟩
   .rw[e];rfl
   .rw[e];rfl
   .rw[e];rfl
 .have h: ¬(j:Int) < 2:=mu h;have fB:j=2:=aw8
  subst fB;exact bc
end
section
abbrev jg:=Option (Int×aA0)
inductive y0 (L:List (Nat×bg)) (bF:Nat):aa .fn->jg->Prop
 |f:y0 L bF (q1 bF) none
 |w {a b:Nat} {at_:Int} {x:aA0}:eB L a=some (ho (.int .i64 at_))->eB L b=some (ho (.cf .u8 x))->y0 L bF (oJ bF a b) (some (at_,x))
def qe (L:List (Nat×bg)) (bF:Nat):List (aa .fn)->List jg->Prop
 | [],[]=>True
 |f::l,t::m=>y0 L bF f t/\qe L bF l m
 |_,_=>False
theorem WG {a:Nat} {o:bg}: ∀{L:List (Nat×bg)},eB L a=some o->a∈L.map (·.1)
 | [],h=>by cases h
 |(b,q)::L,h=>by
  unfold eB at h
  split at h
  .rename_i e;rw[ar8];exact aq7.2 (.inl e.symm)
  .rw[ar8];exact aq6 _ (WG h)
theorem D9 {a b:Nat} {o q:bg} {L:List (Nat×bg)} (h:eB L a=some o) (hn:b∉L.map (·.1)):eB ((b,q)::L) a=some o:=by
 have a6: ¬b=a:=fun e=>hn (e▸WG h)
 unfold eB;rw[if_neg a6];exact h
theorem y0.qF {L:List (Nat×bg)} {bF b:Nat} {q:bg} (hn:b∉L.map (·.1)) {f:aa .fn} {t:jg} (h:y0 L bF f t):y0 ((b,q)::L) bF f t:=by
 cases h with
 |f=>exact .f
 |w E G=>exact .w (D9 E hn) (D9 G hn)
theorem qe.qF {L:List (Nat×bg)} {bF b:Nat} {q:bg} (hn:b∉L.map (·.1)): ∀{l:List (aa .fn)} {m:List jg},qe L bF l m->qe ((b,q)::L) bF l m
 | [],[],_=>trivial
 |f::l,t::m,h=>⟨h.1.qF hn,qe.qF hn h.2⟩
 | [],_::_,h=>h.elim
 |_::_,[],h=>h.elim
theorem qe.w0 {L:List (Nat×bg)} {bF:Nat} {f:aa .fn} {t:jg} (G:y0 L bF f t): ∀{l:List (aa .fn)} {m:List jg},qe L bF l m->qe L bF (l++[f]) (m++[t])
 | [],[],_=>⟨G,trivial⟩
 |f::l,t::m,h=>⟨h.1,qe.w0 G h.2⟩
 | [],_::_,h=>h.elim
 |_::_,[],h=>h.elim
theorem qe.len {L:List (Nat×bg)} {bF:Nat}: ∀{l:List (aa .fn)} {m:List jg},qe L bF l m->l.length=m.length
 | [],[],_=>rfl
 |f::l,t::m,h=>by rw[au1,au1,qe.len h.2]
 | [],_::_,h=>h.elim
 |_::_,[],h=>h.elim
theorem y1 (x:D):(ho x).pb:=fun I F w p h=>(h.1 _).2 rfl
structure q5 (L:List (Nat×bg)) (bF s:Nat) (eV:List (aa .fn)) (gp:List jg):Prop where
 an: ∀p∈L,p.2.pb
 ae:eB L bF=some (ho (.aL (some s)))
 aC:qe L bF eV gp
theorem q5.write {L:List (Nat×bg)} {bF s a b:Nat} {eV:List (aa .fn)} {gp:List jg} {at_:Int} {x:aA0} (h:q5 L bF s eV gp) (hn:(((b,ho (.cf .u8 x))::(a,ho (.int .i64 at_))::L).map (·.1)).Nodup):
  q5 ((b,ho (.cf .u8 x))::(a,ho (.int .i64 at_))::L) bF s (eV++[oJ bF a b]) (gp++[some (at_,x)]):=by
 rw[ar8,at0,ar8,at0] at hn;obtain⟨cM,dK,lr⟩:=hn;rw[aq7,not_or] at cM
 have O:b∉((a,ho (.int .i64 at_))::L).map (·.1):=by
  rw[ar8,aq7,not_or];exact cM
 refine⟨fun p ae=>?_,D9 (D9 h.ae dK) O,qe.w0 (.w (D9 ?_ O) ?_) ((h.aC.qF dK).qF O)⟩
 .rcases aq7.1 ae with rfl |ae
  .exact y1 _
  .rcases aq7.1 ae with rfl |ae
   .exact y1 _
   .exact h.an p ae
 .unfold eB;rw[if_pos rfl]
 .unfold eB;rw[if_pos rfl]
theorem q5.oH {L:List (Nat×bg)} {bF s:Nat} {eV:List (aa .fn)} {gp:List jg} (h:q5 L bF s eV gp):q5 L bF s (eV++[q1 bF]) (gp++[none]):=⟨h.an,h.ae,h.aC.w0 .f⟩
abbrev ug (e:Int) (eV:List (aa .fn)) (L:List (Nat×bg)):ay:=[(1001,.cells [.d (.cf .fn eV),.d (.int .i64 e)]),(1005,.aF (.bw L))]
def sd (s:Nat) (gp:List jg) (e:Int):bg where
 bn:=fun I F w p=> ∃(bF:Nat) (eV:List (aa .fn)) (L:List (Nat×bg)),q5 L bF s eV gp/\iO 1001 (ug e eV L) I F w p
 ck:=fun I F w I' w' p ⟨bF,eV,L,Z,h⟩ U bd aR=>⟨bF,eV,L,Z,(bg.i9 1001 (ug e eV L)).ck I F w I' w' p h U bd aR⟩
def lF (b:aA0) (j:Nat):aA0:=laid (List.replicate 16 0) 0 16 (b.drop (16*j))
def k9 (b:aA0) (k kN:Int):Nat->List jg
 |0=>[]
 |j+1=>k9 b k kN j++[some (2+k*kN+(j:Nat),lF b j)]
theorem y2 (b:aA0) (k kN:Int): ∀j,(k9 b k kN j).length=j
 |0=>rfl
 |j+1=>by rw[k9,aq5,y2];rfl
def hk (b:aA0):Nat:=(b.length+15)/16
def qf (b:aA0) (n:Int):aA0:=sc (eP 4 [(n+1).toNat,b.length,(jw b).toNat])
def tj (b:aA0) (k kN n:Int):List jg:=k9 b k kN (hk b)++[none]++[some (k,qf b n)]++[none]
abbrev WH (b:aA0) (bF:Nat) (n k:Int) (j:Nat):aX:=[(1,bv .u8 b),(2,c8 bF),(8,ac n),(9,ac k),(10,ah 10),(11,.c (.one (.cY 242 [.d (.aL (some bF))]))),(12,.c (.one (.cY 244 [.p 10 0,.d (.aL (some bF))]))),(13,ac (16*(j:Nat)))]
abbrev WI (M:dV) (d:Nat) (eV:List (aa .fn)) (L:List (Nat×bg)):ay:=[(10,.cells [.ptr 37 0]),(37,.cells [.own d,.d (.int .i64 0)]),(d,.row 128 .fn eV),(1005,.aF (.bw L)),(1003,.aF (.bw (e0 M)))]
theorem amR {m:bX} (ag:fe m) (G:2<=m.n) {s:Nat} {M:dV} (ar:hY M s=some m) (b:aA0) (O:(b.length:Int)<=dv m.n*16) (Ip:(gB m 2).2.2 < 1073741824) (Iq:0<=(gB m 2).2.2) (jL: -1<=(gB m 2).1/\(gB m 2).1<=1):
  Fn Tryz.prog 217 [c8 s,bv .u8 b] [(1003,.aF (.bw (e0 M)))] [2001] (.cb [.one (.ptr 2001 0),dp 0]) [(1003,.aF (.bw (e0 M))),(2001,.aF (sd s (tj b (((gB m 2).1+1) % 2) (dv m.n) (gB m 2).2.2) 0))]:=by
 obtain⟨a0,b0⟩:=D8 G ag.cM;have ke:=ag.cM;have gE:b.length<=1000000:=aw8
 refine aT [8,18,20] Tryz.func217 ?_;refine⟨rfl,ak (Og ag G ar) ?_⟩;generalize gB m 2=bb at Ip Iq jL⊢;obtain⟨w8,aqU,n⟩:=bb;simp only at Ip Iq jL⊢;refine ak (Bo ar) <| ak (Od m.n ag.kL ag.cM) ⟨fun c=>?_,fun _=>?_⟩
 .have c:dv m.n*16 < (b.length:Int):=gd c;omega
 refine⟨fun c=>absurd (gd c) aw0,fun _=>?_⟩;have cC: -9223372036854775808<=w8+1/\w8+1<=9223372036854775807:=aw8
 have cF:0<=w8+1/\(0:Int) < 2:=aw8
 have dD: -9223372036854775808<=(w8+1) % 2/\(w8+1) % 2<=9223372036854775807:=aw8
 refine⟨cC,cF,dD,?_⟩;have Z:(w8+1) % 2=0\/(w8+1) % 2=1:=aw8
 generalize(w8+1) % 2=k at Z⊢;refine⟨rfl,rfl,bk.le (ab.ll 1005 rfl) <| bk.le (ab.wc 37 0 3006 128 .fn rfl rfl rfl) <| bk.eH (c5.box 2 2 1005 rfl rfl aw1 rfl) fun bF=>br [] (bq) ?_⟩;refine dG [12,15] (X:=Nat×List (aa .fn)×List (Nat×bg)) (fun x=>WH b bF n k x.1) (fun x=>WI M 3006 x.2.1 x.2.2) (fun x=>x.1<=hk b/\q5 x.2.2 bF s x.2.1 (k9 b k (dv m.n) x.1)) (fun x=>hk b - x.1) (0,[],[(bF,ho (.aL (some s)))]) ⟨aq9 _,fun p ae=>(by rw[ar5] at ae;rw[ae];exact y1 _),by unfold eB;rw[if_pos rfl],trivial⟩ ?_ ?_
 .exact ab.sub az az
 rintro⟨j,eV,L⟩ ⟨V,dq⟩;have V:j<=hk b:=V;have dq:q5 L bF s eV (k9 b k (dv m.n) j):=dq;have bZ:=dq.aC.len;rw[y2] at bZ;refine⟨fun J=>?_,fun J=>?_⟩
 .have J:(16*(j:Nat):Int) < (b.length:Nat):=gd J;have eS:j < hk b:=by unfold hk;omega
  refine⟨⟨rfl,aw1,aw1⟩,rfl,?_⟩;have x0:0<=(16*(j:Nat):Int)/\(16*(j:Nat):Int)<=(b.length:Nat):=aw8
  refine⟨x0,aw1,bk.le (ab.d3 46 rfl) <| bk.gz ee aw3 ⟨_,_,fun N=>CF (q:=1005) rfl Tryz.underlying198 rfl rfl rfl dq.ae N,rfl,?_⟩⟩;refine hp ((Bo ar).x) fun _=>?_
  refine hp ((In m.n ag.kL ag.cM).x) fun _=>?_
  have wo: -9223372036854775808<=k*dv m.n/\k*dv m.n<=9223372036854775807:=by rcases Z with rfl |rfl <;>omega
  have x1: -9223372036854775808<=2+k*dv m.n/\2+k*dv m.n<=9223372036854775807:=by rcases Z with rfl |rfl <;>omega
  have KJ:0<=(16*(j:Nat):Int)/\(0:Int) < 16:=aw8
  have amS: -9223372036854775808<=(16*(j:Nat):Int)/16/\(16*(j:Nat):Int)/16<=9223372036854775807:=aw8
  have q6:(16*(j:Nat):Int)/16=(j:Nat):=aw8
  have amT: -9223372036854775808<=2+k*dv m.n+(16*(j:Nat):Int)/16/\2+k*dv m.n+(16*(j:Nat):Int)/16<=9223372036854775807:=by rcases Z with rfl |rfl <;>omega
  refine⟨wo,x1,KJ,amS,amT,hp (cA.aV [(1001,10),(1002,37),(1006,3006),(2006,4006)] (Wx (2+k*dv m.n+(16*(j:Nat):Int)/16) _ bF 0 eV L aw0)) fun g=>bk.eH (c5.CC 1005 ?_ rfl) fun dR=>?_⟩
  .intro p ae;rcases aq7.1 ae with rfl |ae
   .exact y1 _
   .rcases aq7.1 ae with rfl |ae
    .exact y1 _
    .exact dq.an p ae
  have sY:laid (List.replicate (Int.toNat 16) 0) 0 (List.replicate (Int.toNat 16) (0:UInt8)).length (List.drop (16*(j:Nat):Int).toNat (List.take b.length b))=lF b j:=by
   unfold lF;rw[as2,show(16*(j:Nat):Int).toNat=16*j by omega];rfl
  have amU:q5 ((g.2,ho (.cf .u8 (lF b j)))::(g.1,ho (.int .i64 (2+k*dv m.n+(16*(j:Nat):Int)/16)))::L) bF s (eV++[oJ bF g.1 g.2]) (k9 b k (dv m.n) (j+1)):=by
   have bG:=dq.write (a:=g.1) (b:=g.2) (at_:=2+k*dv m.n+(16*(j:Nat):Int)/16) (x:=lF b j) (by rw[<-sY];exact dR.down);have amV:(some (2+k*dv m.n+(16*(j:Nat):Int)/16,lF b j):jg)=some (2+k*dv m.n+(j:Nat),lF b j):=by rw[q6]
   rw[amV] at bG;exact bG
  have amW: -9223372036854775808<=(16*(j:Nat):Int)+16/\(16*(j:Nat):Int)+16<=9223372036854775807:=aw8
  refine br [] (bq) ⟨amW,?_⟩;refine⟨(j+1,eV++[oJ bF g.1 g.2],(g.2,ho (.cf .u8 (lF b j)))::(g.1,ho (.int .i64 (2+k*dv m.n+(16*(j:Nat):Int)/16)))::L),⟨eS,amU⟩,by show hk b - (j+1) < hk b - j;omega,ab.trans (ab.sub (K':=WH b bF n k (j+1)) (B':=WI M 4006 (eV++[oJ bF g.1 g.2]) ((g.2,ho (.cf .u8 (lF b j)))::(g.1,ho (.int .i64 (2+k*dv m.n+(16*(j:Nat):Int)/16)))::L)) ⟨rfl,rfl,rfl,rfl,rfl,rfl,rfl,?_,trivial⟩ ⟨rfl,rfl,rfl,?_,rfl,trivial⟩) (ab.aV 4006 3006 rfl)⟩
  .show(16*(j:Nat):Int)+16=16*((j+1:Nat):Int);omega
  .rw[<-sY];rfl
 .have J: ¬(16*(j:Nat):Int) < (b.length:Nat):=mu J;have eS:j=hk b:=by unfold hk at V⊢;omega
  subst eS;have ax:=NX b;have j0:hk b<=100000:=by unfold hk;omega
  have r1: -9223372036854775808<=n+1/\n+1<=9223372036854775807:=aw8
  refine⟨r1,?_⟩;refine ak (NY [b] aw2 (fun y aD=>by rw[ar5] at aD;rw[aD];omega)) ?_;have af:([b]:List aA0).flatten=b:=by simp
  rw[af]
  have ao:([n+1,((b.length:Nat):Int),jw b]:List Int)=s9 [(n+1).toNat,b.length,(jw b).toNat]:=by
   show _=[(((n+1).toNat:Nat):Int),((b.length:Nat):Int),(((jw b).toNat:Nat):Int)];rw[show(((n+1).toNat:Nat):Int)=n+1 by omega,show(((jw b).toNat:Nat):Int)=jw b by omega]
  refine⟨_,_,_,_,Fn.arg (Fn.aV [(1002,5002)] (HY 4 [(n+1).toNat,b.length,(jw b).toNat] (by unfold W;omega) (fun x hx=>by
   simp only[aq7,List.not_mem_nil,or_false] at hx;rcases hx with rfl |rfl |rfl <;>omega) aw2)) ⟨rfl,rfl,ao,trivial⟩,trivial,rfl,?_⟩
  have gb:eV.length+1<=4294967296:=aw8
  refine⟨gb,rfl,rfl,bk.le (ab.d3 5002 rfl) <| bk.gz ee aw3 ?_⟩;have amX:(eP 4 [(n+1).toNat,b.length,(jw b).toNat]).length<=1000000:=by rw[nK];simp
  refine hp ((Wy (eP 4 [(n+1).toNat,b.length,(jw b).toNat]) amX).x) fun _=>?_
  refine hp (cA.aV [(1001,10),(1002,37),(1006,83),(2006,4006)] (Wx k (qf b n) bF 0 (eV++[q1 bF]) L (by rw[aq5];simp;omega))) fun g=>?_
  have gU:(eV++[q1 bF]++[oJ bF g.1 g.2]).length+1<=4294967296:=ax4
  refine⟨gU,rfl,rfl,bk.eH (c5.CC 1005 ?_ rfl) fun dR=>?_⟩
  .intro p ae;rcases aq7.1 ae with rfl |ae
   .exact y1 _
   .rcases aq7.1 ae with rfl |ae
    .exact y1 _
    .exact dq.an p ae
  have amY:=(dq.oH.write (a:=g.1) (b:=g.2) (at_:=k) (x:=qf b n) dR.down).oH;exact br [] (ab.d3 98 rfl) ⟨_,_,_,(ab.aV 37 2001 rfl).trans (ab.close 2001 [(2001,.cells [.d (.cf .fn (eV++[q1 bF]++[oJ bF g.1 g.2]++[q1 bF])),.d (.int .i64 0)]),(1005,.aF (.bw ((g.2,ho (.cf .u8 (qf b n)))::(g.1,ho (.int .i64 k))::L)))] (o:=sd s (tj b k (dv m.n) n) 0) az rfl fun I F w p h=>⟨bF,_,_,amY,iO.aV [(2001,1001)] h⟩),rfl,az,az,rfl⟩
end
section
theorem WJ {f:FuncId} {args:List aO} {s:Nat} {gp Oh:List jg} {e b6:Int} {aI aN:ay} {res:aO} (J:jz Tryz.prog f=true)
  (h: ∀(bF:Nat) (eV:List (aa .fn)) (L:List (Nat×bg)),q5 L bF s eV gp-> ∃(Bp:List (aa .fn)),q5 L bF s Bp Oh/\Fn Tryz.prog f args (ug e eV L++aI) [] res (ug b6 Bp L++aN))
  (E: ∀(eV:List (aa .fn)) (L:List (Nat×bg)),ob 1001 [1005] args (ug e eV L) aI [] []=true) (G: ∀(eV:List (aa .fn)) (L:List (Nat×bg)),oc 1001 [1005] res (ug b6 eV L) aN=true):
  Fn Tryz.prog f args ((1001,.aF (sd s gp e))::aI) [] res ((1001,.aF (sd s Oh b6))::aN):=by
 refine Fn.F3 (Y:={y:Nat×List (aa .fn)×List (Nat×bg)//q5 y.2.2 y.1 s y.2.1 gp}) (sH:=fun y=>bg.i9 1001 (ug e y.1.2.1 y.1.2.2)) J (fun I F w p ⟨bF,eV,L,Z,aY⟩=>⟨⟨(bF,eV,L),Z⟩,aY⟩) fun⟨⟨bF,eV,L⟩,Z⟩=>?_
 obtain⟨Bp,amZ,hf⟩:=h bF eV L Z;exact(cA.close (bp:=ug e eV L) (dz:=fun _:Unit=>ug b6 Bp L) (aN:=fun _=>aN) (o:=bg.i9 1001 (ug e eV L)) (o':=fun _=>sd s Oh b6) [1005] hf.x (fun _ _ _ _ h=>h) (fun _ I F w p aY=>⟨bF,Bp,L,amZ,aY⟩) (E eV L) (fun _=>G Bp L)).fn
theorem am0 (s:Nat) (gp:List jg) (e:Int):Fn Tryz.prog 218 [ah 1001] [(1001,.aF (sd s gp e))] [] (ac (gp.length:Nat)) [(1001,.aF (sd s gp e))]:=by
 refine WJ (aI:=[]) (aN:=[]) aw3 (fun bF eV L Z=>⟨eV,Z,?_⟩) (fun _ _=>rfl) fun _ _=>rfl
 refine aT [] Tryz.func218 ?_;exact ej bq rfl (congrArg (fun n:Nat=>(n:Int)) Z.aC.len)
def vF (m:bX):jg->bX×Int
 |none=>(m.oH,0)
 |some (a,x)=>m.write a x
theorem Ir {α:Type} (f:α) (l:List α):List.drop 1 (List.take (f::l).length (f::l))=l:=by rw[as2];rfl
theorem am1 {s:Nat} {st:jg} {rest:List jg} {M:dV} {m:bX} (ar:hY M s=some m) (ag:fe m) (ap:m.e6.length<=1073741824) (hx: ∀a x,st=some (a,x)->x.length<=1073741824) (U:(vF m st).2=0):
  Fn Tryz.prog 219 [ah 1001] [(1001,.aF (sd s (st::rest) 0)),(1003,.aF (.bw (e0 M)))] [] (.cb [.one (.d (.bool (decide ((rest.length:Int)=0)))),dp 0]) [(1001,.aF (sd s rest 0)),(1003,.aF (.bw (e0 (hj M s (vF m st).1))))]:=by
 refine WJ (aI:=[(1003,.aF (.bw (e0 M)))]) (aN:=[(1003,.aF (.bw (e0 (hj M s (vF m st).1))))]) aw3 (fun bF eV L Z=>?_) (fun _ _=>rfl) fun _ _=>rfl
 match eV,Z with
 | [],Z=>exact Z.aC.elim
 |f::l,Z=>
  refine⟨l,⟨Z.an,Z.ae,Z.aC.2⟩,?_⟩;have bZ:=Z.aC.2.len;have d':=Z.aC.1
  cases d' with
  |f=>
   refine aT [] Tryz.func219 ?_;refine⟨fun c=>?_,fun _=>?_⟩
   .have c:(((q1 bF::l).length:Nat):Int)=0:=gd c;simp at c;omega
   refine⟨aw1,q1 bF,rfl,ak (amz Z.ae ar) ?_⟩;have q:0<=(1:Int)/\(1:Int)<=(((q1 bF::l).length:Nat):Int):=by rw[au1];omega
   refine⟨q,cX <| d7 ⟨rfl,_,_,_,bq,rfl,⟨?_,rfl,trivial⟩,⟨?_,rfl,rfl,trivial⟩,rfl⟩⟩
   .show decide (((List.drop 1 (List.take (q1 bF::l).length (q1 bF::l))).length:Int)=0)=_;rw[Ir,bZ]
   .show some (ba.cells [.d (.cf .fn (List.drop 1 (List.take (q1 bF::l).length (q1 bF::l)))),.d (.int .i64 0)])=_;rw[Ir]
  | @w a b at_ x aW bG=>
   have U:(m.write at_ x).2=0:=U;have hw:=amA Z.ae aW bG ar ag (hx at_ x rfl) ap;rw[U] at hw;refine aT [] Tryz.func219 ?_;refine⟨fun c=>?_,fun _=>?_⟩
   .have c:(((oJ bF a b::l).length:Nat):Int)=0:=gd c;simp at c;omega
   refine⟨aw1,oJ bF a b,rfl,ak hw ?_⟩;have q:0<=(1:Int)/\(1:Int)<=(((oJ bF a b::l).length:Nat):Int):=by rw[au1];omega
   refine⟨q,cX <| d7 ⟨rfl,_,_,_,bq,rfl,⟨?_,rfl,trivial⟩,⟨?_,rfl,rfl,trivial⟩,rfl⟩⟩
   .show decide (((List.drop 1 (List.take (oJ bF a b::l).length (oJ bF a b::l))).length:Int)=0)=_;rw[Ir,bZ]
   .show some (ba.cells [.d (.cf .fn (List.drop 1 (List.take (oJ bF a b::l).length (oJ bF a b::l)))),.d (.int .i64 0)])=_;rw[Ir]
end
section
def tk (n:Int):jg->Prop
 |none=>True
 |some (a,x)=>0<=a/\a < n/\x.length=16
theorem am2 {n:Int} {s:hX} (h:ma n s):(s.length:Int)<=max n 0:=by
 have:=Im n.toNat (sa s) h.gF fun k Z=>by have:=h.rg k Z;omega
 rw[show(sa s).length=s.length from ar7 _] at this;omega
theorem WK {k:Int} {x:aa g8}: ∀{s:hX},(bY s (k:aa ai)).isSome=true->(tc s k x).length=s.length
 | [],h=>by cases h
 |p::s,h=>by
  rw[Bm]
  cases e:nf k p with
  |true=>rfl
  |false=>
   have G:(bY s (k:aa ai)).isSome=true:=by
    have h:(match nf k p with |true=>some p.2 |false=>bY s (k:aa ai)).isSome=true:=h;rw[e] at h;exact h
   simp only[au1];rw[WK G]
theorem WL {k:Int} {x:aa g8}: ∀{s:hX},(bY s (k:aa ai)).isSome=false->(tc s k x).length=s.length+1
 | [],_=>rfl
 |p::s,h=>by
  rw[Bm];have h:(match nf k p with |true=>some p.2 |false=>bY s (k:aa ai)).isSome=false:=h
  cases e:nf k p with
  |true=>rw[e] at h;cases h
  |false=>
   rw[e] at h;simp only[au1];rw[WL h]
theorem WM {m:bX} (ag:fe m) (aC:m.n<=m.R) {a:Int} {x:aA0} (h:tk m.n (some (a,x))):m.write a x=(m.Ih a x,0):=by
 obtain⟨E,G,al⟩:=h;have af:vB x=false:=by unfold vB;rw[al];rfl
 have ao:m.kM a (x.length/16:Nat)=true:=by
  rw[al];simp only[bX.kM,vj,as1];omega
 have Z:(ma m.n (yT a x m.bH 1)):=Oa E ag.bH 1 aw0 aw0
 have bZ:((yT a x m.bH 1).length:Nat)=m.bH.length+l9 m.bH a 1:=by
  show(tc m.bH (a+(0:Nat)) (tb x 0)).length=m.bH.length+(match(bY m.bH (a+(0:Nat):Int)).isSome with |true=>0 |false=>0+1)
  cases e:(bY m.bH (a+(0:Nat):Int)).isSome with
  |true=>exact WK e
  |false=>exact WL e
 have bm:m.sb a (x.length/16)=false:=by
  rw[al];unfold bX.sb;rw[Bool.and_eq_false_iff];left;refine at3 fun bx=>?_
  have bG:=am2 Z;have:=ag.kL;have bx:m.R < ((m.bH.length+l9 m.bH a 1:Nat):Int):=bx;rw[<-bZ] at bx;omega
 unfold bX.write;rw[af];simp only;rw[ao];simp only;rw[bm]
def nP (m:bX) (l:List jg):bX:=l.foldl (fun m st=>(vF m st).1) m
theorem Bq (m:bX) (l:List jg) (st:jg):nP m (l++[st])=(vF (nP m l) st).1:=by
 unfold nP;rw[av3];rfl
structure Oi (m gx:bX) (i:Nat):Prop where
 ok:fe gx
 n:gx.n=m.n
 R:gx.R=m.R
 hz:gx.e6.length<=m.e6.length+i
theorem WN {m:bX} (ag:fe m) (aC:m.n<=m.R) {st:jg} (h:tk m.n st):(vF m st).2=0/\Oi m (vF m st).1 1:=by
 match st,h with
 |none,_=>exact⟨rfl,ag.oH,rfl,rfl,aq9 _⟩
 |some (a,x),h=>
  have e:=WM ag aC h;have hw:=ag.write a x;show(m.write a x).2=0/\Oi m (m.write a x).1 1;rw[e] at hw⊢;refine⟨rfl,hw,rfl,rfl,?_⟩;show(w7 a x m.e6 (x.length/16)).length<=_;rw[N3,h.2.2];exact aq4 _
theorem D' {m:bX} (ag:fe m) (aC:m.n<=m.R): ∀(i:Nat) (l:List jg),(∀st∈l,tk m.n st)->i<=l.length->Oi m (nP m (l.take i)) i
 |0,l,_,_=>⟨ag,rfl,rfl,aq4 _⟩
 |i+1,l,h,aG=>by
  have bu:=D' ag aC i l h aw0;rw[at7 aG,Bq];have G:=(WN bu.ok (by rw[bu.n,bu.R];exact aC) (st:=l[i]) (by rw[bu.n];exact h _ (as3 aG))).2;exact⟨G.ok,G.n.trans bu.n,G.R.trans bu.R,by have:=G.hz;have:=bu.hz;omega⟩
theorem WO {a:Nat} {m1 m2:bX}: ∀L:dV,hj (hj L a m1) a m2=hj L a m2
 | []=>rfl
 |p::L=>by
  show hj (if p.1=a then(p.1,m1)::L else p::hj L a m1) a m2=if p.1=a then(p.1,m2)::L else p::hj L a m2
  by_cases e:p.1=a
  .rw[if_pos e,if_pos e];show(if p.1=a then(p.1,m2)::L else _)=_;rw[if_pos e]
  .rw[if_neg e,if_neg e];show(if p.1=a then _ else p::hj (hj L a m1) a m2)=_;rw[if_neg e,WO]
theorem WP {a:Nat} {m gx:bX}: ∀{L:dV},hY L a=some m->hY (hj L a gx) a=some gx
 | [],h=>by cases h
 |p::L,h=>by
  rw[uf] at h;show hY (if p.1=a then(p.1,gx)::L else p::hj L a gx) a=_
  by_cases e:p.1=a
  .rw[if_pos e,uf,if_pos e]
  .rw[if_neg e] at h⊢;rw[uf,if_neg e];exact WP h
theorem am3 (b:aA0) (j:Nat):(lF b j).length=16:=by
 unfold lF laid;simp only[aq5,ar3,au3,at1];omega
theorem Oj (b:aA0) (n:Int):(qf b n).length=16:=by
 unfold qf sc;rw[aq5,qW,nK];rfl
theorem WQ {b:aA0} {k kN:Int} {st:jg}: ∀{j:Nat},st∈k9 b k kN j-> ∃i:Nat,i < j/\st=some (2+k*kN+(i:Nat),lF b i)
 |0,h=>by cases h
 |j+1,h=>by
  rw[k9,as4,ar5] at h;rcases h with h |h
  .obtain⟨i,E,G⟩:=WQ h;exact⟨i,aw0,G⟩
  .exact⟨j,aw0,h⟩
theorem WR {m:bX} (ag:fe m) (G:2<=m.n) {b:aA0} (O:(b.length:Int)<=dv m.n*16) {k:Int} (Z:k=0\/k=1) (n:Int): ∀st∈tj b k (dv m.n) n,tk m.n st:=by
 obtain⟨a0,b0⟩:=D8 G ag.cM;intro st d';unfold tj at d';simp only[as4,ar5] at d';rcases d' with((h |h) |h) |h
 .obtain⟨i,E,rfl⟩:=WQ h;have:(i:Int) < dv m.n:=by unfold hk at E;omega
  refine⟨?_,?_,am3 b i⟩
  .rcases Z with rfl |rfl <;>omega
  .rcases Z with rfl |rfl <;>omega
 .rw[h];trivial
 .rw[h];exact⟨aw0,aw0,Oj b n⟩
 .rw[h];trivial
theorem am4 (b:aA0) (k kN n:Int):(tj b k kN n).length=hk b+3:=by
 unfold tj;simp[y2]
abbrev am5 (N i:Nat):aX:=[(5,ah 3001),(6,ac 0),(17,ac (N:Nat)),(18,ac (i:Nat))]
abbrev am6 (s:Nat) (gp:List jg) (M:dV):ay:=[(3001,.aF (sd s gp 0)),(1003,.aF (.bw (e0 M)))]
theorem am7 {m:bX} (ag:fe m) (aC:m.n<=m.R) {s:Nat} {M:dV} (ar:hY M s=some m) {gp:List jg} (ax: ∀st∈gp,tk m.n st) (ap:m.e6.length+gp.length<=1000000) {i:Nat} (aG:i < gp.length):
  Fn Tryz.prog 219 [ah 1001] [(1001,.aF (sd s (gp.drop i) 0)),(1003,.aF (.bw (e0 (hj M s (nP m (gp.take i))))))] [] (.cb [.one (.d (.bool (decide (((gp.drop (i+1)).length:Int)=0)))),dp 0])
   [(1001,.aF (sd s (gp.drop (i+1)) 0)),(1003,.aF (.bw (e0 (hj M s (nP m (gp.take (i+1)))))))]:=by
 have E:=D' ag aC i gp ax aw0;have d':=ax _ (as3 aG)
 have G:=am1 (s:=s) (st:=gp[i]) (rest:=gp.drop (i+1)) (M:=hj M s (nP m (gp.take i))) (WP ar) E.ok (by have:=E.hz;omega) (fun a x e=>by
  rw[e] at d';have:=d'.2.2;omega) (WN E.ok (by rw[E.n,E.R];exact aC) (by rw[E.n];exact d')).1
 rw[WO,<-Bq,<-at7 aG,<-List.drop_eq_getElem_cons aG] at G;exact G
theorem am8 {m:bX} (ag:fe m) (G:2<=m.n) (aC:m.n<=m.R) (ap:m.e6.length<=10000) {s:Nat} {M:dV} (ar:hY M s=some m) (b:aA0) (O:(b.length:Int)<=dv m.n*16) (Ip:(gB m 2).2.2 < 1073741824) (Iq:0<=(gB m 2).2.2) (jL: -1<=(gB m 2).1/\(gB m 2).1<=1):
  Fn Tryz.prog 184 [c8 s,bv .u8 b] [(1003,.aF (.bw (e0 M)))] [] (ac 0) [(1003,.aF (.bw (e0 (hj M s (nP m (tj b (((gB m 2).1+1) % 2) (dv m.n) (gB m 2).2.2))))))]:=by
 have uE:=amR ag G ar b O Ip Iq jL;have bz:=WR ag G O (k:=((gB m 2).1+1) % 2) aw0 (gB m 2).2.2;have hB:=am4 b (((gB m 2).1+1) % 2) (dv m.n) (gB m 2).2.2;obtain⟨a0,b0⟩:=D8 G ag.cM;have ke:=ag.cM;have j0:hk b<=100000:=by unfold hk;omega
 generalize tj b (((gB m 2).1+1) % 2) (dv m.n) (gB m 2).2.2=gp at uE bz hB⊢;refine aT [] Tryz.func184 ?_;refine ak (Fn.aV [(2001,3001)] uE) <| cX <| ak (Fn.aV [(1001,3001)] (am0 s gp 0)) <| dG [] (X:=Nat) (fun i=>am5 gp.length i) (fun i=>am6 s (gp.drop i) (hj M s (nP m (gp.take i)))) (fun i=>i<=gp.length) (fun i=>gp.length - i) 0 (aq9 _) ?_ ?_
 .refine ab.sub az ⟨rfl,?_,trivial⟩;show _=some (ba.aF (.bw (e0 (hj M s m))));rw[Io ar];rfl
 intro i aG;refine⟨fun h=>?_,fun h=>?_⟩
 .have h:decide ((i:Int) < (gp.length:Nat))=true:=h;have dJ:i < gp.length:=aw9
  exact ak (Fn.aV [(1001,3001)] (am7 ag aC ar bz aw0 dJ)) ⟨aw0,i+1,aw0,aw0,ab.sub az az⟩
 .have h:decide ((i:Int) < (gp.length:Nat))=false:=h;have dJ:i=gp.length:=az3
  subst dJ;rw[as2];exact bc
end
section
def Ok (x:aa g8):aA0:=x
def w9:aA0:=List.replicate 16 0
theorem am9 (a:Int):iW [] a=w9:=rfl
theorem Ea (p:aa ai×aa g8) (s:hX) (a:Int):iW (p::s) a=match nf a p with |true=>Ok p.2 |false=>iW s a:=by
 unfold iW D6;show(match nf a p with |true=>some p.2 |false=>bY s (a:aa ai)).getD (cL g8)=_
 cases nf a p <;>rfl
theorem WS (k:Int) (x:aa g8) (a:Int): ∀s:hX,iW (tc s k x) a=if k=a then Ok x else iW s a
 | []=>by
  rw[Il,Ea,am9]
  by_cases h:k=a
  .rw[if_pos h,show nf a (yV k x)=true from td.2 h.symm];rfl
  .rw[if_neg h,show nf a (yV k x)=false from au8.2 fun e=>h (td.1 e).symm]
 |p::s=>by
  rw[Bm]
  cases e:nf k p with
  |true=>
   have e:=td.1 e;simp only;rw[Ea,Ea]
   by_cases h:k=a
   .rw[if_pos h,show nf a (yV k x)=true from td.2 h.symm];rfl
   .rw[if_neg h,show nf a (yV k x)=false from au8.2 fun ao=>h (td.1 ao).symm,show nf a p=false from au8.2 fun ao=>h (e.trans (td.1 ao).symm)]
  |false=>
   have e: ¬k=D7 p:=fun h=>by rw[td.2 h] at e;cases e
   simp only;rw[Ea,Ea,WS k x a s]
   by_cases h:k=a
   .simp only[if_pos h,show nf a p=false from au8.2 fun ao=>e (h.trans (td.1 ao))]
   .simp only[if_neg h]
theorem am' (m:bX) {a:Int} {x:aA0} (hx:x.length=16) (i:Int):iW (m.Ih a x).bH i=if a=i then x else iW m.bH i:=by
 show iW (yT a x m.bH (x.length/16)) i=_;rw[hx];show iW (tc m.bH (a+(0:Nat)) (tb x 0)) i=_;rw[WS,show a+((0:Nat):Int)=a by omega]
 have e:Ok (tb x 0)=x:=by
  show If x 0=x;rw[amn];show(x.drop 0).take 16=x;rw[List.drop_zero,<-hx,as2]
 rw[e]
theorem WT {m:bX} (ag:fe m) (aC:m.n<=m.R) {a:Int} {x:aA0} (h:tk m.n (some (a,x))) (i:Int):iW (vF m (some (a,x))).1.bH i=if a=i then x else iW m.bH i:=by
 show iW (m.write a x).1.bH i=_;rw[WM ag aC h];exact am' m h.2.2 i
theorem Ol {m:bX} (ag:fe m) (aC:m.n<=m.R) {b:aA0} {k kN:Int} (i:Int): ∀j:Nat,(∀st∈k9 b k kN j,tk m.n st)->
  iW (nP m (k9 b k kN j)).bH i=if 2+k*kN<=i/\i < 2+k*kN+(j:Nat) then lF b (i - (2+k*kN)).toNat else iW m.bH i
 |0,_=>by
  show iW m.bH i=_;rw[if_neg aw0]
 |j+1,h=>by
  have E: ∀st∈k9 b k kN j,tk m.n st:=fun st ax=>h st (as4.2 (.inl ax))
  have G:tk m.n (some (2+k*kN+(j:Nat),lF b j)):=h _ (as4.2 (.inr (ar5.2 rfl)));have bu:=Ol ag aC i j E;have Z:=D' ag aC j (k9 b k kN j) E (by rw[y2];exact aq4 _);rw[List.take_of_length_le (by rw[y2];exact aq4 _)] at Z;rw[k9,Bq,WT Z.ok (by rw[Z.n,Z.R];exact aC) (by rw[Z.n];exact G),bu]
  by_cases e:2+k*kN+(j:Nat)=i
  .rw[if_pos e,if_pos aw0]
   congr 1
   omega
  .rw[if_neg e]
   by_cases ao:2+k*kN<=i/\i < 2+k*kN+(j:Nat)
   .rw[if_pos ao,if_pos aw0]
   .rw[if_neg ao,if_neg aw0]
theorem ana (b:aA0) (j:Nat):lF b j=(b.drop (16*j)).take 16++List.replicate (16 - ((b.drop (16*j)).take 16).length) 0:=by
 unfold lF laid;rw[List.take_zero,av8,List.drop_replicate,Nat.zero_add]
theorem WU (b:aA0): ∀n:Nat,(List.range n).flatMap (fun i=>lF b i)=b.take (16*n)++List.replicate (16*n - b.length) 0
 |0=>by simp
 |n+1=>by
  rw[List.range_succ,List.flatMap_append,WU b n];simp only[av1,List.flatMap_nil,au0];rw[ana]
  by_cases h:16*n<=b.length
  .rw[show 16*n - b.length=0 by omega,List.replicate_zero,au0,<-au2]
   have e:b.take (16*n)++(b.drop (16*n)).take 16=b.take (16*(n+1)):=by
    rw[show 16*(n+1)=16*n+16 by omega,List.take_add]
   rw[e]
   congr 2
   rw[ar3,au3];omega
  .rw[List.drop_eq_nil_of_le aw0,List.take_nil,av8,List.length_nil,List.take_of_length_le aw0,List.take_of_length_le aw0,au2,List.replicate_append_replicate]
   congr 2
   omega
def kO (n R:Int):bX:=⟨n,R,[],[],[]⟩
def vG (n R:Int) (b:aA0):bX:=nP (kO n R) (tj b 0 (dv n) 0)
structure y3 (m:bX) (n R:Int) (b:aA0):Prop where
 ok:fe m
 n:m.n=n
 R:m.R=R
 hz:m.e6=[]
 Eb:m.l8=m.bH
 cy:iW m.bH 0=qf b 0
 kY:iW m.bH 1=w9
 anb: ∀i:Nat,iW m.bH (2+(i:Nat))=if i < hk b then lF b i else w9
theorem anc {n R:Int} (hn:pz n=true) (G:2<=n) (aC:n<=R) {b:aA0} (O:(b.length:Int)<=dv n*16):y3 (vG n R b) n R b:=by
 have ag:fe (kO n R):=fe.new hn;have ax:=WR (m:=kO n R) ag G O (k:=0) (.inl rfl) 0;obtain⟨a0,b0⟩:=D8 G ag.cM;have ez:=D' ag aC _ _ ax (aq4 _);rw[as2] at ez;have E: ∀st∈k9 b 0 (dv n) (hk b),tk n st:=fun st h=>ax st (by unfold tj;simp only[as4];exact .inl (.inl (.inl h)))
 have hw:=D' ag aC (hk b) (k9 b 0 (dv n) (hk b)) E (by rw[y2];exact aq4 _);rw[List.take_of_length_le (by rw[y2];exact aq4 _)] at hw;have ny:fe (nP (kO n R) (k9 b 0 (dv n) (hk b))).oH:=hw.ok.oH
 have e:vG n R b=(vF (nP (kO n R) (k9 b 0 (dv n) (hk b))).oH (some (0,qf b 0))).1.oH:=by
  unfold vG tj;rw[Bq,Bq,Bq];rfl
 have Ec: ∀i,iW (vG n R b).bH i=if 0=i then qf b 0 else iW (nP (kO n R) (k9 b 0 (dv n) (hk b))).bH i:=fun i=>by
  rw[e]
  exact WT ny (by show(nP (kO n R) (k9 b 0 (dv n) (hk b))).n<=(nP (kO n R) (k9 b 0 (dv n) (hk b))).R;rw[hw.n,hw.R];exact aC) (by
   show tk (nP (kO n R) (k9 b 0 (dv n) (hk b))).n _;rw[hw.n];exact⟨aw1,by show(0:Int) < n;omega,Oj b 0⟩) i
 have aR: ∀i,iW (kO n R).bH i=w9:=fun i=>rfl
 refine⟨ez.ok,ez.n,ez.R,by rw[e];rfl,by rw[e];rfl,?_,?_,fun i=>?_⟩
 .rw[Ec,if_pos rfl]
 .rw[Ec,if_neg aw1,Ol ag aC 1 _ E,if_neg aw0,aR]
 .rw[Ec,if_neg aw0,Ol ag aC _ _ E,aR]
  by_cases aG:i < hk b
  .rw[if_pos aw0,if_pos aG]
   congr 1
   omega
  .rw[if_neg aw0,if_neg aG]
theorem y3.k7 {m:bX} {n R:Int} {b:aA0} (h:y3 m n R b) (dZ:List Int):m.k7 dZ=m:=by
 obtain⟨n',Cc,Eb,Ed,hz⟩:=m;have E:hz=[]:=h.hz;have G:Eb=Ed:=h.Eb;subst E G;rfl
theorem ane (b:aA0):mG (qf b 0)=(eP 4 [(0+1:Int).toNat,b.length,(jw b).toNat],true):=by
 have ap:=Oj b 0
 have e:(qf b 0).take ((qf b 0).length - 4)=eP 4 [(0+1:Int).toNat,b.length,(jw b).toNat]:=by
  rw[ap];unfold qf sc;rw[List.take_append_of_le_length (by rw[nK];exact aq4 _),List.take_of_length_le (by rw[nK];exact aq4 _)]
 unfold mG;rw[if_neg (by rw[ap];omega),e];exact if_pos rfl
theorem anf:(mG w9).2=false:=by kernel_rfl
theorem WV (s:hX) (a:Int):pA s a 1=iW s a:=by
 unfold pA;rw[show List.range 1=[0] from rfl,av1,List.flatMap_nil,au0];show iW s (a+((0:Nat):Int))=_;rw[show a+((0:Nat):Int)=a by omega]
theorem Om {m:bX} {k:Int} (h:iW m.bH k=w9):ng m k=([],0):=by
 unfold ng
 have e:(mG (mH m k)).2=false:=by
  unfold mH;rw[WV,h];exact anf
 rw[e]
theorem ang {g l c:Nat} (E:g < 256 ^4) (G:l < 256 ^4) (al:c < 256 ^4):iJ (eP 4 [g,l,c])=(g,l,c):=by
 have e:eP 4 [g,l,c]=eq g 4++(eq l 4++(eq c 4++[])):=by unfold eP;simp
 unfold iJ;rw[e,pt E,pt G,pt al]
theorem anh {m:bX} {n R:Int} {b:aA0} (h:y3 m n R b) (O:(b.length:Int)<=dv n*16):(nO m 0).take b.length=b:=by
 have J:hk b<=(dv n).toNat:=by unfold hk;omega
 have e:nO m 0=(List.range (dv n).toNat).flatMap fun i=>if i < hk b then lF b i else w9:=by
  unfold nO pA;rw[h.n]
  congr 1
  funext i
  rw[show 2+0*dv n+(i:Int)=2+(i:Int) by omega];exact h.anb i
 rw[e,show(dv n).toNat=hk b+((dv n).toNat - hk b) by omega,List.range_add,List.flatMap_append]
 have ao:((List.range (hk b)).flatMap fun i=>if i < hk b then lF b i else w9)=(List.range (hk b)).flatMap fun i=>lF b i:=by
  rw[List.flatMap_def,List.flatMap_def]
  congr 1
  exact as7 fun i aG=>if_pos (List.mem_range.1 aG)
 have ot:b.length<=16*hk b:=by unfold hk;omega
 rw[ao,WU,List.take_of_length_le ot,au2];exact List.take_left' rfl
theorem ani {m:bX} {n R:Int} {b:aA0} (h:y3 m n R b) (O:(b.length:Int)<=dv n*16) (ap:b.length<=1000000):ng m 0=(b,1):=by
 have ax:=NX b;have af:mH m 0=qf b 0:=by unfold mH;rw[WV];exact h.cy
 unfold ng;rw[af,ane];simp only;rw[ang aw1 aw0 aw0];simp only;rw[anh h O,h.n,show(((jw b).toNat:Nat):Int)=jw b by omega];rw[at3 (show¬(((0+1:Int).toNat:Nat):Int) < 1 by decide),at3 (show¬(1073741824:Int) < (((0+1:Int).toNat:Nat):Int) by decide),at3 (show¬dv n*16 < ((b.length:Nat):Int) by omega),ar6 (rfl:jw b=jw b)];rfl
theorem anj {m:bX} {n R:Int} {b:aA0} (h:y3 m n R b) (O:(b.length:Int)<=dv n*16) (ap:b.length<=1000000):gB m 2=(0,b,1):=by
 have av:ng m ((0:Nat):Int)=(b,1):=ani h O ap;have E:ng m ((1:Nat):Int)=([],0):=Om h.kY
 have af:gB m 1=(0,b,1):=by
  unfold gB;rw[av];exact if_pos (show(0:Int) < 1 by decide)
 unfold gB;rw[af,E];exact if_neg (show¬(1:Int) < 0 by decide)
theorem Is (n R:Int):gB (kO n R) 2=(-1,[],0):=by
 have av:ng (kO n R) ((0:Nat):Int)=([],0):=Om rfl;have E:ng (kO n R) ((1:Nat):Int)=([],0):=Om rfl
 have af:gB (kO n R) 1=(-1,[],0):=by
  unfold gB;rw[av];exact if_neg (show¬(0:Int) < 0 by decide)
 unfold gB;rw[af,E];exact if_neg (show¬(0:Int) < 0 by decide)
end
section
theorem WW {L:List bR} {b:bR}:gn L b=0↔ht b=true/\L.find? (fun y=>decide (d4 y=d4 b))=none/\L.length < 64/\(di b≠[]-> ∃x,L.find? (fun y=>decide (d4 y=di b))=some x/\c4 x=c4 b):=by
 constructor
 .intro h;obtain⟨b0,ca,a3,a4⟩:=HO h;refine⟨b0,(HU _ _).1 ca,a3,fun ae=>?_⟩;have av:=a4 (by simpa using ae);obtain⟨x,hx⟩:=HV av;refine⟨x,hx,?_⟩
  by_cases O:c4 x=c4 b
  .exact O
  .exfalso;have dM:=hx;rw[<-Bd] at dM;unfold l6 at dM;rw[if_pos av] at dM;unfold gn at h;rw[dM] at h
   split at h
   .cases h
   split at h
   .cases h
   rw[if_pos (by simp[ae,O])] at h
   cases h
 .rintro⟨b0,ca,a3,a4⟩;have Ri:=(HU _ _).2 ca;unfold gn;rw[if_neg (by rw[b0];simp;omega)]
  by_cases ae:di b=[]
  .rw[if_neg (by simp[ae]),if_neg (by simp[ae])]
  .obtain⟨x,hx,O⟩:=a4 ae
   have av:0<=ep L (di b):=by
    rcases Int.lt_or_le (ep L (di b)) 0 with h |h
    .rw[(HU _ _).1 h] at hx;cases hx
    .exact h
   have dM:=hx;rw[<-Bd] at dM;unfold l6 at dM;rw[if_pos av] at dM;rw[if_neg ax4,dM,if_neg (by simp[O])]
def q7 (L:List bR):Prop:= ∀(k:Nat) (b:bR),L[k]? =some b->gn (L.take k) b=0
theorem q7.nil:q7 []:=fun k b h=>by simp at h
theorem q7.add {L:List bR} (h:q7 L) (b:bR):q7 (fX L b):=by
 unfold fX
 split
 .rename_i aZ;intro k c J;rcases Vd k c J with E |⟨rfl,rfl⟩
  .have Z:=(ar1.1 E).1;rw[List.take_append_of_le_length aw0];exact h k c E
  .rw[List.take_left];exact aZ
 .exact h
theorem ank {α:Type} (L:List α) {k j:Nat} (h:k<=j):(L.eraseIdx k).take j=(L.take (j+1)).eraseIdx k:=by
 refine List.ext_getElem? fun i=>?_
 rw[List.getElem?_take,List.getElem?_eraseIdx,List.getElem?_eraseIdx,List.getElem?_take,List.getElem?_take]
 by_cases G:i < k
 .have a:i < j:=aw8
  have b:i < j+1:=aw8
  simp[G,a,b]
 .by_cases E:i < j
  .simp[E,G]
  .simp[E,G]
theorem q7.drop {L:List bR} (h:q7 L) (nm:aA0):q7 (qb L nm):=by
 unfold qb
 split
 .rename_i aZ;obtain⟨E,G⟩:=Vs aZ;obtain⟨x,hx⟩:=HV E;have b1:=List.find?_some hx;simp only[as1] at b1
  have Hv:L[(ep L nm).toNat]? =some x:=by
   have ca:=Bd L nm;unfold l6 at ca;rw[if_pos E,hx] at ca;exact ca
  generalize(ep L nm).toNat=q at*;have aP:=(ar1.1 Hv).1;intro j b O;have anl:b∈L:=List.mem_of_mem_eraseIdx (List.mem_of_getElem? O);rw[List.getElem?_eraseIdx] at O
  split at O
  .rename_i anm
   have:(L.eraseIdx q).take j=L.take j:=by
    refine List.ext_getElem? fun i=>?_
    rw[List.getElem?_take,List.getElem?_take,List.getElem?_eraseIdx]
    by_cases al:i < j
    .rw[if_pos al,if_pos al,if_pos aw0]
    .rw[if_neg al,if_neg al]
   rw[this];exact h j b O
  .rename_i anm;rw[ank L aw0];have ar:=WW.1 (h (j+1) b O);have On:(L.take (j+1))[q]? =some x:=by rw[List.getElem?_take,if_pos aw0];exact Hv
   generalize L.take (j+1)=M at*;obtain⟨b0,ca,a3,a4⟩:=ar;have ann:di b≠nm:=Vr G anl;refine WW.2 ⟨b0,?_,Nat.lt_of_le_of_lt (List.length_eraseIdx_le _ _) a3,fun ae=>?_⟩
   .rw[Nw _ M q x On (by
     have:=List.find?_eq_none.1 ca x (List.mem_of_getElem? On);simpa using this)]
    exact ca
   .rw[Nw _ M q x On (by rw[b1];simpa using fun e=>ann e.symm)];exact a4 ae
 .exact h
def Br (p:je):w3:=(fD p,jS p)
def uh (b:bR):nc:=(d4 b,di b,c4 b,eI b,(cD b).map Br)
theorem WX (b:bR):jf (uh b)=b:=by
 have h: ∀l:List je,(l.map Br).map s7=l:=fun l=>by rw[at8];exact List.map_id l
 exact congrArg (fun l:List je=>((d4 b,di b,c4 b,eI b,l):bR)) (h (cD b))
theorem Oo (L:List bR):(L.map uh).map jf=L:=by
 rw[at8,show(jf∘uh)=id from funext WX,List.map_id]
theorem ano {p:je} (h:0<=fD p/\fD p<=65535/\(jS p).length<=128) (t:aA0):vx (kK p++t,0)=((t,0),Br p):=by
 have af:fK 2 (kK p++t,0)=((gO (jS p) 2++t,0),(fD p).toNat):=by
  unfold kK;rw[au2];exact pt aw0 _
 have ao:qX 2 (gO (jS p) 2++t,0)=((t,0),jS p):=D0 aw0 t;unfold vx;rw[af];simp only;rw[ao];refine Prod.ext rfl (Prod.ext ?_ rfl);show(((fD p).toNat:Nat):Int)=fD p;omega
theorem WY {bE:List je} (h: ∀p,p∈bE->0<=fD p/\fD p<=65535/\(jS p).length<=128) (t:aA0): ∀k,k<=bE.length->hg (bE.flatMap kK++t,0) k=(((bE.drop k).flatMap kK++t,0),(bE.take k).map Br)
 |0,_=>by simp[hg]
 |k+1,Z=>by
  have b':k < bE.length:=aw8
  have bu:=WY h t k aw0;unfold hg;rw[bu];simp only;rw[List.drop_eq_getElem_cons b',av1,au2,ano (h _ (as3 b'))];simp only;rw[<-vr b',at9];rfl
theorem anp {b:bR} (h:vw b) (t:aA0):j9 (kk b++t,0)=((t,0),uh b):=by
 obtain⟨d0,e7,iy,i0,aqV,anq⟩:=h
 have af:E (kk b++t,0)=((gO (di b) 1++(eq (c4 b).toNat 1++(eq (eI b).toNat 2++(eq (cD b).length 2++((cD b).flatMap kK++t)))),0),d4 b):=by
  unfold kk E;simp only[au2];exact D0 aw0 _
 have ao:G (kk b++t,0)=((eq (c4 b).toNat 1++(eq (eI b).toNat 2++(eq (cD b).length 2++((cD b).flatMap kK++t))),0),di b):=by
  unfold G;rw[af];exact D0 aw0 _
 have bm:al (kk b++t,0)=((eq (eI b).toNat 2++(eq (cD b).length 2++((cD b).flatMap kK++t)),0),(c4 b).toNat):=by
  unfold al;rw[ao];exact pt aw0 _
 have c6:aW (kk b++t,0)=((eq (cD b).length 2++((cD b).flatMap kK++t),0),(eI b).toNat):=by
  unfold aW;rw[bm];exact pt aw0 _
 have f2:bG (kk b++t,0)=(((cD b).flatMap kK++t,0),(cD b).length):=by
  unfold bG;rw[c6];exact pt aw0 _
 have h1:=WY anq t (cD b).length (aq4 _);rw[List.drop_length,as2] at h1;unfold j9 VN;rw[f2];simp only;rw[h1,af,ao,bm,c6];refine Prod.ext rfl ?_;show(d4 b,di b,(((c4 b).toNat:Nat):Int),(((eI b).toNat:Nat):Int),(cD b).map Br)=(d4 b,di b,c4 b,eI b,(cD b).map Br);rw[show(((c4 b).toNat:Nat):Int)=c4 b by omega,show(((eI b).toNat:Nat):Int)=eI b by omega]
theorem WZ {L:List bR} (d5:q7 L) (hw: ∀b,b∈L->vw b): ∀k,k<=L.length->oG (L.flatMap kk,0) k=some ((L.take k).map uh,((L.drop k).flatMap kk,0))
 |0,_=>by simp[oG]
 |k+1,Z=>by
  have b':k < L.length:=aw8
  have bu:=WZ d5 hw k aw0;rw[List.drop_eq_getElem_cons b',av1] at bu;have O:=anp (hw _ (as3 b')) ((L.drop (k+1)).flatMap kk)
  have:=VR bu (by rw[O]) (by
   rw[O,Oo];show gn (L.take k) (jf (uh L[k]))=0;rw[WX];exact d5 k _ (oj b'))
  rw[O] at this;rw[this,<-vr b',at9];rfl
theorem W0 {L:List bR} (d5:q7 L) (hw: ∀b,b∈L->vw b) (ap:L.length<=64):yO (iu L)=some (L.map uh):=by
 have af:fK 1 (iu L,0)=((L.flatMap kk,0),L.length):=pt aw0 _;have ao:=WZ d5 hw L.length (aq4 _);rw[as2,List.drop_length] at ao;unfold yO;rw[af];simp only;rw[ao];simp[qY]
end
section
end
section
abbrev W1:aA0:=[97]
abbrev anr:aA0:=[98]
abbrev NK (b:Nat):List (aa .str×aa .aL):=dw [] (W1:aa .str) (some b:Option Nat)
abbrev eo (b:Nat):List (aa .str×aa .aL):=dw (gR (NK b) (W1:aa .str)) (anr:aa .str) (some b:Option Nat)
end
section
abbrev fT:=List (aa .str×aa .aL)
def mI (es:fT) (k:aA0) (a:Option Nat):fT:=dw es (k:aa .str) (a:aa .aL)
def jT (es:fT) (k:aA0):fT:=gR es (k:aa .str)
def It (k:aA0) (a:Option Nat):aa .str×aa .aL:=(k,a)
def y4 (k:aA0) (p:aa .str×aa .aL):Bool:=fN .str (k:aa .str) p.1
theorem ans {k:aA0} {p:aa .str×aa .aL}:y4 k p=true↔k=th p:=amM _ _
theorem Oq (k:aA0) (a:Option Nat):mI [] k a=[It k a]:=rfl
theorem Ot (p:aa .str×aa .aL) (l:fT) (k:aA0) (a:Option Nat):mI (p::l) k a=match y4 k p with |true=>It k a::l |false=>p::mI l k a:=rfl
theorem W2 (p:aa .str×aa .aL) (l:fT) (k:aA0):jT (p::l) k=match y4 k p with |true=>l |false=>p::jT l k:=rfl
theorem W3 (p:aa .str×aa .aL) (l:fT) (k:aA0):iI (p::l) k=match y4 k p with |true=>q3 p |false=>iI l k:=by
 unfold iI;show(match y4 k p with |true=>some p.2 |false=>bY l (k:aa .str)).getD (cL .aL)=_
 cases y4 k p <;>rfl
theorem Ou (k:aA0): ∀l:fT,(jT l k).Sublist l
 | []=>List.Sublist.refl _
 |p::l=>by
  rw[W2]
  split
  .exact List.sublist_cons_self _ _
  .exact(Ou k l).cons_cons p
theorem W4 {k:aA0} {a:Option Nat} {x:Option Nat}: ∀{l:fT},x∈(mI l k a).map q3->x=a\/x∈l.map q3
 | [],h=>by
  rw[Oq,List.map_singleton,ar5] at h;exact .inl h
 |p::l,h=>by
  rw[Ot] at h
  split at h
  .rcases aq7.1 h with h |h
   .exact .inl h
   .exact .inr (aq6 _ h)
  .rcases aq7.1 h with h |h
   .exact .inr (h▸ar4 ..)
   .rcases W4 h with h |h
    .exact .inl h
    .exact .inr (aq6 _ h)
theorem Ov {k:aA0} {a:Option Nat}: ∀{l:fT},(l.map q3).Nodup->a∉l.map q3->((mI l k a).map q3).Nodup
 | [],_,_=>by rw[Oq];simp
 |p::l,h,hn=>by
  rw[ar8,at0] at h;rw[ar8,aq7,not_or] at hn;rw[Ot]
  split
  .rw[ar8];exact at0.2 ⟨hn.2,h.2⟩
  .rw[ar8];refine at0.2 ⟨fun aw=>?_,Ov h.2 hn.2⟩;rcases W4 aw with e |e
   .exact hn.1 e.symm
   .exact h.1 e
theorem Ow {k:aA0} {a:Nat}: ∀{l:fT},iI l k=some a->It k (some a)∈l
 | [],h=>by cases h
 |p::l,h=>by
  rw[W3] at h
  split at h
  .rename_i e;have e:=ans.1 e;refine aq7.2 (.inl ?_);show(k,(some a:Option Nat))=p;rw[<-h,e];rfl
  .exact aq6 _ (Ow h)
theorem Ee {k:aA0} {a:Option Nat} {p:aa .str×aa .aL}: ∀{l:fT},p∈mI l k a->p=It k a\/p∈l
 | [],h=>by rw[Oq,ar5] at h;exact .inl h
 |q::l,h=>by
  rw[Ot] at h
  split at h
  .rcases aq7.1 h with h |h
   .exact .inl h
   .exact .inr (aq6 _ h)
  .rcases aq7.1 h with h |h
   .exact .inr (h▸ar4 ..)
   .rcases Ee h with h |h
    .exact .inl h
    .exact .inr (aq6 _ h)
theorem W5 {k:aA0} {a:Nat}: ∀{l:fT},iI l k=some a->(l.map q3).Nodup->(some a:Option Nat)∉(jT l k).map q3/\(jT l k).length+1=l.length
 | [],h,_=>by cases h
 |p::l,h,hn=>by
  rw[ar8,at0] at hn;rw[W3] at h;rw[W2]
  cases e:y4 k p with
  |true=>
   rw[e] at h;have h:q3 p=some a:=h;exact⟨h▸hn.1,rfl⟩
  |false=>
   rw[e] at h;obtain⟨E,G⟩:=W5 h hn.2;refine⟨?_,by simp only[au1];omega⟩;simp only;rw[ar8,aq7,not_or];exact⟨fun ao=>hn.1 (ao▸as0 (f:=q3) (Ow h)),E⟩
theorem mb.lU {es:fT} {L:dV} {W:Nat} (h:mb es L W) (k:aA0):mb (jT es k) L W:=
 ⟨fun p ae=>h.ex p ((Ou k es).subset ae),h.gF.sublist ((Ou k es).map _),h.yX,h.ok,h.q4⟩
theorem mb.add {es:fT} {L:dV} {W:Nat} (h:mb es L W) {k:aA0} {b:Nat} {m:bX} (O:b∉L.map (·.1)) (aw:fe m) (ap:m.e6.length<=W):mb (mI es k (some b)) ((b,m)::L) W:=by
 refine⟨fun p ae=>?_,Ov h.gF fun hx=>?_,at0.2 ⟨O,h.yX⟩,fun p ae=>?_,fun p ae=>?_⟩
 .rcases Ee ae with rfl |ae
  .exact⟨b,rfl,ar4 ..⟩
  .obtain⟨a,E,G⟩:=h.ex p ae;exact⟨a,E,aq6 _ G⟩
 .obtain⟨p,ae,e⟩:=as5.1 hx;obtain⟨a,E,G⟩:=h.ex p ae;rw[e] at E;injection E with E
  exact O (E▸G)
 .rcases aq7.1 ae with rfl |ae
  .exact aw
  .exact h.ok p ae
 .rcases aq7.1 ae with rfl |ae
  .exact ap
  .exact h.q4 p ae
theorem mb.aV {es:fT} {L:dV} {W:Nat} (h:mb es L W) {fr to:aA0} {a:Nat} (hf:iI es fr=some a):mb (mI (jT es fr) to (some a)) L W:=by
 refine⟨fun p ae=>?_,Ov (h.lU fr).gF (W5 hf h.gF).1,h.yX,h.ok,h.q4⟩;rcases Ee ae with rfl |ae
 .obtain⟨a',E,G⟩:=h.ex _ (Ow hf);exact⟨a',E,G⟩
 .exact(h.lU fr).ex p ae
theorem W6 (f:Nat->bX->bX) (L:dV):(k8 f L).map (·.1)=L.map (·.1):=by
 unfold k8;rw[at8];rfl
theorem Ox (a:Nat) (m:bX): ∀L:dV,(hj L a m).map (·.1)=L.map (·.1)
 | []=>rfl
 |p::L=>by
  show(if p.1=a then(p.1,m)::L else p::hj L a m).map (·.1)=_
  split
  .rfl
  .rw[ar8,Ox a m L];rfl
theorem Oy {a:Nat} {m:bX} {p:Nat×bX}: ∀{L:dV},p∈hj L a m->p.2=m\/p∈L
 | [],h=>by cases h
 |q::L,h=>by
  have h:p∈(if q.1=a then(q.1,m)::L else q::hj L a m):=h
  split at h
  .rcases aq7.1 h with h |h
   .exact .inl (by rw[h])
   .exact .inr (aq6 _ h)
  .rcases aq7.1 h with h |h
   .exact .inr (h▸ar4 ..)
   .rcases Oy h with h |h
    .exact .inl h
    .exact .inr (aq6 _ h)
theorem mb.set {es:fT} {L:dV} {W iN:Nat} (h:mb es L W) (a:Nat) {m:bX} (aw:fe m) (ap:m.e6.length<=iN) (hw:W<=iN):mb es (hj L a m) iN:=by
 refine⟨fun p ae=>?_,h.gF,by rw[Ox];exact h.yX,fun p ae=>?_,fun p ae=>?_⟩
 .rw[Ox];exact h.ex p ae
 .rcases Oy ae with e |ae
  .rw[e];exact aw
  .exact h.ok p ae
 .rcases Oy ae with e |ae
  .rw[e];exact ap
  .exact au4 (h.q4 p ae) hw
theorem mb.map {es:fT} {L:dV} {W:Nat} (h:mb es L W) {f:Nat->bX->bX} (E: ∀a m,fe m->fe (f a m)) (G: ∀a m,m.e6.length<=W->(f a m).e6.length<=W):mb es (k8 f L) W:=by
 refine⟨fun p ae=>?_,h.gF,by rw[W6];exact h.yX,fun p ae=>?_,fun p ae=>?_⟩
 .rw[W6];exact h.ex p ae
 .obtain⟨q,aP,rfl⟩:=as5.1 ae;exact E _ _ (h.ok q aP)
 .obtain⟨q,aP,rfl⟩:=as5.1 ae;exact G _ _ (h.q4 q aP)
theorem mb.mono {es:fT} {L:dV} {W iN:Nat} (h:mb es L W) (hw:W<=iN):mb es L iN:=⟨h.ex,h.gF,h.yX,h.ok,fun p ae=>au4 (h.q4 p ae) hw⟩
end
section
theorem W7 {m:bX} {I F:Nat->Prop} {w:World} {p:bo} (h:(hi m).bn I F w p):F p.bh:=by
 obtain⟨ρ,b9,E,G,al,aW⟩:=h;obtain⟨bd,_⟩:=G 1001 _ rfl;exact(aW _).2 ⟨1001,_,rfl,(bd _).2 (by rw[E])⟩
theorem W8 {I:Nat->Prop} {w:World} {b:Nat}: ∀{L:dV} {F:Nat->Prop},fo I w (e0 L) F->b∈L.map (·.1)->F b
 | [],_,_,h=>by cases h
 |p::L,F,⟨cz,cN,q,E,G,al,aW,bG⟩,h=>by
  rcases aq7.1 h with h |h
  .exact(E b).2 (.inl (by rw[h];have:=W7 aW;rwa[al] at this))
  .exact(E b).2 (.inr (W8 bG h))
theorem c5.ant {ids:aA1} {K:aX} {B:ay} (q:Nat) {L:dV} {b:Nat} {m:bX} (aP:aj B q=some (.aF (.bw (e0 ((b,m)::L))))):c5 ids K B (X:=PLift (b∉L.map (·.1))) (fun _=>K) (fun _=>B):=by
 rintro N C a w ⟨hn,H,ρ,F,ar,au⟩;have bl:fo (b5 C B F w) w (e0 ((b,m)::L)) (F q):=ar.holds q _ aP;obtain⟨cz,cN,p,E,G,al,aW,bG⟩:=bl;refine⟨⟨fun O=>?_⟩,hn,H,ρ,F,ar,au⟩;have af:=W7 aW;rw[al] at af;exact G _ af (W8 bG O)
end
section
theorem anu {m:bX} (ag:fe m) (G:2<=m.n) {s:Nat} {M:dV} (ar:hY M s=some m) {b:aA0} (V:gB m 2=(0,b,1)):Fn Tryz.prog 137 [c8 s] [(1003,.aF (.bw (e0 M)))] [] (.cb [.one (.d (.cf .u8 b)),.one (.d (.int .i64 1)),dp 0]) [(1003,.aF (.bw (e0 M)))]:=by
 have hn:=Og ag G ar;rw[V] at hn;refine aT [] Tryz.func137 ?_;exact ak hn ⟨fun h=>absurd h (show¬decide ((0:Int) < 0)=true by decide),fun _=>bc⟩
abbrev qg:aA0:=[108,105,115,116]
abbrev gC:aA0:=[108,105,115,116,46,110,101,119]
abbrev lG (c d:Nat) (L:List bR):ay:=[(c,.cells [.own d]),(d,.row 78 l5 L)]
theorem anv (R:Int) (es:fT) {L:dV} {a:Nat} {m:bX} (ha:iI es qg=some a) (aw:hY L a=some m) (ag:fe m) (G:2<=m.n) {Q:List bR} (V:gB m 2=(0,iu Q,1)) (ap:(iu Q).length<=100000000) (d5:q7 Q) (hw: ∀b,b∈Q->vw b) (aP:Q.length<=64):
  Fn Tryz.prog 83 [ah 1001] (nN 1001 1002 1003 R es L) [2001,2002] (.cb [.one (.ptr 2001 0),dp 0]) (nN 1001 1002 1003 R es L++lG 2001 2002 ((Q.map uh).map jf)):=by
 have H:=VT (iu Q) ap (some (Q.map uh)) (W0 d5 hw aP);simp only at H;refine aT [] Tryz.func83 ?_;exact ak (NZ R es qg a ha) <| cX <| ak (anu ag G aw V) <| cX <| ak (Fn.aV [(1001,2001),(1002,2002)] H) bc
end
section
theorem anw {m:bX} (ag:fe m) (G:2<=m.n) {s:Nat} {M:dV} (ar:hY M s=some m) (b:aA0) (O:dv m.n*16 < (b.length:Int)):
  Fn Tryz.prog 217 [c8 s,bv .u8 b] [(1003,.aF (.bw (e0 M)))] [] (.cb [mZ,dp 1]) [(1003,.aF (.bw (e0 M)))]:=by
 refine aT [] Tryz.func217 ?_;exact⟨rfl,ak (Og ag G ar) <| ak (Bo ar) <| ak (Od m.n ag.kL ag.cM) ⟨fun _=>bc,fun c=>absurd O (mu c)⟩⟩
theorem anx {m:bX} (ag:fe m) (G:2<=m.n) {s:Nat} {M:dV} (ar:hY M s=some m) (b:aA0) (O:dv m.n*16 < (b.length:Int)):
  Fn Tryz.prog 184 [c8 s,bv .u8 b] [(1003,.aF (.bw (e0 M)))] [] (ac 1) [(1003,.aF (.bw (e0 M)))]:=by
 refine aT [] Tryz.func184 ?_;exact ak (anw ag G ar b O) <| d7 bc
theorem anz (R:Int) (es:fT) {L:dV} (ha:iI es qg=none):
  Fn Tryz.prog 83 [ah 1001] (nN 1001 1002 1003 R es L) [] (.cb [mZ,dp 181]) (nN 1001 1002 1003 R es L):=by
 refine aT [] Tryz.func83 ?_;exact ak (Wj R es qg ha) <| d7 bc
def xa (n:Int) (Q:List bR):Int:=if((iu Q).length:Int)<=dv n*16 then 0 else 1
def vH (n:Int) (es:fT) (Q:List bR) (b:Nat):fT:=if((iu Q).length:Int)<=dv n*16 then mI (jT (mI (jT es gC) gC (some b)) gC) qg (some b) else mI (jT es gC) gC (some b)
def ui (n R:Int) (Q:List bR) (b:Nat):bX:=if((iu Q).length:Int)<=dv n*16 then vG n R (iu Q) else kO n R
theorem anA (R n:Int) (Iu:2<=n) (hn:pz n=true) (aC:n<=R) (es:fT) {M:dV} (E:iI (jT es gC) gC=none) (G:(jT es gC).length < 16) (al: ∀b,iI (mI (jT es gC) gC (some b)) gC=some b) {Q:List bR} (aP:Q.length<=255) (hw: ∀b,b∈Q->vw b):
  cA Tryz.prog 143 [ah 3001,ah 1001,ac n] (nN 1001 1002 1003 R es M++lG 3001 3002 Q) [] (X:={b:Nat//b∉M.map (·.1)}) (fun _=>ac (xa n Q))
   (fun g=>nN 1001 1002 1003 R (vH n es Q g.1) ((g.1,ui n R Q g.1)::M)++lG 3001 3002 Q):=by
 have uF: ∀b,hY ((b,kO n R)::M) b=some (kO n R):=fun b=>by rw[uf,if_pos rfl]
 refine hQ [2,3] Tryz.func143 ?_;refine ak (amv R es gC) <| bk.gz ee aw3 ?_;refine⟨Nat,_,_,fun b=>_,fun b=>_,amg R (jT es gC) (e0 M) gC n aw1 rfl (by rw[hn,ar6 (show 0<=R by omega)];rfl) E G,az,rfl,fun _=>rfl,fun b=>bk.eH (c5.ant 1003 (L:=M) (b:=b) (m:=kO n R) rfl) fun O=>br [] (bq) <| cX <| ak (Fn.aV [(1001,3001),(1002,3002)] (VF Q aP hw)) ?_⟩
 by_cases J:((iu Q).length:Int)<=dv n*16
 .have vX:=am8 (m:=kO n R) (fe.new (n:=n) (R:=R) hn) Iu aC (aq9 _) (uF b) (iu Q) J (by rw[Is];decide) (by rw[Is];decide) (by rw[Is];decide);rw[Is] at vX;have gZ:hj ((b,kO n R)::M) b (vG n R (iu Q))=(b,vG n R (iu Q))::M:=if_pos rfl
  have vX:Fn Tryz.prog 184 [c8 b,bv .u8 (iu Q)] [(1003,.aF (.bw (e0 ((b,kO n R)::M))))] [] (ac 0) [(1003,.aF (.bw (e0 ((b,vG n R (iu Q))::M))))]:=by
   rw[<-gZ];exact vX
  refine ak vX <| cX <| ak (amf R (mI (jT es gC) gC (some b)) gC qg b aw1 rfl (al b)) ?_;have af:xa n Q=0:=if_pos J;have ao:vH n es Q b=_:=if_pos J;have bm:ui n R Q b=_:=if_pos J;exact⟨⟨b,O.down⟩,_,_,_,bq,rfl,af.symm,⟨rfl,congrArg (fun x=>some (ba.map .str .aL x)) ao.symm,congrArg (fun x=>some (ba.aF (.bw (e0 ((b,x)::M))))) bm.symm,rfl,rfl,trivial⟩,rfl⟩
 .have vX:=anx (m:=kO n R) (fe.new (n:=n) (R:=R) hn) Iu (uF b) (iu Q) (by show dv n*16 < _;omega);refine ak vX <| d7 ?_;have af:xa n Q=1:=if_neg J;have ao:vH n es Q b=_:=if_neg J;have bm:ui n R Q b=_:=if_neg J;exact⟨⟨b,O.down⟩,_,_,_,bq,rfl,af.symm,⟨rfl,congrArg (fun x=>some (ba.map .str .aL x)) ao.symm,congrArg (fun x=>some (ba.aF (.bw (e0 ((b,x)::M))))) bm.symm,rfl,rfl,trivial⟩,rfl⟩
end
section
def k' (u:bf->bf) (fL:aA1) (l:List bf):List bf:=l.map fun x=>if x.ad∈fL then u x else x
theorem anB (u:bf->bf) (l:List bf):k' u [] l=l:=by
 unfold k';refine(as7 fun x _=>?_).trans (List.map_id' l);rw[if_neg aw2]
theorem W9 {u:bf->bf} {fL:aA1} {l:List bf} (h: ∀e,e∈l->e.ad∈fL):k' u fL l=l.map u:=by
 unfold k';exact as7 fun x hx=>if_pos (h x hx)
theorem anC {u:bf->bf} (a8: ∀e,(u e).ad=e.ad) {fL:aA1} {a:Nat} (ha:a∉fL) (l:List bf):nb (k' u fL l) a u=k' u (fL++[a]) l:=by
 unfold nb k';rw[at8];refine as7 fun x _=>?_
 show(if(if x.ad∈fL then u x else x).ad=a then u (if x.ad∈fL then u x else x) else(if x.ad∈fL then u x else x))=if x.ad∈fL++[a] then u x else x
 by_cases E:x.ad∈fL
 .have G: ¬(u x).ad=a:=by rw[a8];exact fun e=>ha (e▸E)
  rw[if_pos E,if_neg G,if_pos (List.mem_append_left _ E)]
 .rw[if_neg E]
  by_cases G:x.ad=a
  .rw[if_pos G,if_pos (by rw[G];simp)]
  .rw[if_neg G,if_neg (by simp[E,G])]
structure q8 (u:bf->bf):Prop where
 nm: ∀e,(u e).nm=e.nm
 ad: ∀e,(u e).ad=e.ad
 du: ∀e,(u e).du=e.du
 on: ∀e,(u e).on=e.on
 us: ∀e,(u e).us=e.us
 ok: ∀e,(0<=e.s/\e.s<=4096)/\(1<=e.g/\e.g<=64)/\fb e.es->(0<=(u e).s/\(u e).s<=4096)/\(1<=(u e).g/\(u e).g<=64)/\fb (u e).es
theorem q8.Oz {u:bf->bf} (a8:q8 u) {l:List bf} (h:dO l) (fL:aA1):dO (k' u fL l):=by
 have key: ∀{lT:Type} (f:bf->lT),(∀e,f (u e)=f e)->(k' u fL l).map f=l.map f:=fun f hf=>by
  unfold k';rw[at8];refine as7 fun x _=>?_
  show f (if x.ad∈fL then u x else x)=f x
  split
  .exact hf x
  .rfl
 refine⟨by rw[key _ a8.nm];exact h.iA,by rw[key _ a8.ad];exact h.lv,by rw[key _ a8.du];exact h.vp,fun e U=>?_,by unfold k';rw[ar7];exact h.len⟩;obtain⟨x,hx,rfl⟩:=as5.1 U;obtain⟨ce,cR,er,eQ⟩:=h.ok x hx
 by_cases J:x.ad∈fL
 .rw[if_pos J];obtain⟨k5,qV,w5⟩:=a8.ok x ⟨ce,cR,er⟩;exact⟨k5,qV,w5,by rw[a8.nm];exact eQ⟩
 .rw[if_neg J];exact⟨ce,cR,er,eQ⟩
theorem q8.uH {u:bf->bf} (a8:q8 u) (fL:aA1) (l:List bf):dY (k' u fL l)=dY l:=by
 unfold dY k';rw[at8];refine as7 fun x _=>?_
 show jP (if x.ad∈fL then u x else x)=jP x
 split
 .unfold jP;rw[a8.nm,a8.ad]
 .rfl
theorem q8.D {u:bf->bf} (a8:q8 u) (fL:aA1) (l:List bf):j8 (k' u fL l)=j8 l:=by
 unfold j8 k';rw[at8];refine as7 fun x _=>?_
 show wV (if x.ad∈fL then u x else x)=wV x
 split
 .unfold wV;rw[a8.nm,a8.ad,a8.du,a8.on,a8.us]
 .rfl
theorem q8.M {u:bf->bf} (a8:q8 u) {l:List bf} (h:dO l) {fL:aA1} {e:bf} (U:e∈l) (ha:e.ad∉fL):ff (jQ (k' u fL l)) e.du (fv (u e).s (u e).g (u e).es)=jQ (k' u (fL++[e.ad]) l):=by
 have aw:e∈k' u fL l:=as5.2 ⟨e,U,if_neg ha⟩;rw[<-anC a8.ad ha,<-UG (a8.Oz h fL) aw (a8.du e)]
theorem q8.get {u:bf->bf} (a8:q8 u) {l:List bf} (h:dO l) {fL:aA1} {e:bf} (U:e∈l) (ha:e.ad∉fL):eB (jQ (k' u fL l)) e.du=some (fv e.s e.g e.es):=
 (a8.Oz h fL).M (as5.2 ⟨e,U,if_neg ha⟩)
theorem q8.map {u:bf->bf} (a8:q8 u) {l:List bf} (h:dO l):dO (l.map u):=by
 have:=a8.Oz h (l.map (·.ad));rw[W9 fun e U=>as0 U] at this;exact this
abbrev q9:=Nat×(aa .str×aa .aL)
def vI (p:q9):Option Nat:=p.2.2
structure xb (l:List bf) (lx:List q9) (bH fL:aA1):Prop where
 OA: ∀p,p∈lx-> ∀a,vI p=some a->(p.1∈bH↔a∈fL)
theorem anD {l:List bf} {lx:List q9} (ax:lx.map (·.2)=dY l) {p:q9} (ae:p∈lx): ∃e,e∈l/\p.2=jP e:=by
 have:p.2∈dY l:=by rw[<-ax];exact as0 ae
 obtain⟨e,U,ao⟩:=as5.1 this;exact⟨e,U,ao.symm⟩
theorem anE {l:List bf} (h:dO l) {lx:List q9} (ax:lx.map (·.2)=dY l):(lx.map vI).Nodup:=by
 have:lx.map vI=(l.map (·.ad)).map some:=by
  have e:lx.map vI=(lx.map (·.2)).map (fun q:aa .str×aa .aL=>(show Option Nat from q.2)):=by rw[at8];rfl
  rw[e,ax];unfold dY;rw[at8,at8];rfl
 rw[this];exact List.Pairwise.map _ (fun a b anF e=>anF (by injection e)) h.lv
theorem xb.nil (l:List bf) (lx:List q9):xb l lx [] []:=⟨fun _ _ _ _=>by simp⟩
theorem xb.step {l:List bf} {lx:List q9} {bH fL:aA1} (h:xb l lx bH fL) (O:(lx.map (·.1)).Nodup) (ha:(lx.map vI).Nodup) {p:q9} (ae:p∈lx) {a:Nat} (e:vI p=some a):xb l lx (bH++[p.1]) (fL++[a]):=by
 refine⟨fun q aP b dt=>?_⟩;have E:=h.OA q aP b dt
 have G:q.1=p.1↔b=a:=⟨fun af=>by
  have:=vq O aP ae af;subst this;rw[e] at dt;injection dt with bm
  exact bm.symm,fun af=>by
  have:=vq ha aP ae (dt.trans (by rw[af,e]));rw[this]⟩
 simp only[as4,ar5,E,G]
def y5 (bH:aA1) (l:List q9):List q9:=l.filter fun p=> !bH.contains p.1
theorem anG {bH:aA1} {l:List q9} {p:q9} (ae:p∈l) (hn:p.1∉bH):(y5 (bH++[p.1]) l).length < (y5 bH l).length:=by
 have e:y5 (bH++[p.1]) l=(y5 bH l).filter fun q=> !decide (q.1=p.1):=by
  unfold y5;rw[List.filter_filter];refine List.filter_congr fun q _=>?_
  by_cases e:q.1=p.1 <;>simp[e]
 rw[e];have aw:p∈y5 bH l:=av0.2 ⟨ae,by simp[hn]⟩;exact List.length_filter_lt_length_iff_exists.2 ⟨p,aw,aw2⟩
abbrev anH (it:Nat) (u:bf->bf) (l:List bf) (b bV:Nat) (lx:List q9) (bH fL:aA1):ay:=[(1001,.cells [.mp 1002]),(1002,.aF (.wq b .str .aL lx bV)),(1003,.aF (.bw (j8 l))),(1004,.aF (.bw (jQ (k' u fL l)))),(it,.aF (.ws b bV bH bV))]
def la (fr bN:Int) (e:bf):bf:={e with es:=if e.on=true then nH e.s e.g e.es fr bN else e.es}
theorem W' (fr bN:Int):q8 (la fr bN):=by
 refine⟨fun _=>rfl,fun _=>rfl,fun _=>rfl,fun _=>rfl,fun _=>rfl,fun e h=>⟨h.1,h.2.1,?_⟩⟩;show fb (if e.on=true then nH e.s e.g e.es fr bN else e.es)
 split
 .exact M5 h.2.2 fr bN
 .exact h.2.2
theorem OB {l:List bf} (h:dO l) (fr bN:Int):Fn Tryz.prog 101 [ah 1001,ac fr,ac bN] (eC l) [] gV (eC (l.map (la fr bN))):=by
 have a8:=W' fr bN;obtain⟨ph,gk,gl⟩:=ki DO;obtain⟨M9,wY,wZ⟩:=ki HD;refine aT [0] Tryz.func101 ?_;refine bk.eH (c5.Ro 1002 rfl) fun x=>?_
 obtain⟨b,lx,bV,vE,Of,bx⟩:=x;have O:(lx.map (·.1)).Nodup:=Of.imp fun h=>by omega
 have ha:=anE h vE;refine br [] (bq) ⟨_,_,fun N=>Rq (d:=12) rfl Tryz.underlying104 rfl rfl N,rfl,?_⟩;refine dG [1] (X:=aA1×aA1) (fun _=>[(1,ac fr),(2,ac bN),(12,ah 12)]) (fun x=>anH 12 (la fr bN) l b bV lx x.1 x.2) (fun x=>xb l lx x.1 x.2) (fun x=>(y5 x.1 lx).length) ([],[]) (xb.nil l lx) ?_ ?_
 .exact ab.sub az ⟨rfl,rfl,rfl,(by show _=some (ba.aF (.bw (jQ (k' (la fr bN) [] l))));rw[anB];rfl),rfl,trivial⟩
 rintro⟨bH,fL⟩ Ef;have Ef:xb l lx bH fL:=Ef;refine bk.gz ee aw3 ?_;refine⟨_,Ru (c:=1002) (r:=12) rfl rfl rfl rfl (fun p ae=>bx _ (as0 ae)) (aq4 _),fun v e aA=>?_⟩;rcases aA with⟨p,ae,hE,rfl,rfl⟩ |⟨ez,rfl,rfl⟩
 .obtain⟨e,U,Bn⟩:=anD vE ae;have OC:vI p=some e.ad:=by unfold vI;rw[Bn]
  have Ib:e.ad∉fL:=fun aw=>hE ((Ef.OA p ae e.ad OC).2 aw)
  have d':=Ef.step O ha ae OC;have rE:=anG ae hE;have cp:=h.D U;have ar:=a8.get h U Ib;have iY:=a8.M h U Ib;obtain⟨ce,cR,er,eQ⟩:=h.ok e U;have gZ:=HB (MJ e.s e.g e.es fr bN ce cR) ar rfl rfl rfl rfl;have J:(if e.on=true then nH e.s e.g e.es fr bN else e.es)=(la fr bN e).es:=rfl;have hx:p.2.2=(some e.ad:Option Nat):=OC;refine⟨_,_,fun N=>Rv (c:=1002) (r:=12) (p:=p) rfl rfl rfl rfl ae N,rfl,?_⟩;refine⟨_,_,fun N=>i' (b:=e.ad) rfl ay7 N,rfl,?_⟩;refine⟨_,_,fun N=>jr rfl Tryz.underlying60 rfl rfl gk ax2 rfl N,rfl,?_⟩;refine⟨_,_,fun N=>ln (q:=1003) rfl Tryz.underlying4 rfl rfl rfl cp rfl N,rfl,?_⟩;refine⟨fun vz=>?_,fun vz=>?_⟩
  .have vz:e.on=true:=vz;rw[if_pos vz] at J;rw[J] at gZ;change Fn _ _ _ _ _ _ [(1004,.aF (.bw (ff (jQ (k' (la fr bN) fL l)) e.du (fv (la fr bN e).s (la fr bN e).g (la fr bN e).es))))] at gZ;rw[iY] at gZ;refine⟨_,_,fun N=>i' (b:=e.ad) rfl ay7 N,rfl,?_⟩;refine⟨_,_,fun N=>jr rfl Tryz.underlying60 rfl rfl wY (by rw[wZ];decide) rfl N,rfl,?_⟩;refine⟨_,_,fun N=>ln (q:=1003) rfl Tryz.underlying58 rfl rfl rfl cp rfl N,rfl,?_⟩;exact ak gZ ⟨(bH++[p.1],fL++[e.ad]),d',rE,ab.sub az az⟩
  .have vz:e.on=false:=vz;rw[if_neg (by rw[vz];decide)] at J;have af:fv (la fr bN e).s (la fr bN e).g (la fr bN e).es=fv e.s e.g e.es:=by rw[<-J];rfl
   rw[af,x4 ar] at iY;exact⟨(bH++[p.1],fL++[e.ad]),d',rE,ab.sub az ⟨rfl,rfl,rfl,congrArg (fun aB=>some (ba.aF (.bw aB))) iY,rfl,trivial⟩⟩
 .have yg: ∀e,e∈l->e.ad∈fL:=fun e U=>by
   have:jP e∈lx.map (·.2):=by rw[vE];exact as0 U
   obtain⟨p,ae,ao⟩:=as5.1 this;exact(Ef.OA p ae e.ad (by unfold vI;rw[ao])).1 (ez p ae)
  have nn:=W9 (u:=la fr bN) yg;have pk:lx.map (·.2)=dY (l.map (la fr bN)):=by rw[vE,<-nn,a8.uH]
  have sV:j8 l=j8 (l.map (la fr bN)):=by rw[<-nn,a8.D]
  exact⟨_,_,_,ab.Rp 1002 rfl,rfl,trivial,⟨rfl,congrArg (fun aB=>some (ba.map .str .aL aB)) pk,congrArg (fun aB=>some (ba.aF (.bw aB))) sV,congrArg (fun aB=>some (ba.aF (.bw (jQ aB)))) nn,trivial⟩,rfl⟩
end
end Go.Proofs.YtkfbeijmgggkmaaGreat
