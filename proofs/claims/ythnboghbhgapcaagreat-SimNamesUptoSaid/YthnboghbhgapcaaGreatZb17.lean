/-
A part of the proof of this claim: lemmas, with no condition beyond what each says.
-/
import Derived.Deep.RegionLaw
import Derived.Test.YthnboghbhgapcaaGreatZb16
set_option linter.unusedVariables false
set_option linter.unusedSimpArgs false
set_option maxRecDepth 10000
set_option maxHeartbeats 4000000
namespace Go.Proofs.YthnboghbhgapcaaGreat
open Go.RowKit Go.Proofs
section
theorem Di:(Tryz.prog.info? 65).map (fun i=>(i.zero,i.size,i.bytes))=some (some (.agg #[.string ⟨#[]⟩,.string ⟨#[]⟩,.int .i64 0,.int .i64 0,.slice none 0 0]),5,72):=by kernel_rfl
set_option maxRecDepth 100000 in
theorem ajL (v:Value) (n:Nat) (xs:List Value) (w:World) (ay:w.ownsRow 0 65 5 v n xs) (hn:n<=4294967296) (E: ∀u∈xs,u.oneCell'=true) (nK:0 < n):
  Calls Tryz.prog 127 #[v] w fun e w'=> ∃cW,e= .returned cW/\w'.ownsRow w.heap.size 65 5 cW n xs/\Below w.heap.size w w':=by
 have hp:=eN.qQ ay;obtain⟨b,o,c,rfl,-,-,-,-,-⟩:=hp.at_ nK;have ajM:=Lib.hid hp;have B6:=Lib.hid E;clear ay hp E;have x0:=Lib.run_eql_slice_nil (P:=Tryz.prog)
 go_enter Tryz.func127,Tryz.ntmps127
 go_wp2_with (at_builtin;refine N8 _ rfl (.tmp 5) (.tmp 6) _ rfl w.heap.size 65 _ 5 72 Tryz.underlying104 Di rfl au5 (.slice (some ⟨w.heap.size,0,none⟩) 0 0) 0 [] rfl (by exact⟨au7,.inr ⟨w.heap.size,0,#[],rfl,ap0 _,heap_alloc_new w _,ap0 _,au6,rfl,rfl⟩⟩) _ (.slice (some ⟨b,o,none⟩) n c) n xs rfl (by exact ajM.out.below (s0 _ _)) B6.out aw9 au5 au7 ?_;intro cW dz du nB iT)
 go_wp2
 go_ret
 refine⟨cW,rfl,by simpa using du,?_⟩;exact(s0 _ _).grown nB au7 (fun k ab=>by simp[Value.ownBlock] at ab;omega)
theorem ajN {P:Program} (w:World) (t ty e:TypeId) (aC:Value) (size bytes:Nat) (cq:P.underlying t=some (.slice e)) (p2:(P.info? e).map (fun i=>(i.zero,i.size,i.bytes))=some (some aC,size,bytes))
  (g k cap:Nat) (c9:List Value) (a1:w.heap[g]? =some (.cells c9.toArray e (0,0))) (D:Nat->Prop) (h0:Value) (m:Nat) (eR:List Value) (aF:eN D w size h0 m eR) (E: ∀u∈eR,u.oneCell'=true)
  (Bp:k+m<=cap) (k2:(k+m)*size<=c9.length):
  ∃w',(Builtin.append_ #[t,t] ty #[.slice (some ⟨g,0,none⟩) k cap,h0]).run P w= .ok (.slice (some ⟨g,0,none⟩) (k+m) cap) w'/\w'.heap[g]? =some (.cells (splice c9 (k*size) eR).toArray e (0,0))/\w.grownBy w' (some g):=by
 obtain⟨i,aH,aR,yO,tW⟩:=info_parts p2;subst yO;obtain⟨al,A,c,rfl,_,_,aj⟩:=aF;have ajO:k*i.size+eR.length<=c9.length:=by rw[al,<-Nat.add_mul];exact k2
 rcases A with _ |ad
 .have az:m=0:=by
   rcases Nat.eq_zero_or_pos m with av |av
   .exact av
   .obtain⟨b,o,h,_⟩:=aj av
    cases h
  subst az;have hn:eR=[]:=List.eq_nil_of_length_eq_zero ay2;subst hn;refine⟨w,?_,by simpa[splice] using a1,World.grownBy.refl w _⟩;have ajP:k<=cap:=av3
  simp[Builtin.append_,run_underlying cq,sizeOf,typeInfo,aH,Builtin.lenOf,Builtin.firstCells,ajP,storeCells]
 .have wX: ∀j u,eR[j]? =some u->w.cell? (ad.add j)=some u:=by
   intro j u a7;rcases Nat.eq_zero_or_pos m with av |av
   .subst av;have hn:eR=[]:=List.eq_nil_of_length_eq_zero ay2;subst hn;simp at a7
   .obtain⟨b,o,h,_,_,H⟩:=aj av;injection h with h
    subst h;rw[p1];exact H j u a7
  refine⟨_,run_append_room (P:=P) w t ty e i cq aH g k cap c9.toArray a1 ad m c eR al wX E Bp (by simpa using ajO),?_,⟨rfl,rfl,rfl,by simp[World.setRow],fun dV _ ab=>setRow_other w g dV _ (fun e=>ab (by rw[e]))⟩⟩;rw[setRow_heap w g c9.toArray _ e (0,0) a1];simp[splice]
theorem Uj {P:Program} (w:World) {c':Array Oper} {o:Oper} {a:Act} {K:Act->World->Prop} {Q:Exit->Act->World->Prop} {uk:Prop} (tX:o.guard=none) (s x:Operand) (t:TypeId)
  (ah:o.op= .call {callee:=.builtin .append,args:= #[s,x],argTypes:= #[t,t]})
  (e:TypeId) (aC:Value) (size bytes:Nat) (cq:P.underlying t=some (.slice e)) (p2:(P.info? e).map (fun i=>(i.zero,i.size,i.bytes))=some (some aC,size,bytes))
  (g k cap:Nat) (ax:a.eval s= .slice (some ⟨g,0,none⟩) k cap) (c9:List Value) (a1:w.heap[g]? =some (.cells c9.toArray e (0,0))) (D:Nat->Prop) (h0:Value) (m:Nat) (eR:List Value) (hx:a.eval x=h0) (aF:eN D w size h0 m eR) (E: ∀u∈eR,u.oneCell'=true)
  (Bp:k+m<=cap) (k2:(k+m)*size<=c9.length)
  (h: ∀w',w'.heap[g]? =some (.cells (splice c9 (k*size) eR).toArray e (0,0))->w.grownBy w' (some g)->K (a.put o.dst (.slice (some ⟨g,0,none⟩) (k+m) cap)) w'):
  if Region.wanted o (yielded c' a.tmps)=true then Oper.wp P o a w K Q else uk:=by
 have hw:Region.wanted o (yielded c' a.tmps)=true:=by simp[Region.wanted,tX]
 rw[if_pos hw];obtain⟨w',dO,G,aj⟩:=ajN (P:=P) w t o.type e aC size bytes cq p2 g k cap c9 a1 D h0 m eR aF E Bp k2;unfold Oper.wp execOp;simp only[ah,resolve,invoke,builtin,Sem.run_bind,Sem.run_pure,Result.andThen_ok,List.map_toArray,aq4,au0,ax,hx,dO];exact h w' G aj
theorem ajQ {P:Program} (w:World) (t ty e:TypeId) (aC:Value) (size bytes:Nat) (cq:P.underlying t=some (.slice e)) (p2:(P.info? e).map (fun i=>(i.zero,i.size,i.bytes))=some (some aC,size,bytes)) (nz:aC.cells.size=size) (Mo: ∀u∈aC.cells.toList,u.oneCell'=true)
  (g o c:Nat) (c9:List Value) (a1:w.heap[g]? =some (.cells c9.toArray e (0,0))) (k2:o+size<=c9.length):
  ∃w',(Builtin.clear_ #[t] ty #[.slice (some ⟨g,o,none⟩) 1 c]).run P w= .ok (.tuple #[]) w'/\w'.heap[g]? =some (.cells (splice c9 o aC.cells.toList).toArray e (0,0))/\w.grownBy w' (some g):=by
 obtain⟨i,aH,aR,yO,tW⟩:=info_parts p2
 have vH:(Builtin.zeroCells aC.cells 1).toList=aC.cells.toList:=by
  have:Builtin.zeroCells aC.cells 1=aC.cells:=by
   apply Array.ext
   .simp[Builtin.zeroCells]
   .intro j E G;simp[Builtin.zeroCells,Nat.mod_eq_of_lt G,G]
  rw[this]
 have ez:=run_storeCells_at P g o e aC.cells.toList 0 c9.toArray w a1 (by simp[nz];omega) Mo;simp only[Nat.add_zero] at ez;refine⟨w.setRow g (List.take o c9++aC.cells.toList++List.drop (o+aC.cells.toList.length) c9).toArray,by simp[Builtin.clear_,run_underlying cq,zeroValue,typeInfo,aH,aR,vH,ez],?_,⟨rfl,rfl,rfl,by simp[World.setRow],fun dV _ ab=>setRow_other w g dV _ (fun e=>ab (by rw[e]))⟩⟩;rw[setRow_heap w g c9.toArray _ e (0,0) a1];simp[splice]
theorem Uk {P:Program} (w:World) {c':Array Oper} {rest:List Oper} {o:Oper} {a:Act} {Q:Exit->Act->World->Prop} (tX:o.guard=none) (x:Operand) (t:TypeId)
  (ah:o.op= .call {callee:=.builtin .clear,args:= #[x],argTypes:= #[t]})
  (e:TypeId) (aC:Value) (size bytes:Nat) (cq:P.underlying t=some (.slice e)) (p2:(P.info? e).map (fun i=>(i.zero,i.size,i.bytes))=some (some aC,size,bytes)) (nz:aC.cells.size=size) (Mo: ∀u∈aC.cells.toList,u.oneCell'=true)
  (g off c:Nat) (hx:a.eval x= .slice (some ⟨g,off,none⟩) 1 c) (c9:List Value) (a1:w.heap[g]? =some (.cells c9.toArray e (0,0))) (k2:off+size<=c9.length)
  (h: ∀w',w'.heap[g]? =some (.cells (splice c9 off aC.cells.toList).toArray e (0,0))->w.grownBy w' (some g)->wpList P c' Q rest (a.put o.dst (.tuple #[])) w'):wpList P c' Q (o::rest) a w:=
 wpList_plain tX fun _ di=>by
  obtain⟨w',dO,G,aj⟩:=ajQ (P:=P) w t o.type e aC size bytes cq p2 nz Mo g off c c9 a1 k2;unfold Oper.wp execOp;simp only[ah,resolve,invoke,builtin,Sem.run_bind,Sem.run_pure,Result.andThen_ok,List.map_toArray,aq4,au0,hx,dO];exact di _ _ (h w' G aj)
theorem Ul {α:Type} (L:List α) (o:Nat):splice L o []=L:=by simp[splice]
theorem Um {w w':World} {r:Option Nat} (h:w.drew.grownBy w' r):w.grownBy w' r:=⟨h.os,h.tape,h.output,h.size,h.block⟩
theorem Un: ∀u∈(Value.agg #[.string ⟨#[]⟩,.string ⟨#[]⟩,.int .i64 0,.int .i64 0,.slice none 0 0]).cells.toList,u.oneCell'=true:=by simp[Value.cells,Value.oneCell']
theorem Uo {ij:World} {B g m cap:Nat} {c9 xs wa:List Value} (da:B<=g) (bk:ij.heap[g]? =some (.cells (splice c9 (m*5) wa).toArray 65 (0,0))) (az:m<=cap) (zb:cap<=maxLen) (H:c9.length=cap*5) (aR:m*5+wa.length<=cap*5) (hx:c9.take (m*5)=xs) (vI:xs.length=m*5):
  ij.ownsRow B 65 5 (.slice (some ⟨g,0,none⟩) m cap) m xs:=by
 refine⟨vI,.inr ⟨g,cap,_,rfl,da,bk,az,zb,?_,?_⟩⟩
 .simp only[List.size_toArray];rw[length_splice _ _ _ au5,H]
 .simp only[splice];rw[List.take_append_of_le_length av9,List.take_of_length_le av9];exact hx
set_option maxRecDepth 100000 in
theorem ajR (B g k:Nat) (xs:List Value) (w:World) (ay:w.ownsRow B 65 5 (.slice (some ⟨g,0,none⟩) (k+1) (k+1)) (k+1) xs):
  Calls Tryz.prog 126 #[.slice (some ⟨g,0,none⟩) (k+1) (k+1),.int .i64 k,.int .i64 (k+1)] w fun e w'=>e= .returned (.slice (some ⟨g,0,none⟩) k (k+1))/\
   w'.ownsRow B 65 5 (.slice (some ⟨g,0,none⟩) k (k+1)) k (xs.take (k*5))/\w.grownBy w' (some g):=by
 obtain⟨al,G⟩:=ay;rcases G with⟨h,_⟩ |⟨hh,IZ,c9,V,da,bk,D0,zb,gk,m5⟩
 .cases h
 injection V with ai ao bl
 injection ai with ai
 injection ai with ai
 subst ai bl;clear ao;unfold maxLen at zb;have ajS:(0:Int)<=(k:Int):=av3
 have oI:(k:Int)<=(k:Int)+1:=av3
 have zJ:((k:Int) == (k:Int)+1)=false:=av9
 have qw:(0:Int)<=(k:Int)+1:=av3
 have uJ:(k:Int)+1<=((k+1:Nat):Int):=av3
 have kU:k<=k+1:=av3
 have Mp:=Lib.hid bk;have u6:=Lib.hid (show c9.toList.length=(k+1)*5 by rw[Array.length_toList,gk]);have Dj:=Lib.hid al;have Mq:=Lib.hid m5;have Mr:=Lib.hid da;have iG:eN (fun _=>True) w 5 (.slice (some ⟨g,0,none⟩) 0 0) 0 []:=⟨au7,_,_,rfl,au5,by simp only[maxLen];omega,fun h=>absurd h au5⟩;have Ms:=Lib.hid iG;clear bk gk al m5 iG
 go_enter Tryz.func126,Tryz.ntmps126
 go_wp2
 go_region_law ((refine Uj _ au9 (.tmp 22) (.tmp 25) _ au9 65 _ 5 72 Tryz.underlying104 Di g k (k+1) au9 c9.toList (by exact Mp.out) (fun _=>True) _ 0 [] au9 (by exact Ms.out) (fun u a7=>by cases a7) au5 (by rw[u6.out];omega) ?_;intro e0 Mt Mu))
 all_goals rw[Nat.add_zero]
 all_goals
  go_wp2_with (refine Uk _ rfl (.tmp 31) 104 rfl 65 _ 5 72 Tryz.underlying104 Di rfl Un g (k*5) 1 rfl _ Mt (by rw[Ul,u6.out];omega) ?_;intro ij G0 Mv)
  go_ret
  refine⟨rfl,?_,(Um Mu).trans Mv⟩;rw[Ul] at G0;refine Uo Mr.out G0 au5 aw9 u6.out (by simp[Value.cells];omega) ?_ (by rw[ap8,Dj.out];omega);rw[<-Mq.out,List.take_take]
  congr 1
  omega
set_option maxRecDepth 100000 in
theorem ajT (B g m cap k:Nat) (xs:List Value) (w:World) (ay:w.ownsRow B 65 5 (.slice (some ⟨g,0,none⟩) (m+1) cap) (m+1) xs) (ab:k<=m) (a2: ¬cap=k+1) (E: ∀u∈xs,u.oneCell'=true):
  Calls Tryz.prog 126 #[.slice (some ⟨g,0,none⟩) (m+1) cap,.int .i64 k,.int .i64 (k+1)] w fun e w'=>e= .returned (.slice (some ⟨g,0,none⟩) m cap)/\
   w'.ownsRow B 65 5 (.slice (some ⟨g,0,none⟩) m cap) m (xs.take (k*5)++xs.drop ((k+1)*5))/\w.grownBy w' (some g):=by
 obtain⟨al,G⟩:=ay;rcases G with⟨h,_⟩ |⟨hh,IZ,c9,V,da,bk,D0,zb,gk,m5⟩
 .cases h
 injection V with ai ao bl
 injection ai with ai
 injection ai with ai
 subst ai bl;clear ao;unfold maxLen at zb;have ajS:(0:Int)<=(k:Int):=av3
 have oI:(k:Int)<=(k:Int)+1:=av3
 have zJ:((k:Int) == (k:Int)+1)=false:=av9
 have qw:(0:Int)<=(k:Int)+1:=av3
 have oJ:(k:Int)+1<=((m+1:Nat):Int):=av3
 have api:(k:Int)+1<=(m:Int)+1:=av3
 have uJ:((m+1:Nat):Int)<=(cap:Int):=av3
 have apj:(m:Int)+1<=(cap:Int):=av3
 have apk:(k:Int)+1<=(cap:Int):=av3
 have apl: ¬cap=0:=av3
 have i8: ¬cap=m:=av3
 have kU:k<=cap:=av3
 have wG:k+1<=m+1:=av3
 have apm:k+1<=cap:=av3
 have apn:m<=m+1:=av3
 have apo:m+1<=cap:=av3
 have Mp:=Lib.hid bk;have B6:=Lib.hid E;have u6:=Lib.hid (show c9.toList.length=cap*5 by rw[Array.length_toList,gk]);have Dj:=Lib.hid al;have Mq:=Lib.hid m5;have Mr:=Lib.hid da;have b6:(xs.drop ((k+1)*5)).length=(m+1 - (k+1))*5:=by rw[at1,al];omega
 have Dk:=Lib.hid b6;have cM:=k1 bk
 have Cb: ∀j u,(xs.drop ((k+1)*5))[j]? =some u->w.cell? ⟨g,(k+1)*5+j,none⟩=some u:=by
  intro j u Z;rw[List.getElem?_drop,<-m5,List.getElem?_take] at Z
  split at Z
  .simpa[World.cell?,bk] using Z
  .cases Z
 have iG: ∀q c,q=m+1 - (k+1)->q<=c->c<=maxLen->eN (fun _=>True) w 5 (.slice (some ⟨g,(k+1)*5,none⟩) q c) (m+1 - (k+1)) (xs.drop ((k+1)*5)):=fun q c aT G aj=>by
  subst aT;exact⟨b6,_,_,rfl,G,aj,fun h=>⟨g,_,rfl,trivial,cM,Cb⟩⟩
 have Ms:=Lib.hid iG;have zy:k+(m+1 - (k+1))=m:=av3
 have ajU:=Lib.hid zy;have ajV:=Lib.hid (show k+(m - k)=m by omega);clear bk E gk al m5 b6 Cb iG zy
 go_enter Tryz.func126,Tryz.ntmps126
 go_wp2
 go_region_law ((refine Uj _ au9 (.tmp 22) (.tmp 25) _ au9 65 _ 5 72 Tryz.underlying104 Di g k cap au9 c9.toList (by exact Mp.out) (fun _=>True) _ (m+1 - (k+1)) (xs.drop ((k+1)*5)) au9 (by exact Ms.out _ _ au5 au5 (by simp only[maxLen];omega)) (fun u a7=>B6.out u (List.mem_of_mem_drop a7)) au5 (by rw[u6.out];omega) ?_;intro e0 Mt Mu))
 all_goals try (first |rw[ajU.out] |rw[ajV.out])
 all_goals
  go_wp2_with (refine Uk _ rfl (.tmp 31) 104 rfl 65 _ 5 72 Tryz.underlying104 Di rfl Un g (m*5) (cap - m) rfl _ Mt (by rw[length_splice _ _ _ (by rw[Dk.out,u6.out];omega),u6.out];omega) ?_;intro ij G0 Mv)
  go_ret
  refine⟨rfl,?_,(Um Mu).trans Mv⟩;refine Uo Mr.out G0 au5 aw9 (by rw[length_splice _ _ _ (by rw[Dk.out,u6.out];omega),u6.out]) (by simp[Value.cells];omega) ?_ (by rw[ap1,ap8,Dk.out,Dj.out];omega)
  have ai:List.take (k*5) c9.toList=xs.take (k*5):=by
   rw[<-Mq.out,List.take_take];congr 1;omega
  unfold splice;rw[ai,<-as8,List.take_append_of_le_length (by rw[ap1,ap8,Dk.out,Dj.out];omega)];exact List.take_of_length_le (by rw[ap1,ap8,Dk.out,Dj.out];omega)
theorem ajW (B g m cap k:Nat) (xs:List Value) (w:World) (ay:w.ownsRow B 65 5 (.slice (some ⟨g,0,none⟩) (m+1) cap) (m+1) xs) (ab:k<=m) (E: ∀u∈xs,u.oneCell'=true):
  Calls Tryz.prog 126 #[.slice (some ⟨g,0,none⟩) (m+1) cap,.int .i64 k,.int .i64 (k+1)] w fun e w'=>e= .returned (.slice (some ⟨g,0,none⟩) m cap)/\
   w'.ownsRow B 65 5 (.slice (some ⟨g,0,none⟩) m cap) m (xs.take (k*5)++xs.drop ((k+1)*5))/\w.grownBy w' (some g):=by
 by_cases H:cap=k+1
 .have ajX:m=k:=by
   rcases ay.2 with⟨h,_⟩ |⟨hh,IZ,c9,V,_,_,aj,_⟩
   .cases h
   .injection V with _ _ bl
    omega
  subst ajX H;refine(ajR B g m xs w ay).mono fun e w' ⟨V,G,aj⟩=>⟨V,?_,aj⟩
  rw[List.drop_of_length_le (by have:=ay.1;omega),as6];exact G
 .exact ajT B g m cap k xs w ay ab H E
end
section
theorem Up {I:Nat->Prop} {w:World} {u:bx} {xs:List (aa u)} {cs:List Value} (aR:0 < aQ u) (al:cs.length=xs.length*aQ u) (h:gL I w u xs cs): ∀v∈cs,v.oneCell'=true:=fun v ay=>by
 obtain⟨k,ab,rfl⟩:=List.getElem_of_mem ay;obtain⟨ai,ao,bl⟩:=D3 (show k < xs.length*aQ u by omega);obtain⟨cW,E,G⟩:=co.one u _ _ (h (k/aQ u) _ (oj ai)) (k % aQ u) ao;rw[bl,oj ab] at E;injection E with E
 rw[E];exact G
theorem co.Uq {I:Nat->Prop} {w:World} {u:bx} {x:aa u} {c bX:Nat->Option Value} (h:co I w u x c) (H: ∀j v,j < aQ u->c j=some v->bX j=some v):co I w u x bX:=
 co.mk u x bX (co.wf u x c h) fun j Z=>by
  obtain⟨v,E,G⟩:=co.cell u x c j h Z;exact⟨v,H j v Z E,G⟩
theorem ajY {I:Nat->Prop} {w:World} {u:bx} {xs:List (aa u)} {cs:List Value} {k:Nat} (ab:k < xs.length) (al:cs.length=xs.length*aQ u) (h:gL I w u xs cs):gL I w u (xs.eraseIdx k) (cs.take (k*aQ u)++cs.drop ((k+1)*aQ u)):=fun i x aH=>by
 rw[List.getElem?_eraseIdx] at aH;have GA:(k+1)*aQ u<=xs.length*aQ u:=Nat.mul_le_mul_right _ ab;have cm:(k+1)*aQ u=k*aQ u+aQ u:=Nat.succ_mul k (aQ u);have bw:(cs.take (k*aQ u)).length=k*aQ u:=aw5
 split at aH
 .rename_i uW;have:(i+1)*aQ u<=k*aQ u:=Nat.mul_le_mul_right _ uW;rw[Nat.succ_mul] at this;refine(h i x aH).Uq fun j v Z ay=>?_
  rw[ar7 au5,List.getElem?_take,if_pos au5];exact ay
 .rename_i uW;have:k*aQ u<=i*aQ u:=Nat.mul_le_mul_right _ au5;have ai:(i+1)*aQ u=i*aQ u+aQ u:=Nat.succ_mul i (aQ u);refine(h (i+1) x aH).Uq fun j v Z ay=>?_
  rw[ar9 au5,List.getElem?_drop,bw];rw[<-ay]
  congr 1
  omega
set_option maxRecDepth 100000 in
theorem ajZ (L:List bL) (av:0 < L.length) (cY:L.length<=4294967296):
  Fn Tryz.prog 127 [eO 1001] [(1001,.row 65 lN L)] [1002] (eO 1002) [(1001,.row 65 lN L),(1002,.row 65 lN L)]:=by
 refine⟨au8,?_⟩;intro ρ F I w bW ba cX bh ep b6 dt
 match bW,b6 with
 | [v],_=>
  obtain rfl:v=(ρ 1001).ey:=dt 0 _ v rfl rfl;have bk:=cX 1001 _ rfl;obtain⟨tr,k4,cs,yk,jI⟩:=bk;refine(ajL (ρ 1001).ey L.length cs w yk cY (Up au6 yk.1 jI) av).mono ?_;rintro e w' ⟨cW,rfl,du,O⟩;rcases du.2 with⟨_,hn⟩ |⟨g,cap,c9,rfl,a1,sE,xd,az,gk,m5⟩
  .omega
  have Ct:g < w'.heap.size:=(Array.getElem?_eq_some_iff.1 sE).1;have aW:ce I w I w':=fun b fP=>⟨fP,O.block b (ba b fP)⟩
  refine⟨_,c5 ρ 1002 ⟨g,some ⟨g,0,none⟩,L.length,cap⟩,c5 F 1002 (fun b=>b=g),rfl,cK.mo O,?_,I,aW,?_,?_,?_,?_,?_⟩
  .intro c H;exact dd _ _ (fun e=>H (by simp[e]))
  .intro b fP;exact⟨Nat.lt_of_lt_of_le (ba b fP) O.size,.inl fP⟩
  .intro c ch H;rw[ca] at H
   split at H
   .rename_i dP;subst dP;injection H with H;subst H
    rw[dd _ _ au6,dd _ _ au6];exact⟨tr,k4,cs,Og yk (fun b he=>O.block b ((bh 1001 _ rfl b ((tr b).2 he)).1)),jI.mono aW⟩
   .rw[ca] at H
    split at H
    .rename_i dP;subst dP;injection H with H;subst H
     rw[c6,c6];exact⟨fun b=>⟨fun e=>by subst e;rfl,fun e=>by injection e with e;exact e.symm⟩,fun b e=>by injection e with e;exact e.symm,cs,⟨du.1,.inr ⟨g,cap,c9,rfl,ap7 _,sE,xd,az,gk,m5⟩⟩,jI.mono aW⟩
    .simp[ag] at H
  .intro c ch H b pQ;rw[ca] at H
   split at H
   .rename_i dP;subst dP;rw[dd _ _ au6] at pQ;have:=bh 1001 _ rfl b pQ;exact⟨Nat.lt_of_lt_of_le this.1 O.size,this.2,.inl ⟨1001,_,rfl,pQ⟩⟩
   .rw[ca] at H
    split at H
    .rename_i dP;subst dP;rw[c6] at pQ;subst pQ;exact⟨Ct,fun fP=>by have:=ba _ fP;omega,.inr a1⟩
    .simp[ag] at H
  .intro c bX ch ch' b H cF a2 gQ he;rw[ca] at H cF;have key: ∀b,F 1001 b-> ¬b=g:=fun b gQ e=>by have:=(bh 1001 _ rfl b gQ).1;omega
   split at H
   .rename_i dP;subst dP;rw[dd _ _ au6] at gQ;rw[if_neg a2,ca] at cF
    split at cF
    .rename_i dP;subst dP;rw[c6] at he;exact key b gQ he
    .simp[ag] at cF
   .rw[ca] at H
    split at H
    .rename_i dP;subst dP;rw[c6] at gQ
     split at cF
     .rename_i dP;subst dP;rw[dd _ _ au6] at he;exact key b he gQ
     .rw[ca,if_neg a2] at cF;simp[ag] at cF
    .simp[ag] at H
  .show _=bn.ey (c5 ρ 1002 _ 1002);rw[c6];rfl
set_option maxRecDepth 100000 in
theorem aj0 (L:List bL) (k:Nat) (ab:k < L.length):
  Fn Tryz.prog 126 [eO 1001,ac k,ac (k+1)] [(1001,.row 65 lN L)] [1002] (eO 1002) [(1002,.row 65 lN (L.eraseIdx k))]:=by
 refine⟨au8,?_⟩;intro ρ F I w bW ba cX bh ep b6 dt
 match bW,b6 with
 | [v,kJ,v2],_=>
  obtain rfl:v=(ρ 1001).ey:=dt 0 _ v rfl rfl;obtain rfl:kJ= .int .i64 k:=dt 1 _ kJ rfl rfl;obtain rfl:v2= .int .i64 (k+1):=dt 2 _ v2 rfl rfl;have bk:=cX 1001 _ rfl;obtain⟨tr,k4,cs,yk,jI⟩:=bk;have rY:=Up au6 yk.1 jI;have Ur:=yk;obtain⟨dJ,G⟩:=yk;rcases G with⟨_,hn⟩ |⟨g,cap,c9,G1,a1,sE,xd,az,gk,m5⟩
  .omega
  have G2:F 1001 g:=(tr g).2 (by rw[G1];rfl);obtain⟨m,Gq⟩: ∃m,L.length=m+1:=⟨L.length - 1,au5⟩;rw[G1,Gq] at Ur;rw[G1,Gq];have app:g < w.heap.size:=(Array.getElem?_eq_some_iff.1 sE).1;refine(ajW 0 g m cap k cs w Ur au5 rY).mono ?_;rintro e w' ⟨rfl,du,nB⟩;have aW:ce I w I w':=fun b fP=>⟨fP,nB.block b (ba b fP) (fun e=>by injection e with e;subst e;exact(bh 1001 _ rfl _ G2).2 fP)⟩
  have gZ:(L.eraseIdx k).length=m:=by rw[List.length_eraseIdx_of_lt ab];omega
  have apq: ∀b,F 1001 b↔b=g:=fun b=>by rw[tr,G1];exact⟨fun e=>by injection e with e;exact e.symm,fun e=>by subst e;rfl⟩
  have dA: ∀c ch,ag [(1002,bb.row 65 lN (L.eraseIdx k))] c=some ch->c=1002/\ch=bb.row 65 lN (L.eraseIdx k):=fun c ch H=>by
   rw[ca] at H
   split at H
   .rename_i dP;injection H with H;exact⟨dP.symm,H.symm⟩
   .simp[ag] at H
  refine⟨_,c5 ρ 1002 ⟨g,some ⟨g,0,none⟩,m,cap⟩,c5 F 1002 (fun b=>b=g),rfl,Oa nB (fun b e=>by injection e with e;subst e;exact⟨1001,_,rfl,G2⟩),?_,I,aW,?_,?_,?_,?_,?_⟩
  .intro c H;exact dd _ _ (fun e=>H (by simp[e]))
  .intro b fP;exact⟨Nat.lt_of_lt_of_le (ba b fP) nB.size,.inl fP⟩
  .intro c ch H;obtain⟨rfl,rfl⟩:=dA c ch H;rw[c6,c6];refine⟨fun b=>⟨fun e=>by subst e;rfl,fun e=>by injection e with e;exact e.symm⟩,fun b e=>by injection e with e;exact e.symm,_,?_,ajY ab dJ (jI.mono aW)⟩;rw[gZ];exact du
  .intro c ch H b pQ;obtain⟨rfl,rfl⟩:=dA c ch H;rw[c6] at pQ;subst pQ;have:=bh 1001 _ rfl _ G2;exact⟨Nat.lt_of_lt_of_le this.1 nB.size,this.2,.inl ⟨1001,_,rfl,G2⟩⟩
  .intro c bX ch ch' b H cF a2;exact absurd ((dA c ch H).1.trans (dA bX ch' cF).1.symm) a2
  .show _=bn.ey (c5 ρ 1002 _ 1002);rw[c6];rfl
end
section
def rG (L:List bL) (nm:ay4):Int:=if eu L nm < 0 then 181 else if wF L nm=true then 1 else 0
def o7 (L:List bL) (nm:ay4):List bL:=if rG L nm=0 then L.eraseIdx (eu L nm).toNat else L
theorem aj1 (L:List bL) (nm:ay4) (cY:L.length<=1000000):Fn Tryz.prog 74 [ap 1001,bU nm] (kw L) [1003] (ac (rG L nm)) (T3 (o7 L nm)):=by
 have yl:=GT nm L au5;have G3:=ajB 125 _ nm L au5 fun b=>ajA b nm
 rcases u3 (fun x=>decide (dH x=nm)) L with⟨h,_⟩ |⟨k,x,h,hx,_⟩
 .have hf:eu L nm= -1:=h;have aW:rG L nm=181:=by unfold rG;rw[if_pos au5]
  have b9:o7 L nm=L:=by unfold o7;rw[if_neg au5]
  rw[hf] at yl;rw[aW,b9];refine aU [] Tryz.func74 ?_;exact⟨rfl,ar yl ⟨fun h=>⟨_,_,_,ae.aV 1002 1003 rfl,rfl,rfl,aA,rfl⟩,fun h=>absurd h au6⟩⟩
 .have hf:eu L nm=k:=h;have ab:k < L.length:=(ap5.1 hx).1;rw[hf] at yl;have aW:rG L nm=if wF L nm=true then 1 else 0:=by unfold rG;rw[if_neg au5]
  refine aU [] Tryz.func74 ?_;refine⟨rfl,ar yl ⟨fun h=>absurd (gd h) au5,fun h=>ar (Fn.aV [(1001,3)] G3) ⟨fun G=>?_,fun G=>?_⟩⟩⟩
  .have af:wF L nm=true:=G;rw[af,if_pos rfl] at aW;have b9:o7 L nm=L:=by unfold o7;rw[if_neg au5]
   rw[aW,b9];exact⟨_,_,_,ae.aV 1002 1003 rfl,rfl,rfl,aA,rfl⟩
  .have af:wF L nm=false:=G;rw[af,if_neg au7] at aW;have b9:o7 L nm=L.eraseIdx k:=by unfold o7;rw[if_pos aW,hf];rfl
   rw[aW,b9];exact ar (Fn.aV [(1001,1002),(1002,2001)] (ajZ L au5 au5)) ⟨au5,ar (Fn.aV [(1001,2001),(1002,2002)] (aj0 L k ab)) ⟨_,_,_,ae.aV 2002 1003 rfl,rfl,rfl,aA,rfl⟩⟩
def G4 (L:List bL) (o:tK):List bL:=if decide (Uc o=1)=true then o7 (Ay L o) (ajF o) else Ay L o
structure G5 (L:List bL):Prop where
 len:L.length<=64
 fN:(L.map dH).Nodup
theorem aj2 {L:List bL} {nm:ay4} (h:eu L nm < 0):nm∉L.map dH:=fun az=>by
 obtain⟨b,O,rfl⟩:=ar2.1 az;have:=ajK O;omega
theorem G5.op {L:List bL} (h:G5 L) (o:tK):G5 (G4 L o):=by
 have E:G5 (Ay L o):=by
  unfold Ay
  split
  .unfold gv
   split
   .rename_i aW;obtain⟨_,ao,bl,_⟩:=Dh aW;refine⟨by simp;omega,?_⟩;rw[as3,List.nodup_append];refine⟨h.fN,au7,fun a ha b O=>?_⟩;simp only[aq4,au0,aq2] at O;subst O;exact fun e=>aj2 ao (e▸ha)
   .exact h
  .exact h
 unfold G4
 split
 .unfold o7
  split
  .exact⟨as9 (List.length_eraseIdx_le _ _) E.len,List.Sublist.nodup ((List.eraseIdx_sublist _ _).map dH) E.fN⟩
  .exact E
 .exact E
end
section
end
section
end
section
end
section
theorem aj3 {α:Type} (p:α->Bool): ∀(L:List α),(if 0<=mh p L then fD L (mh p L).toNat else none)=L.find? p:=by
 intro L;rcases u3 p L with⟨h,hn⟩ |⟨k,x,h,hx,af,bw⟩
 .rw[h,if_neg au5];refine(List.find?_eq_none.2 fun x hx=>?_).symm;obtain⟨i,aH,rfl⟩:=List.getElem_of_mem hx;rw[hn i _ (oj aH)];simp
 .rw[h,if_pos au5,Int.toNat_natCast];unfold fD;rw[hx];refine(List.find?_eq_some_iff_getElem.2 ⟨af,k,(ap5.1 hx).1,(ap5.1 hx).2,fun j Z=>?_⟩).symm;have:=bw j _ Z (oj (by have:=(ap5.1 hx).1;omega));simpa using this
theorem ym (L:List bL) (nm:ay4):o6 L (eu L nm)=L.find? (fun b=>decide (dH b=nm)):=aj3 _ L
theorem Mw {α:Type} (p:α->Bool): ∀(L:List α) (k:Nat) (x:α),L[k]? =some x->p x=false->(L.eraseIdx k).find? p=L.find? p
 | [],k,x,h,_=>by simp at h
 |a::L,0,x,h,af=>by
  simp only[aq5,ap4] at h;subst h;simp[List.find?_cons,af]
 |a::L,k+1,x,h,af=>by
  simp only[au2] at h;rw[List.eraseIdx_cons_succ,List.find?_cons,List.find?_cons,Mw p L k x h af]
theorem G6 (L:List bL) (nm:ay4):eu L nm < 0↔L.find? (fun b=>decide (dH b=nm))=none:=by
 rw[<-ym];unfold o6;constructor
 .intro h;rw[if_neg au5]
 .intro h;rcases u3 (fun b=>decide (dH b=nm)) L with⟨G,_⟩ |⟨k,x,G,hx,_⟩
  .unfold eu;omega
  .have G:eu L nm=k:=G;rw[if_pos au5,G,Int.toNat_natCast] at h;unfold fD at h;rw[hx] at h
   cases h
end
section
structure Dl (L:List bL):Prop extends lm L where
 bits: ∀b,b∈L->dh b≠[]-> ∀x,L.find? (fun y=>decide (dH y=dh b))=some x->cT x=cT b
theorem Dl.nil:Dl []:=⟨lm.nil,fun b h=>by cases h⟩
theorem Dm {L:List bL} {nm:ay4} (h:0<=eu L nm): ∃x,L.find? (fun y=>decide (dH y=nm))=some x:=by
 cases hx:L.find? (fun y=>decide (dH y=nm)) with
 |some x=>exact⟨x,rfl⟩
 |none=>have:=(G6 L nm).2 hx;omega
theorem Us {L:List bL} (b:bL) {nm:ay4} (h:0<=eu L nm):(L++[b]).find? (fun y=>decide (dH y=nm))=L.find? (fun y=>decide (dH y=nm)):=by
 obtain⟨x,hx⟩:=Dm h;rw[List.find?_append,hx];rfl
theorem Ut {L:List bL} (ba:lm L) {b:bL} (O:b∈L) (af:dh b≠[]):0<=eu L (dh b):=by
 obtain⟨k,ab,rfl⟩:=List.getElem_of_mem O;exact(ba.GW k _ (oj ab) (by simpa using af)).1
theorem Dl.add {L:List bL} (ba:Dl L) (b:bL):Dl (gv L b):=by
 refine⟨ba.tolm.add b,?_⟩;unfold gv
 split
 .rename_i aW;intro c H af x hx;rcases aq8.1 H with H |H
  .rw[Us b (Ut ba.tolm H af)] at hx;exact ba.bits c H af x hx
  .simp only[aq2] at H;subst H;have av:=(Dh aW).2.2.2 (by simpa using af);rw[Us c av] at hx;rw[<-ym] at hx;unfold o6 at hx;rw[if_pos av] at hx
   by_cases O:cT x=cT c
   .exact O
   .exfalso;unfold gz at aW;rw[hx] at aW
    split at aW
    .cases aW
    split at aW
    .cases aW
    rw[if_pos (by simp[af,O])] at aW
    cases aW
 .exact ba.bits
theorem aj4 {b:bL} (h:hj b=true):16<=fQ (cT b)/\fQ (cT b)<=128:=by
 obtain⟨E,G,_,_⟩:=Df h;exact TZ E G
theorem aj5 {b:bL} (h:hj b=true): ∀p,p∈cy b->0<=gf p/\gf p < er b/\((mg p).length:Int)=fQ (cT b):=fun p af=>by
 simp only[hj,vj] at h;have:=Mk _ _ _ _ h.1.2 p af;omega
end
section
theorem aj6 {α:Type} (p:α->Bool) {L:List α} {q k:Nat} (aT:mh p L=q) (a2:q≠k):mh p (L.eraseIdx k)=((if q < k then q else q - 1:Nat):Int):=by
 rcases u3 p L with⟨h,_⟩ |⟨j,x,h,hx,af,bw⟩
 .omega
 .obtain rfl:j=q:=av3
  have a1: ∀i:Nat,(L.eraseIdx k)[i]? =if i < k then L[i]? else L[i+1]? :=fun i=>List.getElem?_eraseIdx ..
  have dE:(L.eraseIdx k)[if j < k then j else j - 1]? =some x:=by
   rw[a1]
   by_cases E:j < k
   .rw[if_pos E,if_pos E];exact hx
   .rw[if_neg E,if_neg au5,show j - 1+1=j by omega];exact hx
  have Js:=(ap5.1 dE).1;refine TW Js (fun i b aH O=>?_) (by rw[(ap5.1 dE).2];exact af);rw[a1] at O
  by_cases E:j < k
  .rw[if_pos E] at aH;rw[if_pos au5] at O;exact bw i b aH O
  .rw[if_neg E] at aH
   split at O
   .exact bw i b au5 O
   .exact bw (i+1) b au5 O
theorem Uu {L:List bL} {nm:ay4} (h:wF L nm=false) {b:bL} (O:b∈L):dh b≠nm:=fun e=>by
 obtain⟨i,aH,rfl⟩:=List.getElem_of_mem O;rcases u3 (fun b=>decide (dh b=nm)) L with⟨_,hn⟩ |⟨k,x,G,_⟩
 .have:=hn i _ (oj aH);simp[e] at this
 .have:wF L nm=true:=by unfold wF;rw[G];simp
  rw[h] at this
  cases this
theorem Uv {L:List bL} {nm:ay4} (h:rG L nm=0):0<=eu L nm/\wF L nm=false:=by
 unfold rG at h
 split at h
 .cases h
 split at h
 .cases h
 .rename_i E G;exact⟨au5,by simpa using G⟩
theorem Mx {L:List bL} (ba:lm L) (nm:ay4):lm (o7 L nm):=by
 unfold o7
 split
 .rename_i aW;obtain⟨E,G⟩:=Uv aW;obtain⟨k,ab⟩: ∃k:Nat,eu L nm=k:=⟨(eu L nm).toNat,au5⟩;rw[ab,Int.toNat_natCast];refine⟨as9 (List.length_eraseIdx_le _ _) ba.len,fun b O=>ba.right b (List.mem_of_mem_eraseIdx O),fun dV b O af=>?_⟩;have aj7:b∈L:=List.mem_of_mem_eraseIdx (List.mem_of_getElem? O);have a2:=Uu G aj7;rw[List.getElem?_eraseIdx] at O
  obtain⟨j,Z,lG⟩: ∃j,L[j]? =some b/\((dV < k/\j=dV)\/(k<=dV/\j=dV+1)):=by
   split at O
   .exact⟨dV,O,.inl ⟨au5,rfl⟩⟩
   .exact⟨dV+1,O,.inr ⟨au5,rfl⟩⟩
  obtain⟨dY,cS⟩:=ba.GW j b Z af;obtain⟨q,aT⟩: ∃q:Nat,eu L (dh b)=q:=⟨(eu L (dh b)).toNat,au5⟩
  have aj8:q≠k:=fun e=>by
   subst e;have b4:=ym L (dh b);have cg:=ym L nm;rw[aT] at b4;rw[ab] at cg;obtain⟨x,hx⟩:=Dm (L:=L) (nm:=nm) au5;rw[hx] at cg;rw[cg] at b4;have b1:=List.find?_some hx;have b2:=List.find?_some b4.symm;simp only[ar5] at b1 b2;exact a2 (b2.symm.trans b1)
  have V:eu (L.eraseIdx k) (dh b)=((if q < k then q else q - 1:Nat):Int):=aj6 _ aT aj8;rw[V]
  split <;>omega
 .exact ba
end
section
def sH (n k:Nat):UInt8:=UInt8.ofNat (n/256 ^k % 256)
def eb (n:Nat):Nat->ay4
 |0=>[]
 |k+1=>sH n k::eb n k
theorem qx (n:Nat): ∀k,(eb n k).length=k
 |0=>rfl
 |k+1=>by simp[eb,qx n k]
theorem Uw (n:Nat): ∀(k i:Nat),i < k->(eb n k)[i]? =some (sH n (k - 1 - i))
 |0,i,h=>by omega
 |k+1,0,h=>by simp[eb]
 |k+1,i+1,h=>by
  simp only[eb,au2];rw[Uw n k i au5]
  congr 2
  omega
theorem Ux (m k:Nat):UInt8.ofNat (((m:Nat):Int)/((2 ^(8*k):Nat):Int) % 256).toNat=sH m k:=by
 unfold sH;have h:(2:Nat) ^(8*k)=256 ^k:=by rw[Nat.pow_mul]
 rw[h]
 congr 1
abbrev W (w:Nat):Prop:=w=1\/w=2\/w=4
theorem My (w:Nat) (hw:W w):Fn Tryz.prog 164 [ac (w:Nat)] [] [] (fK true) []:=by
 refine aU [] Tryz.func164 ?_;refine⟨fun h=>?_,fun E=>?_⟩
 .exact bg
 refine⟨fun h=>?_,fun G=>?_⟩
 .exact bg
 refine⟨fun h=>?_,fun aj=>?_⟩
 .exact bg
 have E: ¬((w:Nat):Int)=1:=mu E;have G: ¬((w:Nat):Int)=2:=mu G;have aj: ¬((w:Nat):Int)=4:=mu aj;unfold W at hw;omega
theorem Uy (n w:Nat) (hw:W w) (hn:n < 256 ^w):Fn Tryz.prog 166 [ac (n:Nat),ac (w:Nat)] [] [] (fK true) []:=by
 have af:(2 ^(8*((w:Nat):Int)).toNat:Nat)=256 ^w/\256 ^w<=4294967296:=by
  rcases hw with rfl |rfl |rfl <;>decide
 refine aU [] Tryz.func166 ?_;refine⟨fun h=>?_,fun E=>?_⟩
 .have h:((w:Nat):Int)=8:=gd h;unfold W at hw;omega
 refine⟨fun h=>?_,fun h=>absurd (show¬(0:Int)<=((n:Nat):Int) from mu h) au5⟩;have na:w<=4:=by unfold W at hw;omega
 refine⟨au5,⟨au5,au5,au5⟩,?_,?_⟩
 .rw[af.1];omega
 refine⟨_,_,_,bp,rfl,aq1 ?_,trivial,rfl⟩;show((n:Nat):Int) < 1*((2 ^(8*((w:Nat):Int)).toNat:Nat):Int);rw[af.1];omega
def eF (w:Nat) (l:ay5):ay4:=l.flatMap fun n=>eb n w
theorem np (w:Nat) (l:ay5):(eF w l).length=l.length*w:=by
 induction l with
 |nil=>simp[eF]
 |cons n l br=>
  simp only[eF,at7,ap1,as5,qx] at br⊢;rw[br,Nat.succ_mul];omega
theorem Uz (w:Nat) {l:ay5} {k:Nat} (h:k < l.length):eF w (l.take (k+1))=eF w (l.take k)++eb l[k] w:=by
 unfold eF;rw[<-u4 h,List.flatMap_append];simp
def sI (l:ay5):List Int:=l.map Int.ofNat
abbrev u7 (l:ay5):List (aa og):=sI l
abbrev UA (l:ay5) (w r k:Nat):aY:=[(0,eO r),(1,ac (w:Nat)),(2,bS og (u7 l)),(17,bS og (u7 l)),(18,ac (l.length:Nat)),(19,ac (k:Nat))]
abbrev UB (l:ay5) (w r k:Nat):aY:=[(0,eO r),(1,ac (w:Nat)),(29,bS og (u7 l)),(30,ac (l.length:Nat)),(31,ac (k:Nat))]
abbrev G7 (l:ay5) (w r k n i:Nat):aY:=[(0,eO r),(1,ac (w:Nat)),(11,ac (n:Nat)),(29,bS og (u7 l)),(30,ac (l.length:Nat)),(31,ac (k:Nat)),(35,ac (w:Nat)),(36,ac (i:Nat))]
abbrev pT (r:Nat) (l:ay4):aw:=[(r,.row 5 .u8 l)]
theorem G8 {l:ay5} {k:Nat} (h:k < l.length):fD (u7 l) k=some ((l[k]:Nat):Int):=by
 show(sI l)[k]? =some _;unfold sI;rw[ar0,oj h];rfl
theorem UC (xs ys:ay4) (n i:Nat) (w:Nat) (aH:i < w):(xs++(eb n w).take i)++[sH n (w - 1 - i)]=xs++(eb n w).take (i+1):=by
 have al:=qx n w;rw[as8,<-u4 (by omega:i < (eb n w).length)]
 congr 2
 have:=Uw n w i aH;rw[oj au5] at this;injection this with this
 rw[this]
theorem yn (xs:ay4) (w:Nat) (l:ay5) (hw:W w) (hf: ∀n,n∈l->n < 256 ^w) (al:l.length<=1000) (hx:xs.length<=1000000000):
  Fn Tryz.prog 116 [eO 1001,ac (w:Nat),bS og (u7 l)] (pT 1001 xs) [1002] (.cf [.one (.own 1002),.one (.d (.bool true))]) (pT 1002 (xs++eF w l)):=by
 have na:w<=4:=by unfold W at hw;omega
 have wv:List.length (u7 l)=l.length:=show(sI l).length=_ by unfold sI;exact aq3 _
 refine aU [] Tryz.func116 ?_;refine ar (My w hw) <| df <| dQ [] (X:=Nat) (UA l w 2001) (fun _=>pT 2001 xs) (fun k=>k<=l.length) (fun k=>l.length - k) 0 (ap7 _) ?_ ?_
 .exact ae.trans (ae.aV 1001 2001 rfl) (ae.sub ⟨rfl,rfl,rfl,rfl,congrArg Int.ofNat wv,rfl,trivial⟩ aA)
 intro k ab;refine⟨fun h=>?_,fun h=>?_⟩
 .have cm:k < l.length:=av4
  exact⟨au5,((l[k]:Nat):Int),G8 cm,ar (Uy l[k] w hw (hf _ (ar3 cm))) <| df ⟨au5,k+1,cm,au5,ae.sub aA aA⟩⟩
 clear h ab;refine dQ [] (X:=Nat) (UB l w 2001) (fun k=>pT 2001 (xs++eF w (l.take k))) (fun k=>k<=l.length) (fun k=>l.length - k) 0 (ap7 _) ?_ ?_
 .exact ae.sub ⟨rfl,rfl,rfl,congrArg Int.ofNat wv,rfl,trivial⟩ ⟨congrArg (fun l=>some (bb.row _ .u8 l)) (as6 xs).symm,trivial⟩
 intro k ab;refine⟨fun h=>?_,fun h=>?_⟩
 .have cm:k < l.length:=av4
  have ax:=Uz w cm;have hn:=hf _ (ar3 cm);have b6:=np w (l.take k);have OX:(l.take k).length*w<=1000*4:=Nat.mul_le_mul aw5 na;refine⟨au5,((l[k]:Nat):Int),G8 cm,?_⟩;generalize l[k]=n at*;generalize eF w (l.take k)=ys at*;have aj9:n < 4294967296:=Nat.lt_of_lt_of_le hn (by rcases hw with rfl |rfl |rfl <;>decide);refine dQ [] (X:=Nat) (G7 l w 2001 k n) (fun i=>pT 2001 ((xs++ys)++(eb n w).take i)) (fun i=>i<=w) (fun i=>w - i) 0 (ap7 _) ?_ ?_
  .exact ae.sub aA ⟨congrArg (fun l=>some (bb.row _ .u8 l)) (as6 (xs++ys)).symm,trivial⟩
  intro i aH;refine⟨fun h=>?_,fun h=>?_⟩
  .have dX:i < w:=by
    have h:(i:Int) < (w:Int):=gd h;omega
   have ai:(8*((w:Int) - 1 - (i:Int))).toNat=8*(w - 1 - i):=av3
   have m1: -9223372036854775808<=(w:Int) - 1/\(w:Int) - 1<=9223372036854775807:=av3
   have m2: -9223372036854775808<=(w:Int) - 1 - (i:Int)/\(w:Int) - 1 - (i:Int)<=9223372036854775807:=av3
   have m3: -9223372036854775808<=8*((w:Int) - 1 - (i:Int))/\8*((w:Int) - 1 - (i:Int))<=9223372036854775807:=av3
   have jb:0<=(n:Int)/\0<=8*((w:Int) - 1 - (i:Int))/\8*((w:Int) - 1 - (i:Int))<=64:=av3
   refine⟨m1,m2,m3,jb,⟨Int.emod_nonneg _ au6,Int.emod_lt_of_pos _ au6⟩,?_,rfl,?_⟩
   .show((xs++ys)++(eb n w).take i).length+1<=4294967296;rw[ap1,ap1,ap8];omega
   refine⟨au5,i+1,dX,au5,ae.trans (ae.sub (K':=G7 l w 49 k n (i+1)) (B':=pT 49 ((xs++ys)++(eb n w).take (i+1))) aA ⟨congrArg (fun l=>some (bb.row _ .u8 l)) ?_,trivial⟩) (ae.aV 49 2001 rfl)⟩;rw[<-UC (xs++ys) [] n i w dX,<-Ux,<-ai];rfl
  .have dX:i=w:=by
    have h: ¬(i:Int) < (w:Int):=mu h;omega
   subst dX;refine⟨au5,k+1,cm,au5,ae.sub aA ⟨?_,trivial⟩⟩;rw[ax,List.take_of_length_le (by rw[qx];omega),as8];rfl
 have cm:k=l.length:=by
     have: ¬k < l.length:=av4
     omega
 subst cm;rw[aq9];exact⟨_,_,_,ae.aV 2001 1002 rfl,rfl,aA,aA,rfl⟩
theorem G9 (w:Nat) (l:ay5) (hw:W w) (hf: ∀n,n∈l->n < 256 ^w) (al:l.length<=1000):
  Fn Tryz.prog 116 [kJ .dD,ac (w:Nat),bS og (u7 l)] [] [1002] (.cf [.one (.own 1002),.one (.d (.bool true))]) (pT 1002 (eF w l)):=by
 have na:w<=4:=by unfold W at hw;omega
 have wv:List.length (u7 l)=l.length:=show(sI l).length=_ by unfold sI;exact aq3 _
 obtain⟨xs,sa⟩: ∃xs:ay4,xs=[]:=⟨_,rfl⟩;have hx:xs.length<=1000000000:=by rw[sa];decide
 rw[show eF w l=xs++eF w l by rw[sa];rfl];refine aU [] Tryz.func116 ?_;refine ar (My w hw) <| df <| dQ [] (X:=Nat) (UA l w 2001) (fun _=>pT 2001 xs) (fun k=>k<=l.length) (fun k=>l.length - k) 0 (ap7 _) ?_ ?_
 .exact ae.trans (ae.nil 0 2001 5 .u8 rfl rfl) (ae.sub ⟨rfl,rfl,rfl,rfl,congrArg Int.ofNat wv,rfl,trivial⟩ ⟨congrArg (fun l=>some (bb.row _ .u8 l)) sa.symm,trivial⟩)
 intro k ab;refine⟨fun h=>?_,fun h=>?_⟩
 .have cm:k < l.length:=av4
  exact⟨au5,((l[k]:Nat):Int),G8 cm,ar (Uy l[k] w hw (hf _ (ar3 cm))) <| df ⟨au5,k+1,cm,au5,ae.sub aA aA⟩⟩
 clear h ab;refine dQ [] (X:=Nat) (UB l w 2001) (fun k=>pT 2001 (xs++eF w (l.take k))) (fun k=>k<=l.length) (fun k=>l.length - k) 0 (ap7 _) ?_ ?_
 .exact ae.sub ⟨rfl,rfl,rfl,congrArg Int.ofNat wv,rfl,trivial⟩ ⟨congrArg (fun l=>some (bb.row _ .u8 l)) (as6 xs).symm,trivial⟩
 intro k ab;refine⟨fun h=>?_,fun h=>?_⟩
 .have cm:k < l.length:=av4
  have ax:=Uz w cm;have hn:=hf _ (ar3 cm);have b6:=np w (l.take k);have OX:(l.take k).length*w<=1000*4:=Nat.mul_le_mul aw5 na;refine⟨au5,((l[k]:Nat):Int),G8 cm,?_⟩;generalize l[k]=n at*;generalize eF w (l.take k)=ys at*;have aj9:n < 4294967296:=Nat.lt_of_lt_of_le hn (by rcases hw with rfl |rfl |rfl <;>decide);refine dQ [] (X:=Nat) (G7 l w 2001 k n) (fun i=>pT 2001 ((xs++ys)++(eb n w).take i)) (fun i=>i<=w) (fun i=>w - i) 0 (ap7 _) ?_ ?_
  .exact ae.sub aA ⟨congrArg (fun l=>some (bb.row _ .u8 l)) (as6 (xs++ys)).symm,trivial⟩
  intro i aH;refine⟨fun h=>?_,fun h=>?_⟩
  .have dX:i < w:=by
    have h:(i:Int) < (w:Int):=gd h;omega
   have ai:(8*((w:Int) - 1 - (i:Int))).toNat=8*(w - 1 - i):=av3
   have m1: -9223372036854775808<=(w:Int) - 1/\(w:Int) - 1<=9223372036854775807:=av3
   have m2: -9223372036854775808<=(w:Int) - 1 - (i:Int)/\(w:Int) - 1 - (i:Int)<=9223372036854775807:=av3
   have m3: -9223372036854775808<=8*((w:Int) - 1 - (i:Int))/\8*((w:Int) - 1 - (i:Int))<=9223372036854775807:=av3
   have jb:0<=(n:Int)/\0<=8*((w:Int) - 1 - (i:Int))/\8*((w:Int) - 1 - (i:Int))<=64:=av3
   refine⟨m1,m2,m3,jb,⟨Int.emod_nonneg _ au6,Int.emod_lt_of_pos _ au6⟩,?_,rfl,?_⟩
   .show((xs++ys)++(eb n w).take i).length+1<=4294967296;rw[ap1,ap1,ap8];omega
   refine⟨au5,i+1,dX,au5,ae.trans (ae.sub (K':=G7 l w 49 k n (i+1)) (B':=pT 49 ((xs++ys)++(eb n w).take (i+1))) aA ⟨congrArg (fun l=>some (bb.row _ .u8 l)) ?_,trivial⟩) (ae.aV 49 2001 rfl)⟩;rw[<-UC (xs++ys) [] n i w dX,<-Ux,<-ai];rfl
  .have dX:i=w:=by
    have h: ¬(i:Int) < (w:Int):=mu h;omega
   subst dX;refine⟨au5,k+1,cm,au5,ae.sub aA ⟨?_,trivial⟩⟩;rw[ax,List.take_of_length_le (by rw[qx];omega),as8];rfl
 have cm:k=l.length:=by
     have: ¬k < l.length:=av4
     omega
 subst cm;rw[aq9];exact⟨_,_,_,ae.aV 2001 1002 rfl,rfl,aA,aA,rfl⟩
end
section
def gE (s:ay4) (w:Nat):ay4:=eb s.length w++s
theorem yo (s:ay4) (w:Nat):(gE s w).length=w+s.length:=by unfold gE;rw[ap1,qx]
theorem Dn (xs s:ay4) (w:Nat) (hw:W w) (ax:s.length < 256 ^w) (al:s.length<=1000000000) (hx:xs.length<=1000000000):
  Fn Tryz.prog 118 [eO 1001,bU s,ac (w:Nat)] (pT 1001 xs) [1002] (.cf [.one (.own 1002),.one (.d (.bool true))]) (pT 1002 (xs++gE s w)):=by
 have na:w<=4:=by unfold W at hw;omega
 have o8:=np w [s.length];refine aU [] Tryz.func118 ?_;refine ar (Fn.aV [(1002,2002)] (yn xs w [s.length] hw (fun n hn=>by simp only[aq2] at hn;subst hn;exact ax) au7 hx)) <| df ⟨?_,rfl,?_⟩
 .show(xs++eF w [s.length]).length+s.length<=4294967296;rw[ap1,o8,List.length_singleton];omega
 refine⟨_,_,_,ae.aV 24 1002 rfl,rfl,aA,⟨congrArg (fun l=>some (bb.row _ .u8 l)) ?_,trivial⟩,rfl⟩;show(xs++eF w [s.length])++s=xs++gE s w;unfold eF gE;simp
end
section
def kx (p:j8):ay4:=eb (gf p).toNat 2++gE (mg p) 2
def j9 (b:bL):ay4:=gE (dH b) 1++gE (dh b) 1++eb (cT b).toNat 1++eb (er b).toNat 2++eb (cy b).length 2++(cy b).flatMap kx
def jg (L:List bL):ay4:=eb L.length 1++L.flatMap j9
structure u9 (b:bL):Prop where
 nm:(dH b).length<=255
 pa:(dh b).length<=255
 bits:0<=cT b/\cT b<=255
 aQ:0<=er b/\er b<=65535
 UD:(cy b).length<=256
 UE: ∀p,p∈cy b->0<=gf p/\gf p<=65535/\(mg p).length<=128
theorem UF {b:bL} (h:u9 b) {p:j8} (af:p∈cy b):(kx p).length<=132:=by
 have:=h.UE p af;unfold kx;rw[ap1,qx,yo];omega
theorem yp {α:Type} (f:α->ay4) (n:Nat): ∀(l:List α),(∀x,x∈l->(f x).length<=n)->(l.flatMap f).length<=l.length*n
 | [],_=>by simp
 |x::l,h=>by
  have E:=h x aq0;have G:=yp f n l fun y aB=>h y (ap2 _ aB)
  simp only[at7,ap1,as5,Nat.succ_mul];omega
theorem UG {b:bL} (h:u9 b):(j9 b).length<=35000:=by
 have E:=yp kx 132 (cy b) fun p af=>UF h af
 have G:(cy b).length*132<=256*132:=Nat.mul_le_mul_right _ h.UD;have:=h.nm;have:=h.pa;unfold j9;simp only[ap1,qx,yo];omega
theorem Mz {α:Type} (f:α->ay4) {l:List α} {k:Nat} (h:k < l.length):(l.take (k+1)).flatMap f=(l.take k).flatMap f++f l[k]:=by
 rw[<-u4 h,List.flatMap_append];simp
theorem Do {x:Int} (h:0<=x):([x]:List Int)=sI [x.toNat]:=by
 show[x]=[((x.toNat:Nat):Int)];rw[show((x.toNat:Nat):Int)=x by omega]
abbrev UH (L:List bL) (r k:Nat):aY:=[(3,eO r),(22,eO 1002),(23,ac (L.length:Nat)),(24,ac (k:Nat))]
abbrev Dp (L:List bL) (r:Nat) (l:ay4):aw:=(r,.row 5 .u8 l)::kw L
abbrev MA (L:List bL) (b:bL) (r k j:Nat):aY:=[(3,eO r),(22,eO 1002),(23,ac (L.length:Nat)),(24,ac (k:Nat)),(62,bS oc (cy b)),(63,ac ((cy b).length:Nat)),(64,ac (j:Nat))]
theorem UI (L:List bL) (cY:L.length<=255) (hw: ∀b,b∈L->u9 b):Fn Tryz.prog 73 [ap 1001] (kw L) [] (bS .u8 (jg L)) (kw L):=by
 refine aU [] Tryz.func73 ?_;refine ar (Fn.aV [(1002,2002)] (G9 1 [L.length] (.inl rfl) (fun n hn=>by simp only[aq2] at hn;omega) au7)) <| dQ [] (X:=Nat) (UH L 2001) (fun k=>Dp L 2001 (eb L.length 1++(L.take k).flatMap j9)) (fun k=>k<=L.length) (fun k=>L.length - k) 0 (ap7 _) ?_ ?_
 .exact ae.trans (cH (UH L 2002 0) (Dp L 2002 (eb L.length 1++(L.take 0).flatMap j9))) (ae.aV 2002 2001 rfl)
 intro k ab
 have KX:((L.take k).flatMap j9).length<=255*35000:=by
  refine as9 (yp j9 35000 _ fun b O=>UG (hw b (List.mem_of_mem_take O))) (Nat.mul_le_mul_right _ ?_);rw[ap8];omega
 refine⟨fun h=>?_,fun h=>?_⟩
 .have cm:k < L.length:=av4
  have ax:=Mz j9 cm;have O:=hw _ (ar3 cm);refine⟨⟨au5,au5⟩,L[k],pR rfl cm,rfl,?_⟩;generalize L[k]=b at*;have E:=O.nm;have G:=O.pa;have aj:=O.bits;have aX:=O.aQ;have bH:=O.UD;have aj':=qx L.length 1;generalize ek:eb L.length 1++(L.take k).flatMap j9=A at*;have apr:A.length<=9000000:=by rw[<-ek,ap1,aj'];omega
  refine ar (Fn.aV [(1001,2001),(1002,2002)] (Dn A (dH b) 1 (.inl rfl) au5 au5 au5)) ?_;have iV:=yo (dH b) 1;refine ar (Fn.aV [(1001,2002),(1002,2003)] (Dn (A++gE (dH b) 1) (dh b) 1 (.inl rfl) au5 au5 (by rw[ap1,iV];omega))) ?_;have gN:=yo (dh b) 1;refine ar (Fn.arg (Fn.aV [(1001,2003),(1002,2004)] (yn (A++gE (dH b) 1++gE (dh b) 1) 1 [(cT b).toNat] (.inl rfl) (fun n hn=>by simp only[aq2] at hn;omega) au7 (by rw[ap1,ap1,iV,gN];omega))) ⟨rfl,rfl,Do aj.1,trivial⟩) ?_;have pt:=np 1 [(cT b).toNat]
  have ao:([er b,((cy b).length:Int)]:List Int)=sI [(er b).toNat,(cy b).length]:=by
   show _=[(((er b).toNat:Nat):Int),(((cy b).length:Nat):Int)];rw[show(((er b).toNat:Nat):Int)=er b by omega]
  refine⟨_,_,_,_,Fn.arg (Fn.aV [(1001,2004),(1002,2005)] (yn (A++gE (dH b) 1++gE (dh b) 1++eF 1 [(cT b).toNat]) 2 [(er b).toNat,(cy b).length] (.inr (.inl rfl)) (fun n hn=>by
   simp only[ap3,List.not_mem_nil,or_false] at hn;rcases hn with rfl |rfl <;>omega) au7 (by rw[ap1,ap1,ap1,iV,gN,pt];simp;omega))) ⟨rfl,rfl,ao,trivial⟩,aA,rfl,?_⟩
  have uw:=np 2 [(er b).toNat,(cy b).length]
  have aW:A++gE (dH b) 1++gE (dh b) 1++eF 1 [(cT b).toNat]++eF 2 [(er b).toNat,(cy b).length]++(cy b).flatMap kx=A++j9 b:=by
   unfold j9 eF;simp[as8]
  have aps:(A++gE (dH b) 1++gE (dh b) 1++eF 1 [(cT b).toNat]++eF 2 [(er b).toNat,(cy b).length]).length<=9100000:=by
   rw[ap1,ap1,ap1,ap1,iV,gN,pt,uw];simp;omega
  generalize A++gE (dH b) 1++gE (dh b) 1++eF 1 [(cT b).toNat]++eF 2 [(er b).toNat,(cy b).length]=Az at*;refine dQ [] (X:=Nat) (MA L b 2001 k) (fun j=>Dp L 2001 (Az++((cy b).take j).flatMap kx)) (fun j=>j<=(cy b).length) (fun j=>(cy b).length - j) 0 (ap7 _) ?_ ?_
  .exact ae.trans (ae.sub (K':=MA L b 2005 k 0) (B':=Dp L 2005 (Az++((cy b).take 0).flatMap kx)) aA ⟨congrArg (fun l=>some (bb.row _ .u8 l)) (as6 Az).symm,rfl,rfl,trivial⟩) (ae.aV 2005 2001 rfl)
  intro j Z;refine⟨fun h=>?_,fun h=>?_⟩
  .have eI:j < (cy b).length:=av4
   have f':=Mz kx eI;obtain⟨dY,cS,dG⟩:=O.UE _ (ar3 eI)
   have hc:(((cy b).take j).flatMap kx).length<=256*132:=by
    refine as9 (yp kx 132 _ fun p af=>UF O (List.mem_of_mem_take af)) (Nat.mul_le_mul_right _ ?_);rw[ap8];omega
   refine⟨au5,(cy b)[j],pR rfl eI,rfl,?_⟩;generalize(cy b)[j]=p at*;generalize((cy b).take j).flatMap kx=UJ at*;refine ar (Fn.arg (Fn.aV [(1001,2001),(1002,2002)] (yn (Az++UJ) 2 [(gf p).toNat] (.inr (.inl rfl)) (fun n hn=>by simp only[aq2] at hn;omega) au7 (by rw[ap1];omega))) ⟨rfl,rfl,Do dY,trivial⟩) ?_;have aka:=np 2 [(gf p).toNat];refine ar (Fn.aV [(1001,2002),(1002,2003)] (Dn (Az++UJ++eF 2 [(gf p).toNat]) (mg p) 2 (.inr (.inl rfl)) au5 au5 (by rw[ap1,ap1,aka];simp;omega))) ⟨au5,j+1,eI,au5,ae.trans (ae.sub (K':=MA L b 2003 k (j+1)) (B':=Dp L 2003 (Az++((cy b).take (j+1)).flatMap kx)) aA ⟨?_,rfl,rfl,trivial⟩) (ae.aV 2003 2001 rfl)⟩;rw[f'];refine congrArg (fun l=>some (bb.row _ .u8 l)) ?_;unfold kx eF;simp[as8];rfl
  .have eI:j=(cy b).length:=by
      have: ¬j < (cy b).length:=av4
      omega
   subst eI;rw[aq9];refine⟨au5,k+1,cm,au5,ae.sub aA ⟨?_,rfl,rfl,trivial⟩⟩;rw[ax,<-as8,ek,aW];rfl
 .have cm:k=L.length:=by
     have: ¬k < L.length:=av4
     omega
  subst cm;exact⟨_,_,_,ae.dW 2001 rfl,rfl,(show eb L.length 1++(L.take L.length).flatMap j9=jg L by rw[aq9];rfl),aA,rfl⟩
end
section
end
section
abbrev fI:Type:=ay4×Int
def mi (n:Nat) (st:fI):ay4:=if st.2≠0\/st.1.length < n then[] else st.1.take n
def nq (n:Nat) (st:fI):fI:=if st.2≠0 then st else if st.1.length < n then(st.1,10) else(st.1.drop n,0)
def oh (l:ay4):Nat:=l.foldl (fun a c=>a*256+c.toNat) 0
theorem MB (l:ay4) (c:UInt8):oh (l++[c])=oh l*256+c.toNat:=by simp[oh,at9]
theorem MC (l:ay4):oh l < 256 ^l.length:=by
 have: ∀(l:ay4),oh l.reverse < 256 ^l.length:=fun l=>by
  induction l with
  |nil=>simp[oh]
  |cons c l br=>
   rw[List.reverse_cons,MB,as5,Nat.pow_succ];have:=c.toNat_lt;omega
 have h:=this l.reverse;simpa using h
theorem UK (n:Nat) (st:fI):(mi n st).length<=n:=by
 unfold mi
 split
 .simp
 .rw[ap8];omega
def fA (w:Nat) (st:fI):fI×Nat:=(nq w st,oh (mi w st))
def qy (w:Nat) (st:fI):fI×ay4:=(nq (fA w st).2 (fA w st).1,mi (fA w st).2 (fA w st).1)
abbrev kV (st:fI):aw:=[(1001,.cells [.d (.ck .u8 st.1),.d (.int .i64 st.2)])]
theorem G' (b:ay4) (O:b.length<=4294967296):Fn Tryz.prog 110 [bS .u8 b] [] [1001] (ap 1001) (kV (b,0)):=by
 refine aU [] Tryz.func110 ?_;refine⟨rfl,?_,rfl,?_⟩
 .show 0+b.length<=4294967296;omega
 exact⟨rfl,_,_,_,ae.trans (ae.dW 5 rfl) (ae.aV 7 1001 rfl),rfl,rfl,aA,rfl⟩
theorem akb (s:ay4) (e k:Int):Fn Tryz.prog 192 [ac k,ap 1002] [(1001,.cells [.d (.ck .u8 s),.d (.int .i64 e)]),(1002,.cells [.ptr 1001 0])] [] (bS .u8 []) [(1001,.cells [.d (.ck .u8 s),.d (.int .i64 (if e=0 then k else e))]),(1002,.cells [.ptr 1001 0])]:=by
 refine aU [] Tryz.func192 ?_;refine⟨fun h=>?_,fun h=>?_⟩
 .rw[if_pos (show e=0 from gd h)];exact bg
 .rw[if_neg (show¬e=0 from mu h)];exact bg
theorem UL (st:fI) (n:Nat):Fn Tryz.prog 163 [ap 1001,ac (n:Nat),fK false] (kV st) [] (bS .u8 (mi n st)) (kV (nq n st)):=by
 obtain⟨s,e⟩:=st;refine aU [] Tryz.func163 ?_;refine⟨rfl,fun h=>?_,fun E=>?_⟩
 .have h:(!decide (e=0))=true:=h;have V: ¬e=0:=av4
  have hx:mi n (s,e)=[]:=by unfold mi;rw[if_pos (.inl V)]
  have ax:nq n (s,e)=(s,e):=by unfold nq;rw[if_pos V]
  rw[hx,ax];exact bg
 have E:(!decide (e=0))=false:=E;have V:e=0:=ax9
 subst V;refine df ⟨fun h=>?_,fun h=>?_⟩
 .have h:(s.length:Int) < (n:Int):=gd h;have hx:mi n (s,0)=[]:=by unfold mi;rw[if_pos (.inr (by show s.length < n;omega))]
  have ax:nq n (s,0)=(s,10):=by unfold nq;rw[if_neg au7,if_pos (by show s.length < n;omega)]
  rw[hx,ax];exact ar (Fn.aV [(1002,3)] (akb s 0 10)) bg
 .have h: ¬(s.length:Int) < (n:Int):=mu h
  have hx:mi n (s,0)=s.take n:=by
   unfold mi;rw[if_neg av9]
  have ax:nq n (s,0)=(s.drop n,0):=by unfold nq;rw[if_neg au7,if_neg (by show¬s.length < n;omega)]
  rw[hx,ax];have m1:0<=(n:Int)/\(n:Int)<=(s.length:Int):=av3
  refine⟨m1,m1,rfl,_,_,_,bp,rfl,rfl,⟨congrArg (fun l:ay4=>some (bb.cells [bC.d (D.ck bx.u8 l),bC.d (D.int IntKind.i64 0)])) ?_,trivial⟩,rfl⟩;show(List.take s.length s).drop ((n:Int)).toNat=s.drop n;rw[aq9];rfl
theorem akc (a:Nat) (c:UInt8):(a*256) ||| c.toNat=a*256+c.toNat:=by
 have h:c.toNat < 2 ^8:=c.toNat_lt;have:=Nat.shiftLeft_add_eq_or_of_lt h a;rw[Nat.shiftLeft_eq] at this;exact this.symm
theorem o9 (st:fI) (w:Nat) (hw:W w):Fn Tryz.prog 111 [ap 1001,ac (w:Nat)] (kV st) [] (ac ((fA w st).2:Nat)) (kV (fA w st).1):=by
 have na:w<=4:=by unfold W at hw;omega
 have al:=UK w st;have cq:=UL st w;show Fn _ _ _ _ _ (ac ((oh (mi w st):Nat):Int)) (kV (nq w st));generalize mi w st=x at*;generalize nq w st=akd at*;have apt:oh x < 4294967296:=Nat.lt_of_lt_of_le (MC x) (as9 (Nat.pow_le_pow_right au6 (show x.length<=4 by omega)) au6);refine aU [] Tryz.func111 ?_;refine ar (My w hw) <| ar cq ⟨fun h=>absurd (show(x.length:Int)=8 from gd h) au5,fun _=>dQ [] (X:=Nat) (fun i=>[(5,ac ((oh (x.take i):Nat):Int)),(27,bS .u8 x),(28,ac (x.length:Nat)),(29,ac (i:Nat))]) (fun _=>kV akd) (fun i=>i<=x.length) (fun i=>x.length - i) 0 (ap7 _) ?_ ?_⟩
 .exact ae.sub aA aA
 intro i aH;refine⟨fun h=>?_,fun h=>?_⟩
 .have dX:i < x.length:=by
   have h:(i:Int) < (x.length:Int):=gd h;omega
  have ax:oh (x.take (i+1))=oh (x.take i)*256+(x[i]).toNat:=by rw[<-u4 dX,MB]
  have he:=MC (x.take i);have uV:256 ^(x.take i).length<=256 ^3:=Nat.pow_le_pow_right au6 aw5;have H:=(x[i]).toNat_lt;refine⟨au5,x[i],pR rfl dX,?_⟩;generalize x[i]=c at*;generalize oh (x.take i)=a at*;have ake:=akc a c
  have ai:((a:Int)*((2 ^(8:Int).toNat:Nat):Int)).toNat=a*256:=by
   show((a:Int)*256).toNat=_;omega
  have m1:0<=(a:Int)/\(0:Int)<=8/\(8:Int)<=64:=av3
  have m2: -9223372036854775808<=(a:Int)*((2 ^(8:Int).toNat:Nat):Int)/\(a:Int)*((2 ^(8:Int).toNat:Nat):Int)<=9223372036854775807:=by
   show -9223372036854775808<=(a:Int)*256/\(a:Int)*256<=9223372036854775807;omega
  have m3: -9223372036854775808<=(c.toNat:Int)/\(c.toNat:Int)<=9223372036854775807:=av3
  have jb:0<=(a:Int)*((2 ^(8:Int).toNat:Nat):Int)/\(a:Int)*((2 ^(8:Int).toNat:Nat):Int)<=9223372036854775807/\0<=(c.toNat:Int)/\(c.toNat:Int)<=9223372036854775807:=by
   show 0<=(a:Int)*256/\(a:Int)*256<=9223372036854775807/\_;omega
  refine⟨m1,m2,m3,jb,au5,i+1,dX,au5,ae.sub ⟨?_,rfl,rfl,rfl,trivial⟩ aA⟩;show(((((a:Int)*((2 ^(8:Int).toNat:Nat):Int)).toNat ||| ((c.toNat:Int)).toNat:Nat)):Int)=((oh (x.take (i+1)):Nat):Int);rw[ax,ai,Int.toNat_natCast,ake]
 .have dX:i=x.length:=by
   have h: ¬(i:Int) < (x.length:Int):=mu h;omega
  subst dX;exact eq bp rfl (show((oh (x.take x.length):Nat):Int)=_ by rw[aq9])
theorem Dq (st:fI) (w:Nat) (hw:W w):Fn Tryz.prog 112 [ap 1001,ac (w:Nat)] (kV st) [] (bU (qy w st).2) (kV (qy w st).1):=by
 have E:=o9 st w hw;have G:=UL (fA w st).1 (fA w st).2;show Fn _ _ _ _ _ (bU (mi (fA w st).2 (fA w st).1)) (kV (nq (fA w st).2 (fA w st).1));generalize(fA w st).2=n at*;generalize(fA w st).1=UM at*;generalize mi n UM=x at*;generalize nq n UM=apu at*;refine aU [] Tryz.func112 ?_;exact ar E <| ar (Fn.arg G aA) bg
theorem UN (st:fI):Fn Tryz.prog 123 [ap 1001] (kV st) [] (ac st.2) (kV st):=by
 refine aU [] Tryz.func123 ?_;exact bg
def qz (st:fI):Int:=if st.2=0/\0 < st.1.length then 11 else st.2
theorem MD (st:fI):Fn Tryz.prog 114 [ap 1001] (kV st) [] (ac (qz st)) (kV st):=by
 obtain⟨s,e⟩:=st;refine aU [] Tryz.func114 ?_;refine⟨fun h=>?_,fun h=>?_⟩
 .have V:e=0:=gd h;refine⟨fun h=>?_,fun h=>?_⟩
  .have h:(0:Int) < (s.length:Int):=gd h;have:qz (s,e)=11:=by unfold qz;rw[if_pos ⟨V,by show 0 < s.length;omega⟩]
   rw[this];exact bg
  .have h: ¬(0:Int) < (s.length:Int):=mu h;have:qz (s,e)=e:=by unfold qz;rw[if_neg (fun bk=>by have G:0 < s.length:=bk.2;omega)]
   rw[this];exact bg
 .have V: ¬e=0:=mu h;have:qz (s,e)=e:=by unfold qz;rw[if_neg (fun bk=>V bk.1)]
  rw[this];exact bg
end
section
end
section
theorem UO (n:Nat): ∀k,eb n (k+1)=eb (n/256) k++[sH n 0]
 |0=>rfl
 |k+1=>by
  show sH n (k+1)::eb n (k+1)=sH (n/256) k::eb (n/256) k++[sH n 0];rw[UO n k,List.cons_append]
  congr 1
  unfold sH;rw[Nat.div_div_eq_div_mul,Nat.pow_succ,Nat.mul_comm 256]
theorem akf (n:Nat): ∀k,n < 256 ^k->oh (eb n k)=n:=by
 intro k
 induction k generalizing n with
 |zero=>intro h;simp at h;subst h;rfl
 |succ k br=>
  intro h;rw[UO,MB,br (n/256) (by rw[Nat.pow_succ] at h;omega)];unfold sH;rw[Nat.pow_zero,Nat.div_one,UInt8.toNat_ofNat'];omega
theorem UP (x t:ay4):nq x.length (x++t,0)=(t,0)/\mi x.length (x++t,0)=x:=by
 unfold nq mi;rw[if_neg au7,if_neg au7,if_neg au7];exact⟨au7,au7⟩
theorem pb {n w:Nat} (h:n < 256 ^w) (t:ay4):fA w (eb n w++t,0)=((t,0),n):=by
 have:=UP (eb n w) t;rw[qx] at this;unfold fA;rw[this.1,this.2,akf n w h]
theorem Dr {w:Nat} {x:ay4} (h:x.length < 256 ^w) (t:ay4):qy w (gE x w++t,0)=((t,0),x):=by
 have E:fA w (gE x w++t,0)=((x++t,0),x.length):=by
  unfold gE;rw[as8];exact pb h _
 have:=UP x t;unfold qy;rw[E];simp only;rw[this.1,this.2]
def u' (st:fI):fI×wE:=((qy 2 (fA 2 st).1).1,(((fA 2 st).2:Int),(qy 2 (fA 2 st).1).2))
def g6 (st:fI):Nat->fI×List wE
 |0=>(st,[])
 |k+1=>((u' (g6 st k).1).1,(g6 st k).2++[(u' (g6 st k).1).2])
def E (st:fI):=qy 1 st
def G (st:fI):=qy 1 (E st).1
def aj (st:fI):=fA 1 (G st).1
def aX (st:fI):=fA 2 (aj st).1
def bH (st:fI):=fA 2 (aX st).1
def UQ (st:fI) (l:List wE):mU:=((E st).2,(G st).2,((aj st).2:Int),((aX st).2:Int),l)
def jS (st:fI):fI×mU:=((g6 (bH st).1 (bH st).2).1,UQ st (g6 (bH st).1 (bH st).2).2)
def oi (lO:fI):Nat->Option (List mU×fI)
 |0=>some ([],lO)
 |k+1=>match oi lO k with
  |none=>none
  |some (l,st)=>if(jS st).1.2=0/\gz (l.map i2) (i2 (jS st).2)=0 then some (l++[(jS st).2],(jS st).1) else none
def yq (s:ay4):Option (List mU):=match oi (fA 1 (s,0)).1 (fA 1 (s,0)).2 with
 |none=>none
 |some (l,st)=>if qz st=0 then some l else none
theorem Ds {L:List bL} (ba:lm L) {b:bL} (O:b∈L):u9 b:=by
 have nm: ∀x,x∈L->(dH x).length<=15:=fun x hx=>by
  have:=ba.right x hx;simp only[hj,gr,vj,ar5] at this;omega
 have aF:=ba.right b O;obtain⟨b4,cg,a3,a4⟩:=Df aF;have a5:=aj4 aF;have gy:=T8 aF;refine⟨by have:=nm b O;omega,?_,au5,au5,gy,fun p af=>?_⟩
 .by_cases af:dh b=[]
  .rw[af];decide
  .obtain⟨x,hx⟩:=Dm (Ut ba O af);have E:=List.find?_some hx;simp only[ar5] at E;have:=nm x (at8 hx);rw[E] at this;omega
 .have:=aj5 aF p af;omega
end
section
theorem Ha (n:Nat) (st:fI):(nq n st).1.length<=st.1.length:=by
 unfold nq
 split
 .exact ap0 _
 .split
  .exact ap0 _
  .rw[at1];omega
theorem akg (n:Nat) (st:fI):(mi n st).length<=st.1.length:=by
 unfold mi
 split
 .simp
 .rw[ap8];omega
theorem Dt (w:Nat) (st:fI):(fA w st).1.1.length<=st.1.length:=Ha w st
theorem ME (w:Nat) (st:fI):(qy w st).1.1.length<=st.1.length/\(qy w st).2.length<=st.1.length:=
 ⟨as9 (Ha _ _) (Ha w st),as9 (akg _ _) (Ha w st)⟩
theorem Hb (w:Nat) (hw:w<=4) (st:fI):(fA w st).2 < 256 ^w:=
 Nat.lt_of_lt_of_le (MC _) (Nat.pow_le_pow_right au6 (UK w st))
theorem UR (st:fI):(u' st).1.1.length<=st.1.length/\(Dg (u' st).2).length<=st.1.length:=by
 have a:=Dt 2 st;have b:=ME 2 (fA 2 st).1;exact⟨as9 b.1 a,as9 b.2 a⟩
theorem US (st:fI): ∀k,(g6 st k).1.1.length<=st.1.length/\(g6 st k).2.length=k/\ ∀p,p∈(g6 st k).2->(Dg p).length<=st.1.length
 |0=>⟨ap0 _,rfl,fun p af=>by cases af⟩
 |k+1=>by
  obtain⟨b4,cg,a3⟩:=US st k;obtain⟨b1,b2⟩:=UR (g6 st k).1;refine⟨as9 b1 b4,by show((g6 st k).2++[_]).length=_;rw[ap1,cg];rfl,fun p af=>?_⟩;rcases aq8.1 af with af |af
  .exact a3 p af
  .simp only[aq2] at af;subst af;exact as9 b2 b4
theorem akh (st:fI):(E st).1.1.length<=st.1.length/\(G st).1.1.length<=st.1.length/\(aj st).1.1.length<=st.1.length/\(aX st).1.1.length<=st.1.length/\(bH st).1.1.length<=st.1.length/\(E st).2.length<=st.1.length/\(G st).2.length<=st.1.length:=by
 have a:=ME 1 st;have b:=ME 1 (E st).1;have c:=Dt 1 (G st).1;have d:=Dt 2 (aj st).1;have e:=Dt 2 (aX st).1;have b4:(E st).1.1.length<=st.1.length:=a.1;have b1:(G st).1.1.length<=(E st).1.1.length:=b.1;have cC:(aj st).1.1.length<=(G st).1.1.length:=c;have hB:(aX st).1.1.length<=(aj st).1.1.length:=d;have ai:(bH st).1.1.length<=(aX st).1.1.length:=e;refine⟨b4,au5,au5,au5,au5,a.2,?_⟩;have:(G st).2.length<=(E st).1.1.length:=b.2;omega
theorem aki {lO:fI} {k:Nat} (h:oi lO k=none): ∀{m:Nat},k<=m->oi lO m=none:=by
 intro m az
 induction m with
 |zero=>
    obtain rfl:k=0:=av3
    exact h
 |succ m br=>
  rcases Nat.lt_or_ge k (m+1) with E |E
  .unfold oi;rw[br au5]
  .obtain rfl:k=m+1:=av3
   exact h
theorem akj {s:ay4} {k:Nat} (ab:k<=(fA 1 (s,0)).2) (h:oi (fA 1 (s,0)).1 k=none):yq s=none:=by
 unfold yq;rw[aki h ab]
theorem UT {lO:fI} {k:Nat} {l:List mU} {st:fI} (h:oi lO k=some (l,st)) (bk: ¬((jS st).1.2=0/\gz (l.map i2) (i2 (jS st).2)=0)):oi lO (k+1)=none:=by
 unfold oi;rw[h];exact if_neg bk
theorem UU {lO:fI} {k:Nat} {l:List mU} {st:fI} (h:oi lO k=some (l,st)) (E:(jS st).1.2=0) (G:gz (l.map i2) (i2 (jS st).2)=0):oi lO (k+1)=some (l++[(jS st).2],(jS st).1):=by
 conv=>lhs;unfold oi
 rw[h];exact if_pos ⟨E,G⟩
abbrev MF (st:fI):Nat×bb:=(2001,.cells [.d (.ck .u8 st.1),.d (.int .i64 st.2)])
abbrev UV (n k:Nat):aY:=[(4,ap 1001),(5,ap 2001),(11,ac (n:Nat)),(12,ac (k:Nat))]
abbrev akk (l:List mU) (st:fI):aw:=MF st::Mn 1002 (l.map i2)
abbrev MG (n k m j:Nat):aY:=[(4,ap 1001),(5,ap 2001),(6,ap 6),(11,ac (n:Nat)),(12,ac (k:Nat)),(24,ac (m:Nat)),(25,ac (j:Nat))]
abbrev F6 (st:fI):List bC:=[.d (.str (E st).2),.d (.str (G st).2),.d (.int .i64 ((aj st).2:Nat)),.d (.int .i64 ((aX st).2:Nat))]
abbrev MH (l:List mU) (lO st:fI) (r:Nat) (bE:List j8):aw:=(r,.row 109 oc bE)::(6,.cells [.d (.str (E lO).2),.d (.str (G lO).2),.d (.int .i64 ((aj lO).2:Nat)),.d (.int .i64 ((aX lO).2:Nat)),.own r])::MF st::Mn 1002 (l.map i2)
def akl:aP:=.cf [.one (.bJ (.pointer none)),.one (.d (.int .i64 180))]
def akm:aP:=.cf [.one (.ptr 1001 0),.one (.d (.int .i64 0))]
set_option maxRecDepth 100000 in
theorem UW (s:ay4) (ax:s.length<=100000000) (d:Option (List mU)) (J:yq s=d):
  match d with
  |some l=>Fn Tryz.prog 72 [bS .u8 s] [] [1001,1002] akm (kw (l.map i2))
  |none=>Fn Tryz.prog 72 [bS .u8 s] [] [] akl []:=by
 cases d
 all_goals
  simp only;refine aU [10] Tryz.func72 ?_;refine ar Mg <| ar (Fn.aV [(1001,2001)] (G' s au5)) <| ar (Fn.aV [(1001,2001)] (o9 (s,0) 1 (.inl rfl))) ?_;have we:=Dt 1 (s,0);have jY:=Hb 1 au6 (s,0);have zB:=fun k h=>akj (s:=s) (k:=k) h
  have akn: ∀l st,oi (fA 1 (s,0)).1 (fA 1 (s,0)).2=some (l,st)->yq s=if qz st=0 then some l else none:=fun l st h=>by unfold yq;rw[h]
  generalize(fA 1 (s,0)).2=n at*;generalize(fA 1 (s,0)).1=lO at*;have we:lO.1.length<=100000000:=as9 we ax;have jY:n < 256:=by simpa using jY
  refine dQ [10] (X:=Nat×List mU×fI) (fun x=>UV n x.1) (fun x=>akk x.2.1 x.2.2) (fun x=>x.1<=n/\oi lO x.1=some (x.2.1,x.2.2)/\x.2.2.1.length<=100000000/\(x.2.1.map i2).length<=64) (fun x=>n - x.1) (0,[],lO) ⟨ap7 _,rfl,we,au7⟩ ?_ ?_
  .exact ae.sub aA aA
  rintro⟨k,l,st⟩ ⟨ab,jK,hp,mK⟩;simp only at ab jK hp mK;refine⟨fun h=>?_,fun h=>?_⟩
  .have cm:k < n:=by
    have h:(k:Int) < (n:Int):=gd h;omega
   obtain⟨b4,cg,a3,a4,a5,gy,yS⟩:=akh st;have az:=Hb 2 au6 (aX st).1;have az:(bH st).2 < 65536:=az;have hF:=Hb 1 au6 (G st).1;have tE:=Hb 2 au6 (aj st).1;refine ar (Fn.aV [(1001,2001)] (Dq st 1 (.inl rfl))) <| ar (Fn.aV [(1001,2001)] (Dq (E st).1 1 (.inl rfl))) <| ar (Fn.aV [(1001,2001)] (o9 (G st).1 1 (.inl rfl))) <| ar (Fn.aV [(1001,2001)] (o9 (aj st).1 2 (.inr (.inl rfl)))) ⟨rfl,ar (Fn.aV [(1001,2001)] (o9 (aX st).1 2 (.inr (.inl rfl)))) <| dQ [10] (X:=Nat) (fun j=>MG n k (bH st).2 j) (fun j=>MH l st (g6 (bH st).1 j).1 2002 ((g6 (bH st).1 j).2.map sG)) (fun j=>j<=(bH st).2) (fun j=>(bH st).2 - j) 0 (ap7 _) ?_ ?_⟩
   .exact ae.trans (ae.vO 6 4 2002 109 oc rfl rfl rfl) (ae.sub aA aA)
   intro j Z;obtain⟨b1,b2,b3⟩:=US (bH st).1 j;refine⟨fun h=>?_,fun h=>?_⟩
   .have eI:j < (bH st).2:=by
     have h:(j:Int) < ((bH st).2:Int):=gd h;omega
    have bm:=UR (g6 (bH st).1 j).1;have sD:(g6 (bH st).1 (j+1)).1=(u' (g6 (bH st).1 j).1).1:=rfl
    have ako:(g6 (bH st).1 (j+1)).2.map sG=(g6 (bH st).1 j).2.map sG++[sG (u' (g6 (bH st).1 j).1).2]:=by
     show((g6 (bH st).1 j).2++[_]).map sG=_;rw[as3];rfl
    have hd:(qy 2 (fA 2 (g6 (bH st).1 j).1).1).2.length<=4294967296:=by
     have:(Dg (u' (g6 (bH st).1 j).1).2).length<=(g6 (bH st).1 j).1.1.length:=bm.2;have this:(qy 2 (fA 2 (g6 (bH st).1 j).1).1).2.length<=(g6 (bH st).1 j).1.1.length:=this;omega
    refine ar (Fn.aV [(1001,2001)] (o9 (g6 (bH st).1 j).1 2 (.inr (.inl rfl)))) <| ar (Fn.aV [(1001,2001)] (Dq (fA 2 (g6 (bH st).1 j).1).1 2 (.inr (.inl rfl)))) ⟨hd,?_,rfl,rfl,?_⟩
    .show((g6 (bH st).1 j).2.map sG).length+1<=4294967296;rw[aq3,b2];omega
    refine⟨au5,j+1,eI,au5,ae.trans (ae.sub (K':=MG n k (bH st).2 (j+1)) (B':=MH l st (g6 (bH st).1 (j+1)).1 36 ((g6 (bH st).1 (j+1)).2.map sG)) aA ⟨?_,rfl,rfl,rfl,rfl,trivial⟩) (ae.aV 36 2002 rfl)⟩;rw[ako];rfl
   .have eI:j=(bH st).2:=by
     have h: ¬(j:Int) < ((bH st).2:Int):=mu h;omega
    subst eI;refine bz [] (ae.trans (cH (MG n k (bH st).2 (bH st).2) (MH l st (g6 (bH st).1 (bH st).2).1 2002 ((g6 (bH st).1 (bH st).2).2.map sG))) (ae.dW 2002 rfl)) <| ar (Fn.aV [(1001,2001)] (UN (g6 (bH st).1 (bH st).2).1)) ⟨fun h=>?_,fun h=>?_⟩
    .have h:(!decide ((jS st).1.2=0))=true:=h;have yr:=zB (k+1) cm (UT jK (fun bk=>by rw[bk.1] at h;cases h))
     first
      |(have G3:=J.symm.trans yr;contradiction)
      |exact bg
    have h:(!decide ((jS st).1.2=0))=false:=h;have V:(jS st).1.2=0:=av4
    have qv:=Mj (l.map i2) (i2 (jS st).2) au5 (show(E st).2.length<=4294967296 by omega) (by
     show((g6 (bH st).1 (bH st).2).2.map sG).length<=1000000
     rw[aq3,b2];omega) (fun p af=>by
     obtain⟨q,aT,rfl⟩:=ar2.1 af;have:=b3 q aT;show(Dg q).length<=4294967296;omega)
    refine ar qv ⟨fun h=>?_,fun h=>?_⟩
    .have h:(!decide (gz (l.map i2) (i2 (jS st).2)=0))=true:=h;have yr:=zB (k+1) cm (UT jK (fun bk=>by rw[bk.2] at h;cases h))
     first
      |(have G3:=J.symm.trans yr;contradiction)
      |exact bg
    .have h:(!decide (gz (l.map i2) (i2 (jS st).2)=0))=false:=h;have ek:gz (l.map i2) (i2 (jS st).2)=0:=av4
     have akp:(l++[(jS st).2]).map i2=gv (l.map i2) (i2 (jS st).2):=by
      unfold gv;rw[if_pos ek,as3];rfl
     refine⟨au5,(k+1,l++[(jS st).2],(jS st).1),⟨cm,UU jK V ek,?_,?_⟩,?_,?_⟩
     .show(g6 (bH st).1 (bH st).2).1.1.length<=100000000;omega
     .have:=(Dh ek).2.2.1;simp only[aq3,ap1,List.length_singleton] at this⊢;omega
     .simp only;omega
     .refine ae.trans (ae.sub (K':=UV n (k+1)) (B':=MF (jS st).1::Mn 1003 ((l++[(jS st).2]).map i2)) aA ⟨rfl,rfl,?_,trivial⟩) (ae.aV 1003 1002 rfl);rw[akp];rfl
  .have cm:k=n:=by
    have h: ¬(k:Int) < (n:Int):=mu h;omega
   subst cm;have aF:=akn l st jK;refine ar (Fn.aV [(1001,2001)] (MD st)) ⟨fun h=>?_,fun h=>?_⟩
   .have h:(!decide (qz st=0))=true:=h;rw[if_neg av4] at aF
    first
     |(have G3:=J.symm.trans aF;contradiction)
     |exact bg
   .have h:(!decide (qz st=0))=false:=h;rw[if_pos av4] at aF
    first
     |(rw[J] at aF;injection aF with aF;subst aF;exact⟨_,_,_,bp,rfl,aA,aA,rfl⟩)
     |(rw[J] at aF;cases aF)
end
section
end
section
theorem UX {k:Nat} (h:k < 8):0<=1*((2 ^k:Nat):Int)/\1*((2 ^k:Nat):Int) < 256:=by
 have af:2 ^k<=2 ^7:=Nat.pow_le_pow_right au6 au5;generalize 2 ^k=y at*;omega
section
variable {P:Program} {ids:ay5} {K:aY} {B:aw}
theorem akq {o:Oper} {T fG:TypeId} {x y:Operand} {m:Int} (ah:o.op= .binOp .shl T x y fG) (hx:a6 K x= .c (.one (.d (.int .u8 1)))) (aB:a6 K y= .c (.one (.d (.int .i64 m)))) (av:0<=m) (E:m < 8) (N:Nat):
  bB P N ids o K B (.c (.one (.d (.int .u8 (1*((2 ^m.toNat:Nat):Int)))))) ⟨[],[],[]⟩:=by
 have m1:x∈o.op.operands:=av2
 have m2:y∈o.op.operands:=av2
 refine bB.val fun K' B' g1 g2 C ρ F fa w aq au=>?_
 have ai:=au.int ((g1 x m1).trans hx);have ao:=au.int ((g1 y m2).trans aB);exact⟨_,IQ ah ai ao au6 av (by simp[IntKind.bits];omega) (.inl ⟨rfl,rfl⟩) (fun _=>UX au5),rfl⟩
theorem akr {a b:Int} (E:0<=a) (G:a < 256) (aj:0<=b) (aX:b < 256):
  IntKind.u8.wrap (((BitVec.ofInt 8 a ||| BitVec.ofInt 8 b).toNat:Nat):Int)=((a.toNat ||| b.toNat:Nat):Int):=by
 have ai:(BitVec.ofInt 8 a).toNat=a.toNat:=ax4
 have ao:(BitVec.ofInt 8 b).toNat=b.toNat:=ax4
 rw[BitVec.toNat_or,ai,ao];have h:a.toNat ||| b.toNat < 2 ^8:=Nat.or_lt_two_pow au5 au5;exact xb (by simp only[t7];omega)
theorem aks {o:Oper} {T fG:TypeId} {x y:Operand} {a b:Int} (ah:o.op= .binOp .or T x y fG) (hx:a6 K x= .c (.one (.d (.int .u8 a)))) (aB:a6 K y= .c (.one (.d (.int .u8 b)))) (E:0<=a) (G:a < 256) (aj:0<=b) (aX:b < 256) (N:Nat):
  bB P N ids o K B (.c (.one (.d (.int .u8 ((a.toNat ||| b.toNat:Nat):Int))))) ⟨[],[],[]⟩:=by
 have m1:x∈o.op.operands:=av2
 have m2:y∈o.op.operands:=av2
 refine bB.val fun K' B' g1 g2 C ρ F fa w aq au=>?_
 have ai:=au.int ((g1 x m1).trans hx);have ao:=au.int ((g1 y m2).trans aB);refine⟨_,?_,rfl⟩;have e:=akr E G aj aX
 have ax:Op.intBits .or .u8 a b=pure (.int .u8 ((a.toNat ||| b.toNat:Nat):Int)):=by
  exact congrArg (fun aC:Int=>(pure (Value.int .u8 aC):Sem Value)) e
 simp only[execOp,ah,ai,ao,eqGuard,binOp,ax];simp[go_sem]
end
def iI (es:List (aa ak×aa ak)) (aC:Int):Bool:=C1 ((b0 (aI:=ak) (aK:=ak) es aC).getD (cL ak))
def ib (es:List (aa ak×aa ak)) (aC:Int):Nat->Nat
 |0=>0
 |k+1=>if iI es (aC+(k:Int))=true then ib es aC k ||| 2 ^k else ib es aC k
theorem UY (es:List (aa ak×aa ak)) (aC:Int): ∀k,ib es aC k < 2 ^k
 |0=>Nat.one_pos
 |k+1=>by
  have h:=UY es aC k;have G:(2:Nat) ^k < 2 ^(k+1):=Nat.pow_lt_pow_right au6 au5;unfold ib
  split
  .exact Nat.or_lt_two_pow au5 G
  .omega
theorem UZ (es:List (aa ak×aa ak)) (aC:Int) {k:Nat} (h:k<=8):ib es aC k < 256:=by
 have E:=UY es aC k;have G:(2:Nat) ^k<=2 ^8:=Nat.pow_le_pow_right au6 h;omega
def pc (es:List (aa ak×aa ak)):Nat->ay4
 |0=>[]
 |n+1=>pc es n++[UInt8.ofNat (ib es (8*(n:Int)) 8)]
theorem MI (es:List (aa ak×aa ak)): ∀n,(pc es n).length=n
 |0=>rfl
 |n+1=>by unfold pc;rw[ap1,MI es n];rfl
def fo (s g:Int):Nat:=((mf s g+7)/8).toNat
theorem Hc {s g:Int} (ax:0<=s/\s<=4096) (a1:1<=g/\g<=64):mf s g<=8*(fo s g:Int)/\(8*(fo s g:Int) < mf s g+8)/\fo s g<=521:=by
 have h:=ye ax a1;unfold fo;omega
def sJ (s g:Int):ay4:=eF 2 [s.toNat]++eF 1 [g.toNat]
theorem U0 (s g:Int):(sJ s g).length=3:=by
 unfold sJ;rw[ap1,np,np];rfl
def encZ (s g:Int) (es:List (aa ak×aa ak)):ay4:=sJ s g++pc es (fo s g)
theorem Hd {s g:Int} (ax:0<=s/\s<=4096) (a1:1<=g/\g<=64) (es:List (aa ak×aa ak)):(encZ s g es).length<=524:=by
 have h:=Hc ax a1;unfold encZ;rw[ap1,U0,MI];omega
abbrev MJ (r:Nat) (j:Nat):aY:=[(0,ap 1001),(3,eO r),(5,ac (8*(j:Int)))]
abbrev akt (r:Nat) (j:Nat) (n k:Nat):aY:=[(0,ap 1001),(3,eO r),(5,ac (8*(j:Int))),(6,.c (.one (.d (.int .u8 (n:Int))))),(33,ac (k:Int))]
abbrev He (s g:Int) (es:List (aa ak×aa ak)) (r:Nat) (x:ay4):aw:=il s g es++[(r,.row 5 .u8 x)]
theorem aku (s g:Int) (es:List (aa ak×aa ak)) (ax:0<=s/\s<=4096) (a1:1<=g/\g<=64):Fn Tryz.prog 120 [ap 1001] (il s g es) [] (bS .u8 (encZ s g es)) (il s g es):=by
 have nB:=GH s g es ax a1;have kN:=ye ax a1;have eJ:=Hc ax a1;have cX:=U0 s g;have iV:=np 2 [s.toNat];have dY:=G9 2 [s.toNat] (.inr (.inl rfl)) (fun n hn=>by simp only[aq2] at hn;omega) au7;have cS:=yn (eF 2 [s.toNat]) 1 [g.toNat] (.inl rfl) (fun n hn=>by simp only[aq2] at hn;omega) au7 (by rw[iV];simp);refine aU [] Tryz.func120 ?_;refine ar (Fn.arg (Fn.aV [(1002,2002)] dY) ⟨rfl,rfl,Do ax.1,trivial⟩) <| ar (Fn.arg (Fn.aV [(1001,2002),(1002,2003)] cS) ⟨rfl,rfl,Do au5,trivial⟩) <| dQ [] (X:=Nat) (fun j=>MJ 2001 j) (fun j=>He s g es 2001 (sJ s g++pc es j)) (fun j=>j<=fo s g) (fun j=>fo s g - j) 0 (ap7 _) ?_ ?_
 .exact ae.trans (ae.sub (K':=MJ 2003 0) (B':=He s g es 2003 (sJ s g++pc es 0)) aA ⟨rfl,rfl,congrArg (fun l=>some (bb.row _ .u8 l)) (as6 _).symm,trivial⟩) (ae.aV 2003 2001 rfl)
 intro j Z;have Z:j<=fo s g:=Z;have vR:=MI es j;refine ar nB ⟨fun H=>?_,fun H=>?_⟩
 .have H:decide (8*(j:Int) < mf s g)=true:=H;have H:=gd H;refine dQ [11] (X:=Nat) (fun k=>akt 2001 j (ib es (8*(j:Int)) k) k) (fun _=>He s g es 2001 (sJ s g++pc es j)) (fun k=>k<=8) (fun k=>8 - k) 0 (ap7 _) ?_ ?_
  .exact ae.sub aA aA
  intro k ab;have ab:k<=8:=ab;have O:=UZ es (8*(j:Int)) ab;refine⟨fun d7=>?_,fun d7=>?_⟩
  .have d7:decide ((k:Int) < 8)=true:=d7;have d7:=gd d7;have cI:c0 (8*(j:Int)+(k:Int)):=av3
   have af:=UX (k:=(k:Int).toNat) au5;have au:ib es (8*(j:Int)) (k+1)=if iI es (8*(j:Int)+(k:Int))=true then ib es (8*(j:Int)) k ||| 2 ^k else ib es (8*(j:Int)) k:=rfl
   refine⟨cI,fun J=>?_,fun J=>?_⟩
   .have J:iI es (8*(j:Int)+(k:Int))=true:=J;rw[if_pos J] at au;refine bt.mI (2000000+47) au6 ?_;refine bt.mI (2000000+48) au6 ?_;refine bz [] (bp) ⟨_,_,fun N=>akq rfl rfl rfl au5 au5 N,rfl,?_⟩;refine⟨_,_,fun N=>aks rfl rfl rfl au5 au5 af.1 af.2 N,rfl,?_⟩;refine⟨au5,k+1,au5,au5,ae.sub ⟨rfl,rfl,rfl,?_,rfl,trivial⟩ aA⟩;rw[au];show((((ib es (8*(j:Int)) k:Nat):Int).toNat ||| (1*((2 ^(k:Int).toNat:Nat):Int)).toNat:Nat):Int)=_;rw[Int.toNat_natCast,Int.one_mul,Int.toNat_natCast,Int.toNat_natCast]
   .have J:iI es (8*(j:Int)+(k:Int))=false:=J;rw[if_neg (by rw[J];decide)] at au;exact⟨au5,k+1,au5,au5,ae.sub ⟨rfl,rfl,rfl,(show((ib es (8*(j:Int)) k:Nat):Int)=((ib es (8*(j:Int)) (k+1):Nat):Int) by rw[au]),rfl,trivial⟩ aA⟩
  .have d7:decide ((k:Int) < 8)=false:=d7;have d7:=mu d7;have mP:k=8:=av3
   subst mP;refine⟨⟨au5,au5⟩,?_,rfl,?_⟩
   .show(sJ s g++pc es j).length+1<=4294967296;rw[ap1];omega
   refine⟨au5,j+1,au5,au5,ae.trans (ae.sub (K':=MJ 53 (j+1)) (B':=He s g es 53 (sJ s g++pc es (j+1))) ⟨rfl,rfl,(show 8*(j:Int)+8=8*((j+1:Nat):Int) by omega),trivial⟩ ⟨rfl,rfl,congrArg (fun l=>some (bb.row _ .u8 l)) ?_,trivial⟩) (ae.aV 53 2001 rfl)⟩;show(sJ s g++pc es j)++[UInt8.ofNat ((ib es (8*(j:Int)) 8:Nat):Int).toNat]=sJ s g++(pc es j++[UInt8.ofNat (ib es (8*(j:Int)) 8)]);rw[Int.toNat_natCast,as8]
 .have H:decide (8*(j:Int) < mf s g)=false:=H;have H:=mu H;have fj:j=fo s g:=av3
  subst fj;exact⟨_,_,_,ae.dW 2001 rfl,rfl,rfl,aA,rfl⟩
def mV (es:List (aa ak×aa ak)) (j:Nat):Nat->ay4
 |0=>[]
 |n+1=>UInt8.ofNat (ib es (8*(j:Int)) 8)::mV es (j+1) n
theorem U1 (es:List (aa ak×aa ak)): ∀(n j:Nat),mV es j n++[UInt8.ofNat (ib es (8*((j+n:Nat):Int)) 8)]=mV es j (n+1)
 |0,j=>rfl
 |n+1,j=>by
  have h:=U1 es n (j+1);rw[show j+1+n=j+(n+1) by omega] at h;show UInt8.ofNat (ib es (8*(j:Int)) 8)::(mV es (j+1) n++[UInt8.ofNat (ib es (8*((j+(n+1):Nat):Int)) 8)])=_;rw[h];rfl
theorem U2 (es:List (aa ak×aa ak)): ∀n,pc es n=mV es 0 n
 |0=>rfl
 |n+1=>by
  have h:=U1 es n 0;rw[Nat.zero_add] at h;rw[<-h,<-U2 es n];rfl
theorem U3 (es:List (aa ak×aa ak)) (aC:Int): ∀(m i:Nat),(ib es aC m).testBit i=(decide (i < m)&&iI es (aC+(i:Int)))
 |0,i=>by simp[ib]
 |m+1,i=>by
  unfold ib;have h:=U3 es aC m i
  by_cases e:i=m
  .subst e
   split
   .rename_i af;rw[Nat.testBit_or,h,Nat.testBit_two_pow_self,af];simp
   .rename_i af;rw[h];simp at af;simp[af]
  .have ao:decide (i < m+1)=decide (i < m):=by
    by_cases q:i < m
    .rw[aq1 q,aq1 au5]
    .rw[ar8 q,ar8 au5]
   rw[ao]
   split
   .rw[Nat.testBit_or,h,Nat.testBit_two_pow_of_ne au5];simp
   .exact h
theorem akv (es:List (aa ak×aa ak)) (aC:Int) {k:Nat} (h:k < 8):(ib es aC 8/2 ^k) &&& 1=if iI es (aC+(k:Int))=true then 1 else 0:=by
 have E:=U3 es aC 8 k;rw[aq1 h,Bool.true_and] at E;rw[<-E,<-Nat.shiftRight_eq_div_pow,Nat.testBit,Nat.and_comm];have G:1 &&& (ib es aC 8 >>> k)<=1:=Nat.and_le_left;generalize 1 &&& (ib es aC 8 >>> k)=y at*;have:y=0\/y=1:=av3
 rcases this with rfl |rfl <;>rfl
def hk (es:List (aa ak×aa ak)):Nat->List (aa ak×aa ak)
 |0=>[]
 |n+1=>if iI es (n:Int)=true then dr (aI:=ak) (aK:=ak) (hk es n) (n:Int) (1:Int) else hk es n
def j' (s g:Int) (es:List (aa ak×aa ak)):Prop:= ∀aC,iI es aC=true->0<=aC/\aC < mf s g
abbrev akw (j:Nat):aY:=[(4,ap 3001),(5,ap 4001),(7,ac (8*(j:Int)))]
abbrev akx (j:Nat) (n k:Nat):aY:=[(4,ap 3001),(5,ap 4001),(7,ac (8*(j:Int))),(8,ac (n:Int)),(35,ac (k:Int))]
abbrev U4 (s g:Int) (es:List (aa ak×aa ak)) (x:ay4):aw:=[(3001,.cells [.d (.ck .u8 x),.d (.int .i64 0)]),(4001,.cells [.d (.int .i64 s),.d (.int .i64 g),.mp 4002]),(4002,.map ak ak es)]
theorem aky (n:Nat):eb n 1=[UInt8.ofNat n]:=by
 show[UInt8.ofNat (n/256 ^0 % 256)]=_;rw[Nat.pow_zero,Nat.div_one]
 congr 1
 exact UInt8.ofNat_mod_size (x:=n)
theorem akz (s g:Int) (es:List (aa ak×aa ak)) (ah:n3 s g=true) (ba:j' s g es):Fn Tryz.prog 113 [bS .u8 (encZ s g es)] [] [2001,2002] (.cf [.one (.ptr 2001 0),dw 0])
  [(2001,.cells [.d (.int .i64 s),.d (.int .i64 g),.mp 2002]),(2002,.map ak ak (hk es (8*fo s g)))]:=by
 obtain⟨ax,akA,sE⟩:=Gv ah;have a1:1<=g/\g<=64:=⟨akA,sE⟩;have kN:=ye ax a1;have eJ:=Hc ax a1;have cY:=Hd ax a1 es;have fq:=G' (encZ s g es) au5;have ky:=o9 (encZ s g es,0) 2 (.inr (.inl rfl))
 have aW:encZ s g es=eb s.toNat 2++(eb g.toNat 1++mV es 0 (fo s g)):=by
  unfold encZ sJ eF;rw[U2];simp
 rw[aW,pb au5] at ky;have cI:=o9 (eb g.toNat 1++mV es 0 (fo s g),0) 1 (.inl rfl);rw[pb au5] at cI;have ky:Fn Tryz.prog 111 [ap 1001,ac 2] (kV (encZ s g es,0)) [] (ac ((s.toNat:Nat):Int)) (kV (eb g.toNat 1++mV es 0 (fo s g),0)):=by rw[aW];exact ky
 have cI:Fn Tryz.prog 111 [ap 1001,ac 1] (kV (eb g.toNat 1++mV es 0 (fo s g),0)) [] (ac ((g.toNat:Nat):Int)) (kV (mV es 0 (fo s g),0)):=cI;have MK:((s.toNat:Nat):Int)=s:=av3
 have akB:((g.toNat:Nat):Int)=g:=av3
 rw[MK] at ky;rw[akB] at cI;have V:Fn Tryz.prog 123 [ap 1001] (kV (mV es 0 (fo s g),0)) [] (ac 0) (kV (mV es 0 (fo s g),0)):=UN (mV es 0 (fo s g),0);have l1:=LI s g ah;have lM:Fn Tryz.prog 114 [ap 1001] (kV ([],0)) [] (ac 0) (kV ([],0)):=MD ([],0);generalize encZ s g es=X at*;refine aU [] Tryz.func113 ?_;refine ar (Fn.aV [(1001,3001)] fq) <| ar (Fn.aV [(1001,3001)] ky) <| ar (Fn.aV [(1001,3001)] cI) <| ar (Fn.aV [(2001,4001),(2002,4002)] l1) <| df <| ar (Fn.aV [(1001,3001)] V) <| df <| dQ [] (X:=Nat) (fun j=>akw j) (fun j=>U4 s g (hk es (8*j)) (mV es j (fo s g - j))) (fun j=>j<=fo s g) (fun j=>fo s g - j) 0 (ap7 _) ?_ ?_
 .exact ae.sub aA aA
 intro j Z;have Z:j<=fo s g:=Z;refine ar (Fn.aV [(1001,4001),(1002,4002)] (GH s g (hk es (8*j)) ax a1)) ⟨fun H=>?_,fun H=>?_⟩
 .have H:decide (8*(j:Int) < mf s g)=true:=H;have H:=gd H;have O:=UZ es (8*(j:Int)) (ap0 8);have dF:=o9 (eb (ib es (8*(j:Int)) 8) 1++mV es (j+1) (fo s g - (j+1)),0) 1 (.inl rfl);rw[pb au5] at dF
  have bl:mV es j (fo s g - j)=eb (ib es (8*(j:Int)) 8) 1++mV es (j+1) (fo s g - (j+1)):=by
   rw[show fo s g - j=(fo s g - (j+1))+1 by omega,aky];rfl
  rw[<-bl] at dF;refine ar (Fn.aV [(1001,3001)] dF) <| dQ [] (X:=Nat) (fun k=>akx j (ib es (8*(j:Int)) 8) k) (fun k=>U4 s g (hk es (8*j+k)) (mV es (j+1) (fo s g - (j+1)))) (fun k=>k<=8) (fun k=>8 - k) 0 (ap7 _) ?_ ?_
  .exact ae.sub aA aA
  intro k ab;have ab:k<=8:=ab;refine⟨fun d7=>?_,fun d7=>?_⟩
  .have d7:decide ((k:Int) < 8)=true:=d7;have d7:=gd d7;have akC:=akv es (8*(j:Int)) (k:=k) au5
   have b9:hk es (8*j+(k+1))=if iI es (8*(j:Int)+(k:Int))=true then dr (aI:=ak) (aK:=ak) (hk es (8*j+k)) (8*(j:Int)+(k:Int)) (1:Int) else hk es (8*j+k):=by
    show(if iI es ((8*j+k:Nat):Int)=true then dr (aI:=ak) (aK:=ak) (hk es (8*j+k)) ((8*j+k:Nat):Int) (1:Int) else hk es (8*j+k))=_;rw[show((8*j+k:Nat):Int)=8*(j:Int)+(k:Int) by omega]
   have akD:=ba (8*(j:Int)+(k:Int));generalize ib es (8*(j:Int)) 8=n at*;have jY:n/2 ^k<=n:=Nat.div_le_self _ _
   have aB:0<=((n/2 ^k:Nat):Int)/\((n/2 ^k:Nat):Int)<=9223372036854775807:=by
    generalize n/2 ^k=y at*;omega
   have aT:((n:Int)/((2 ^(k:Int).toNat:Nat):Int))=((n/2 ^k:Nat):Int):=by rw[Int.toNat_natCast];exact(Int.natCast_ediv _ _).symm
   have ld:c0 (8*(j:Int)+(k:Int)):=av3
   refine⟨⟨au5,au5,au5⟩,?_⟩;refine⟨_,_,fun N=>F7 rfl rfl rfl (by rw[aT];exact aB.1) (by rw[aT];exact aB.2) au5 au5 N,rfl,?_⟩
   have uz:((((n:Int)/((2 ^(k:Int).toNat:Nat):Int)).toNat &&& (1:Int).toNat:Nat):Int)=if iI es (8*(j:Int)+(k:Int))=true then 1 else 0:=by
    rw[aT,Int.toNat_natCast];show(((n/2 ^k) &&& 1:Nat):Int)=_;rw[akC]
    split <;>rfl
   refine⟨fun J=>?_,fun J=>?_⟩
   .have J:=gd J
    have af:iI es (8*(j:Int)+(k:Int))=false:=by
     cases af:iI es (8*(j:Int)+(k:Int))
     .rfl
     .rw[af,if_pos rfl] at uz;have J:((((n:Int)/((2 ^(k:Int).toNat:Nat):Int)).toNat &&& (1:Int).toNat:Nat):Int)=0:=J;omega
    rw[af,if_neg au6] at b9;exact⟨au5,k+1,au5,au5,ae.sub aA ⟨rfl,rfl,congrArg (fun l=>some (bb.map ak ak l)) b9.symm,trivial⟩⟩
   .have J:=mu J
    have af:iI es (8*(j:Int)+(k:Int))=true:=by
     cases af:iI es (8*(j:Int)+(k:Int))
     .rw[af,if_neg au6] at uz;exact absurd uz J
     .rfl
    rw[af,if_pos rfl] at b9;have aR:=akD af;exact⟨ld,ar (Fn.aV [(1001,4001),(1002,4002)] (GH s g (hk es (8*j+k)) ax a1)) ⟨fun h=>absurd (gd h) au5,fun _=>⟨ld,trivial,au5,k+1,au5,au5,ae.sub aA ⟨rfl,rfl,congrArg (fun l=>some (bb.map ak ak l)) b9.symm,trivial⟩⟩⟩⟩
  .have d7:decide ((k:Int) < 8)=false:=d7;have d7:=mu d7;have mP:k=8:=av3
   subst mP;refine⟨au5,j+1,au5,au5,ae.sub ⟨rfl,rfl,(show 8*(j:Int)+8=8*((j+1:Nat):Int) by omega),trivial⟩ aA⟩
 .have H:decide (8*(j:Int) < mf s g)=false:=H;have H:=mu H;have fj:j=fo s g:=av3
  subst fj;rw[Nat.sub_self];exact ar (Fn.aV [(1001,3001)] lM) <| df ⟨_,_,_,ae.trans (ae.aV 4001 2001 rfl) (ae.aV 4002 2002 rfl),rfl,aA,aA,rfl⟩
end
end Go.Proofs.YthnboghbhgapcaaGreat
