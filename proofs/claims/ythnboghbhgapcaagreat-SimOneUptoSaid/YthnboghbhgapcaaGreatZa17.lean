/-
A part of the proof of this claim: lemmas, with no condition beyond what each says.
-/
import Derived.Deep.RegionLaw
import Derived.Test.YthnboghbhgapcaaGreatZa16
set_option linter.unusedVariables false
set_option linter.unusedSimpArgs false
set_option maxRecDepth 10000
namespace Go.Proofs.YthnboghbhgapcaaGreat
open Go.RowKit Go.Proofs
section
theorem Da:(Tryz.prog.info? 65).map (fun i=>(i.zero,i.size,i.bytes))=some (some (.agg #[.string ⟨#[]⟩,.string ⟨#[]⟩,.int .i64 0,.int .i64 0,.slice none 0 0]),5,72):=by kernel_rfl
set_option maxRecDepth 100000 in
set_option maxHeartbeats 400000 in
theorem ajE (v:Value) (n:Nat) (xs:List Value) (w:World) (az:w.ownsRow 0 65 5 v n xs) (hn:n<=4294967296) (E: ∀u∈xs,u.oneCell'=true) (nK:0 < n):
  Calls Tryz.prog 127 #[v] w fun e w'=> ∃cU,e= .returned cU/\w'.ownsRow w.heap.size 65 5 cU n xs/\Below w.heap.size w w':=by
 have ho:=eL.qO az;obtain⟨b,o,c,rfl,-,-,-,-,-⟩:=ho.at_ nK;have ajF:=Lib.hid ho;have BY:=Lib.hid E;clear az ho E;have xT:=Lib.run_eql_slice_nil (P:=Tryz.prog)
 go_enter Tryz.func127,Tryz.ntmps127
 go_wp2_with (at_builtin;refine N2 _ rfl (.tmp 5) (.tmp 6) _ rfl w.heap.size 65 _ 5 72 Tryz.underlying104 Da rfl au5 (.slice (some ⟨w.heap.size,0,none⟩) 0 0) 0 [] rfl (by exact⟨au7,.inr ⟨w.heap.size,0,#[],rfl,ap0 _,heap_alloc_new w _,ap0 _,au6,rfl,rfl⟩⟩) _ (.slice (some ⟨b,o,none⟩) n c) n xs rfl (by exact ajF.out.below (sU _ _)) BY.out (by simp only[maxLen];omega) au5 au7 ?_;intro cU dz du nB iR)
 go_wp2
 go_ret
 refine⟨cU,rfl,by simpa using du,?_⟩;exact(sU _ _).grown nB au7 (fun k ab=>by simp[Value.ownBlock] at ab;omega)
theorem ajG {P:Program} (w:World) (t ty e:TypeId) (aB:Value) (size bytes:Nat) (cr:P.underlying t=some (.slice e)) (pY:(P.info? e).map (fun i=>(i.zero,i.size,i.bytes))=some (some aB,size,bytes))
  (g k cap:Nat) (c8:List Value) (a6:w.heap[g]? =some (.cells c8.toArray e (0,0))) (D:Nat->Prop) (hZ:Value) (m:Nat) (eS:List Value) (aF:eL D w size hZ m eS) (E: ∀u∈eS,u.oneCell'=true)
  (Bh:k+m<=cap) (k1:(k+m)*size<=c8.length):
  ∃w',(Builtin.append_ #[t,t] ty #[.slice (some ⟨g,0,none⟩) k cap,hZ]).run P w= .ok (.slice (some ⟨g,0,none⟩) (k+m) cap) w'/\w'.heap[g]? =some (.cells (splice c8 (k*size) eS).toArray e (0,0))/\w.grownBy w' (some g):=by
 obtain⟨i,aI,aR,yG,tQ⟩:=info_parts pY;subst yG;obtain⟨aq,A,c,rfl,_,_,al⟩:=aF;have ajH:k*i.size+eS.length<=c8.length:=by rw[aq,<-Nat.add_mul];exact k1
 rcases A with _ |ad
 .have aA:m=0:=by
   rcases Nat.eq_zero_or_pos m with aw |aw
   .exact aw
   .obtain⟨b,o,h,_⟩:=al aw
    cases h
  subst aA;have hn:eS=[]:=List.eq_nil_of_length_eq_zero (by simpa using aq);subst hn;refine⟨w,?_,by simpa[splice] using a6,World.grownBy.refl w _⟩;have ajI:k<=cap:=by omega
  simp[Builtin.append_,run_underlying cr,sizeOf,typeInfo,aI,Builtin.lenOf,Builtin.firstCells,ajI,storeCells]
 .have wQ: ∀j u,eS[j]? =some u->w.cell? (ad.add j)=some u:=by
   intro j u a8;rcases Nat.eq_zero_or_pos m with aw |aw
   .subst aw;have hn:eS=[]:=List.eq_nil_of_length_eq_zero (by simpa using aq);subst hn;simp at a8
   .obtain⟨b,o,h,_,_,H⟩:=al aw;injection h with h
    subst h;rw[pX];exact H j u a8
  refine⟨_,run_append_room (P:=P) w t ty e i cr aI g k cap c8.toArray a6 ad m c eS aq wQ E Bh (by simpa using ajH),?_,⟨rfl,rfl,rfl,by simp[World.setRow],fun dU _ ab=>setRow_other w g dU _ (fun e=>ab (by rw[e]))⟩⟩;rw[setRow_heap w g c8.toArray _ e (0,0) a6];simp[splice]
theorem Ua {P:Program} (w:World) {c9:Array Oper} {o:Oper} {a:Act} {K:Act->World->Prop} {Q:Exit->Act->World->Prop} {ue:Prop} (tR:o.guard=none) (s x:Operand) (t:TypeId)
  (ai:o.op= .call {callee:=.builtin .append,args:= #[s,x],argTypes:= #[t,t]})
  (e:TypeId) (aB:Value) (size bytes:Nat) (cr:P.underlying t=some (.slice e)) (pY:(P.info? e).map (fun i=>(i.zero,i.size,i.bytes))=some (some aB,size,bytes))
  (g k cap:Nat) (ax:a.eval s= .slice (some ⟨g,0,none⟩) k cap) (c8:List Value) (a6:w.heap[g]? =some (.cells c8.toArray e (0,0))) (D:Nat->Prop) (hZ:Value) (m:Nat) (eS:List Value) (hx:a.eval x=hZ) (aF:eL D w size hZ m eS) (E: ∀u∈eS,u.oneCell'=true)
  (Bh:k+m<=cap) (k1:(k+m)*size<=c8.length)
  (h: ∀w',w'.heap[g]? =some (.cells (splice c8 (k*size) eS).toArray e (0,0))->w.grownBy w' (some g)->K (a.put o.dst (.slice (some ⟨g,0,none⟩) (k+m) cap)) w'):
  if Region.wanted o (yielded c9 a.tmps)=true then Oper.wp P o a w K Q else ue:=by
 have hw:Region.wanted o (yielded c9 a.tmps)=true:=by simp[Region.wanted,tR]
 rw[if_pos hw];obtain⟨w',dO,G,al⟩:=ajG (P:=P) w t o.type e aB size bytes cr pY g k cap c8 a6 D hZ m eS aF E Bh k1;unfold Oper.wp execOp;simp only[ai,resolve,invoke,builtin,Sem.run_bind,Sem.run_pure,Result.andThen_ok,List.map_toArray,aq4,au0,ax,hx,dO];exact h w' G al
theorem ajJ {P:Program} (w:World) (t ty e:TypeId) (aB:Value) (size bytes:Nat) (cr:P.underlying t=some (.slice e)) (pY:(P.info? e).map (fun i=>(i.zero,i.size,i.bytes))=some (some aB,size,bytes)) (nz:aB.cells.size=size) (Mh: ∀u∈aB.cells.toList,u.oneCell'=true)
  (g o c:Nat) (c8:List Value) (a6:w.heap[g]? =some (.cells c8.toArray e (0,0))) (k1:o+size<=c8.length):
  ∃w',(Builtin.clear_ #[t] ty #[.slice (some ⟨g,o,none⟩) 1 c]).run P w= .ok (.tuple #[]) w'/\w'.heap[g]? =some (.cells (splice c8 o aB.cells.toList).toArray e (0,0))/\w.grownBy w' (some g):=by
 obtain⟨i,aI,aR,yG,tQ⟩:=info_parts pY
 have vz:(Builtin.zeroCells aB.cells 1).toList=aB.cells.toList:=by
  have:Builtin.zeroCells aB.cells 1=aB.cells:=by
   apply Array.ext
   .simp[Builtin.zeroCells]
   .intro j E G;simp[Builtin.zeroCells,Nat.mod_eq_of_lt G,G]
  rw[this]
 have eu:=run_storeCells_at P g o e aB.cells.toList 0 c8.toArray w a6 (by simp[nz];omega) Mh;simp only[Nat.add_zero] at eu;refine⟨w.setRow g (List.take o c8++aB.cells.toList++List.drop (o+aB.cells.toList.length) c8).toArray,by simp[Builtin.clear_,run_underlying cr,zeroValue,typeInfo,aI,aR,vz,eu],?_,⟨rfl,rfl,rfl,by simp[World.setRow],fun dU _ ab=>setRow_other w g dU _ (fun e=>ab (by rw[e]))⟩⟩;rw[setRow_heap w g c8.toArray _ e (0,0) a6];simp[splice]
theorem Ub {P:Program} (w:World) {c9:Array Oper} {rest:List Oper} {o:Oper} {a:Act} {Q:Exit->Act->World->Prop} (tR:o.guard=none) (x:Operand) (t:TypeId)
  (ai:o.op= .call {callee:=.builtin .clear,args:= #[x],argTypes:= #[t]})
  (e:TypeId) (aB:Value) (size bytes:Nat) (cr:P.underlying t=some (.slice e)) (pY:(P.info? e).map (fun i=>(i.zero,i.size,i.bytes))=some (some aB,size,bytes)) (nz:aB.cells.size=size) (Mh: ∀u∈aB.cells.toList,u.oneCell'=true)
  (g off c:Nat) (hx:a.eval x= .slice (some ⟨g,off,none⟩) 1 c) (c8:List Value) (a6:w.heap[g]? =some (.cells c8.toArray e (0,0))) (k1:off+size<=c8.length)
  (h: ∀w',w'.heap[g]? =some (.cells (splice c8 off aB.cells.toList).toArray e (0,0))->w.grownBy w' (some g)->wpList P c9 Q rest (a.put o.dst (.tuple #[])) w'):wpList P c9 Q (o::rest) a w:=
 wpList_plain tR fun _ di=>by
  obtain⟨w',dO,G,al⟩:=ajJ (P:=P) w t o.type e aB size bytes cr pY nz Mh g off c c8 a6 k1;unfold Oper.wp execOp;simp only[ai,resolve,invoke,builtin,Sem.run_bind,Sem.run_pure,Result.andThen_ok,List.map_toArray,aq4,au0,hx,dO];exact di _ _ (h w' G al)
theorem Uc {α:Type} (L:List α) (o:Nat):splice L o []=L:=by simp[splice]
theorem Ud {w w':World} {r:Option Nat} (h:w.drew.grownBy w' r):w.grownBy w' r:=⟨h.os,h.tape,h.output,h.size,h.block⟩
theorem Ue: ∀u∈(Value.agg #[.string ⟨#[]⟩,.string ⟨#[]⟩,.int .i64 0,.int .i64 0,.slice none 0 0]).cells.toList,u.oneCell'=true:=by simp[Value.cells,Value.oneCell']
theorem Uf {ij:World} {B g m cap:Nat} {c8 xs vW:List Value} (c':B<=g) (bl:ij.heap[g]? =some (.cells (splice c8 (m*5) vW).toArray 65 (0,0))) (aA:m<=cap) (y3:cap<=maxLen) (H:c8.length=cap*5) (aR:m*5+vW.length<=cap*5) (hx:c8.take (m*5)=xs) (vA:xs.length=m*5):
  ij.ownsRow B 65 5 (.slice (some ⟨g,0,none⟩) m cap) m xs:=by
 refine⟨vA,.inr ⟨g,cap,_,rfl,c',bl,aA,y3,?_,?_⟩⟩
 .simp only[List.size_toArray];rw[length_splice _ _ _ au5,H]
 .simp only[splice];rw[List.take_append_of_le_length (by simp;omega),List.take_of_length_le (by simp;omega)];exact hx
set_option maxRecDepth 100000 in
set_option maxHeartbeats 1000000 in
theorem ajK (B g k:Nat) (xs:List Value) (w:World) (az:w.ownsRow B 65 5 (.slice (some ⟨g,0,none⟩) (k+1) (k+1)) (k+1) xs):
  Calls Tryz.prog 126 #[.slice (some ⟨g,0,none⟩) (k+1) (k+1),.int .i64 k,.int .i64 (k+1)] w fun e w'=>e= .returned (.slice (some ⟨g,0,none⟩) k (k+1))/\
   w'.ownsRow B 65 5 (.slice (some ⟨g,0,none⟩) k (k+1)) k (xs.take (k*5))/\w.grownBy w' (some g):=by
 obtain⟨aq,G⟩:=az;rcases G with⟨h,_⟩ |⟨he,IQ,c8,V,c',bl,DR,y3,gj,mZ⟩
 .cases h
 injection V with aj ap bm
 injection aj with aj
 injection aj with aj
 subst aj bm;clear ap;unfold maxLen at y3;have ajL:(0:Int)<=(k:Int):=by omega
 have oG:(k:Int)<=(k:Int)+1:=by omega
 have zB:((k:Int) == (k:Int)+1)=false:=by simp;omega
 have qu:(0:Int)<=(k:Int)+1:=by omega
 have uD:(k:Int)+1<=((k+1:Nat):Int):=by omega
 have kT:k<=k+1:=by omega
 have Mi:=Lib.hid bl;have uY:=Lib.hid (show c8.toList.length=(k+1)*5 by rw[Array.length_toList,gj]);have Db:=Lib.hid aq;have Mj:=Lib.hid mZ;have Mk:=Lib.hid c';have iD:eL (fun _=>True) w 5 (.slice (some ⟨g,0,none⟩) 0 0) 0 []:=⟨au7,_,_,rfl,au5,by simp only[maxLen];omega,fun h=>absurd h au5⟩;have Ml:=Lib.hid iD;clear bl gj aq mZ iD
 go_enter Tryz.func126,Tryz.ntmps126
 go_wp2
 go_region_law ((refine Ua _ au9 (.tmp 22) (.tmp 25) _ au9 65 _ 5 72 Tryz.underlying104 Da g k (k+1) au9 c8.toList (by exact Mi.out) (fun _=>True) _ 0 [] au9 (by exact Ml.out) (fun u a8=>by cases a8) au5 (by rw[uY.out];omega) ?_;intro e0 Mm Mn))
 all_goals rw[Nat.add_zero]
 all_goals
  go_wp2_with (refine Ub _ rfl (.tmp 31) 104 rfl 65 _ 5 72 Tryz.underlying104 Da rfl Ue g (k*5) 1 rfl _ Mm (by rw[Uc,uY.out];omega) ?_;intro ij GQ Mo)
  go_ret
  refine⟨rfl,?_,(Ud Mn).trans Mo⟩;rw[Uc] at GQ;refine Uf Mk.out GQ au5 (by simp only[maxLen];omega) uY.out (by simp[Value.cells];omega) ?_ (by rw[ap8,Db.out];omega);rw[<-Mj.out,List.take_take]
  congr 1
  omega
set_option maxRecDepth 100000 in
set_option maxHeartbeats 2000000 in
theorem ajM (B g m cap k:Nat) (xs:List Value) (w:World) (az:w.ownsRow B 65 5 (.slice (some ⟨g,0,none⟩) (m+1) cap) (m+1) xs) (ab:k<=m) (ba: ¬cap=k+1) (E: ∀u∈xs,u.oneCell'=true):
  Calls Tryz.prog 126 #[.slice (some ⟨g,0,none⟩) (m+1) cap,.int .i64 k,.int .i64 (k+1)] w fun e w'=>e= .returned (.slice (some ⟨g,0,none⟩) m cap)/\
   w'.ownsRow B 65 5 (.slice (some ⟨g,0,none⟩) m cap) m (xs.take (k*5)++xs.drop ((k+1)*5))/\w.grownBy w' (some g):=by
 obtain⟨aq,G⟩:=az;rcases G with⟨h,_⟩ |⟨he,IQ,c8,V,c',bl,DR,y3,gj,mZ⟩
 .cases h
 injection V with aj ap bm
 injection aj with aj
 injection aj with aj
 subst aj bm;clear ap;unfold maxLen at y3;have ajL:(0:Int)<=(k:Int):=by omega
 have oG:(k:Int)<=(k:Int)+1:=by omega
 have zB:((k:Int) == (k:Int)+1)=false:=by simp;omega
 have qu:(0:Int)<=(k:Int)+1:=by omega
 have oH:(k:Int)+1<=((m+1:Nat):Int):=by omega
 have apb:(k:Int)+1<=(m:Int)+1:=by omega
 have uD:((m+1:Nat):Int)<=(cap:Int):=by omega
 have apc:(m:Int)+1<=(cap:Int):=by omega
 have apd:(k:Int)+1<=(cap:Int):=by omega
 have ape: ¬cap=0:=by omega
 have i8: ¬cap=m:=by omega
 have kT:k<=cap:=by omega
 have wz:k+1<=m+1:=by omega
 have apf:k+1<=cap:=by omega
 have apg:m<=m+1:=by omega
 have aph:m+1<=cap:=by omega
 have Mi:=Lib.hid bl;have BY:=Lib.hid E;have uY:=Lib.hid (show c8.toList.length=cap*5 by rw[Array.length_toList,gj]);have Db:=Lib.hid aq;have Mj:=Lib.hid mZ;have Mk:=Lib.hid c';have b6:(xs.drop ((k+1)*5)).length=(m+1 - (k+1))*5:=by rw[at1,aq];omega
 have Dc:=Lib.hid b6;have cQ:=k0 bl
 have B3: ∀j u,(xs.drop ((k+1)*5))[j]? =some u->w.cell? ⟨g,(k+1)*5+j,none⟩=some u:=by
  intro j u aa;rw[List.getElem?_drop,<-mZ,List.getElem?_take] at aa
  split at aa
  .simpa[World.cell?,bl] using aa
  .cases aa
 have iD: ∀q c,q=m+1 - (k+1)->q<=c->c<=maxLen->eL (fun _=>True) w 5 (.slice (some ⟨g,(k+1)*5,none⟩) q c) (m+1 - (k+1)) (xs.drop ((k+1)*5)):=fun q c aV G al=>by
  subst aV;exact⟨b6,_,_,rfl,G,al,fun h=>⟨g,_,rfl,trivial,cQ,B3⟩⟩
 have Ml:=Lib.hid iD;have zq:k+(m+1 - (k+1))=m:=by omega
 have ajN:=Lib.hid zq;have ajO:=Lib.hid (show k+(m - k)=m by omega);clear bl E gj aq mZ b6 B3 iD zq
 go_enter Tryz.func126,Tryz.ntmps126
 go_wp2
 go_region_law ((refine Ua _ au9 (.tmp 22) (.tmp 25) _ au9 65 _ 5 72 Tryz.underlying104 Da g k cap au9 c8.toList (by exact Mi.out) (fun _=>True) _ (m+1 - (k+1)) (xs.drop ((k+1)*5)) au9 (by exact Ml.out _ _ au5 au5 (by simp only[maxLen];omega)) (fun u a8=>BY.out u (List.mem_of_mem_drop a8)) au5 (by rw[uY.out];omega) ?_;intro e0 Mm Mn))
 all_goals try (first |rw[ajN.out] |rw[ajO.out])
 all_goals
  go_wp2_with (refine Ub _ rfl (.tmp 31) 104 rfl 65 _ 5 72 Tryz.underlying104 Da rfl Ue g (m*5) (cap - m) rfl _ Mm (by rw[length_splice _ _ _ (by rw[Dc.out,uY.out];omega),uY.out];omega) ?_;intro ij GQ Mo)
  go_ret
  refine⟨rfl,?_,(Ud Mn).trans Mo⟩;refine Uf Mk.out GQ au5 (by simp only[maxLen];omega) (by rw[length_splice _ _ _ (by rw[Dc.out,uY.out];omega),uY.out]) (by simp[Value.cells];omega) ?_ (by rw[ap1,ap8,Dc.out,Db.out];omega)
  have aj:List.take (k*5) c8.toList=xs.take (k*5):=by
   rw[<-Mj.out,List.take_take];congr 1;omega
  unfold splice;rw[aj,<-as6,List.take_append_of_le_length (by rw[ap1,ap8,Dc.out,Db.out];omega)];exact List.take_of_length_le (by rw[ap1,ap8,Dc.out,Db.out];omega)
theorem ajP (B g m cap k:Nat) (xs:List Value) (w:World) (az:w.ownsRow B 65 5 (.slice (some ⟨g,0,none⟩) (m+1) cap) (m+1) xs) (ab:k<=m) (E: ∀u∈xs,u.oneCell'=true):
  Calls Tryz.prog 126 #[.slice (some ⟨g,0,none⟩) (m+1) cap,.int .i64 k,.int .i64 (k+1)] w fun e w'=>e= .returned (.slice (some ⟨g,0,none⟩) m cap)/\
   w'.ownsRow B 65 5 (.slice (some ⟨g,0,none⟩) m cap) m (xs.take (k*5)++xs.drop ((k+1)*5))/\w.grownBy w' (some g):=by
 by_cases H:cap=k+1
 .have ajQ:m=k:=by
   rcases az.2 with⟨h,_⟩ |⟨he,IQ,c8,V,_,_,al,_⟩
   .cases h
   .injection V with _ _ bm
    omega
  subst ajQ H;refine(ajK B g m xs w az).mono fun e w' ⟨V,G,al⟩=>⟨V,?_,al⟩
  rw[List.drop_of_length_le (by have:=az.1;omega),as5];exact G
 .exact ajM B g m cap k xs w az ab H E
end
section
theorem Ug {I:Nat->Prop} {w:World} {u:bx} {xs:List (Z u)} {cs:List Value} (aR:0 < aS u) (aq:cs.length=xs.length*aS u) (h:gK I w u xs cs): ∀v∈cs,v.oneCell'=true:=fun v az=>by
 obtain⟨k,ab,rfl⟩:=List.getElem_of_mem az;obtain⟨aj,ap,bm⟩:=DU (show k < xs.length*aS u by omega);obtain⟨cU,E,G⟩:=cp.one u _ _ (h (k/aS u) _ (oj aj)) (k % aS u) ap;rw[bm,oj ab] at E;injection E with E
 rw[E];exact G
theorem cp.Uh {I:Nat->Prop} {w:World} {u:bx} {x:Z u} {c bX:Nat->Option Value} (h:cp I w u x c) (H: ∀j v,j < aS u->c j=some v->bX j=some v):cp I w u x bX:=
 cp.mk u x bX (cp.wf u x c h) fun j aa=>by
  obtain⟨v,E,G⟩:=cp.cell u x c j h aa;exact⟨v,H j v aa E,G⟩
theorem ajR {I:Nat->Prop} {w:World} {u:bx} {xs:List (Z u)} {cs:List Value} {k:Nat} (ab:k < xs.length) (aq:cs.length=xs.length*aS u) (h:gK I w u xs cs):gK I w u (xs.eraseIdx k) (cs.take (k*aS u)++cs.drop ((k+1)*aS u)):=fun i x aI=>by
 rw[List.getElem?_eraseIdx] at aI;have Gq:(k+1)*aS u<=xs.length*aS u:=Nat.mul_le_mul_right _ ab;have cn:(k+1)*aS u=k*aS u+aS u:=Nat.succ_mul k (aS u);have bw:(cs.take (k*aS u)).length=k*aS u:=by rw[ap8];omega
 split at aI
 .rename_i uO;have:(i+1)*aS u<=k*aS u:=Nat.mul_le_mul_right _ uO;rw[Nat.succ_mul] at this;refine(h i x aI).Uh fun j v aa az=>?_
  rw[ar7 au5,List.getElem?_take,if_pos au5];exact az
 .rename_i uO;have:k*aS u<=i*aS u:=Nat.mul_le_mul_right _ au5;have aj:(i+1)*aS u=i*aS u+aS u:=Nat.succ_mul i (aS u);refine(h (i+1) x aI).Uh fun j v aa az=>?_
  rw[ar9 au5,List.getElem?_drop,bw];rw[<-az]
  congr 1
  omega
set_option maxRecDepth 100000 in
theorem ajS (L:List bM) (aw:0 < L.length) (cW:L.length<=4294967296):
  Fn Tryz.prog 127 [eM 1001] [(1001,.row 65 lK L)] [1002] (eM 1002) [(1001,.row 65 lK L),(1002,.row 65 lK L)]:=by
 refine⟨au8,?_⟩;intro ρ F I w bW bb cV bj eo b6 dt
 match bW,b6 with
 | [v],_=>
  obtain rfl:v=(ρ 1001).er:=dt 0 _ v rfl rfl;have bl:=cV 1001 _ rfl;obtain⟨tk,k3,cs,yd,jJ⟩:=bl;refine(ajE (ρ 1001).er L.length cs w yd cW (Ug au6 yd.1 jJ) aw).mono ?_;rintro e w' ⟨cU,rfl,du,O⟩;rcases du.2 with⟨_,hn⟩ |⟨g,cap,c8,rfl,a6,sB,w6,aA,gj,mZ⟩
  .omega
  have Cl:g < w'.heap.size:=(Array.getElem?_eq_some_iff.1 sB).1;have aY:cd I w I w':=fun b fM=>⟨fM,O.block b (bb b fM)⟩
  refine⟨_,c5 ρ 1002 ⟨g,some ⟨g,0,none⟩,L.length,cap⟩,c5 F 1002 (fun b=>b=g),rfl,cJ.mn O,?_,I,aY,?_,?_,?_,?_,?_⟩
  .intro c H;exact de _ _ (fun e=>H (by simp[e]))
  .intro b fM;exact⟨Nat.lt_of_lt_of_le (bb b fM) O.size,.inl fM⟩
  .intro c ch H;rw[ca] at H
   split at H
   .rename_i dP;subst dP;injection H with H;subst H
    rw[de _ _ au6,de _ _ au6];exact⟨tk,k3,cs,Oa yd (fun b hc=>O.block b ((bj 1001 _ rfl b ((tk b).2 hc)).1)),jJ.mono aY⟩
   .rw[ca] at H
    split at H
    .rename_i dP;subst dP;injection H with H;subst H
     rw[c6,c6];exact⟨fun b=>⟨fun e=>by subst e;rfl,fun e=>by injection e with e;exact e.symm⟩,fun b e=>by injection e with e;exact e.symm,cs,⟨du.1,.inr ⟨g,cap,c8,rfl,ap7 _,sB,w6,aA,gj,mZ⟩⟩,jJ.mono aY⟩
    .simp[ah] at H
  .intro c ch H b pM;rw[ca] at H
   split at H
   .rename_i dP;subst dP;rw[de _ _ au6] at pM;have:=bj 1001 _ rfl b pM;exact⟨Nat.lt_of_lt_of_le this.1 O.size,this.2,.inl ⟨1001,_,rfl,pM⟩⟩
   .rw[ca] at H
    split at H
    .rename_i dP;subst dP;rw[c6] at pM;subst pM;exact⟨Cl,fun fM=>by have:=bb _ fM;omega,.inr a6⟩
    .simp[ah] at H
  .intro c bX ch ch' b H cF ba gQ hc;rw[ca] at H cF;have key: ∀b,F 1001 b-> ¬b=g:=fun b gQ e=>by have:=(bj 1001 _ rfl b gQ).1;omega
   split at H
   .rename_i dP;subst dP;rw[de _ _ au6] at gQ;rw[if_neg ba,ca] at cF
    split at cF
    .rename_i dP;subst dP;rw[c6] at hc;exact key b gQ hc
    .simp[ah] at cF
   .rw[ca] at H
    split at H
    .rename_i dP;subst dP;rw[c6] at gQ
     split at cF
     .rename_i dP;subst dP;rw[de _ _ au6] at hc;exact key b hc gQ
     .rw[ca,if_neg ba] at cF;simp[ah] at cF
    .simp[ah] at H
  .show _=bo.er (c5 ρ 1002 _ 1002);rw[c6];rfl
set_option maxRecDepth 100000 in
theorem ajT (L:List bM) (k:Nat) (ab:k < L.length):
  Fn Tryz.prog 126 [eM 1001,ae k,ae (k+1)] [(1001,.row 65 lK L)] [1002] (eM 1002) [(1002,.row 65 lK (L.eraseIdx k))]:=by
 refine⟨au8,?_⟩;intro ρ F I w bW bb cV bj eo b6 dt
 match bW,b6 with
 | [v,kH,v2],_=>
  obtain rfl:v=(ρ 1001).er:=dt 0 _ v rfl rfl;obtain rfl:kH= .int .i64 k:=dt 1 _ kH rfl rfl;obtain rfl:v2= .int .i64 (k+1):=dt 2 _ v2 rfl rfl;have bl:=cV 1001 _ rfl;obtain⟨tk,k3,cs,yd,jJ⟩:=bl;have rV:=Ug au6 yd.1 jJ;have Ui:=yd;obtain⟨dJ,G⟩:=yd;rcases G with⟨_,hn⟩ |⟨g,cap,c8,GR,a6,sB,w6,aA,gj,mZ⟩
  .omega
  have GS:F 1001 g:=(tk g).2 (by rw[GR];rfl);obtain⟨m,Gg⟩: ∃m,L.length=m+1:=⟨L.length - 1,au5⟩;rw[GR,Gg] at Ui;rw[GR,Gg];have api:g < w.heap.size:=(Array.getElem?_eq_some_iff.1 sB).1;refine(ajP 0 g m cap k cs w Ui au5 rV).mono ?_;rintro e w' ⟨rfl,du,nB⟩;have aY:cd I w I w':=fun b fM=>⟨fM,nB.block b (bb b fM) (fun e=>by injection e with e;subst e;exact(bj 1001 _ rfl _ GS).2 fM)⟩
  have gY:(L.eraseIdx k).length=m:=by rw[List.length_eraseIdx_of_lt ab];omega
  have apj: ∀b,F 1001 b↔b=g:=fun b=>by rw[tk,GR];exact⟨fun e=>by injection e with e;exact e.symm,fun e=>by subst e;rfl⟩
  have dA: ∀c ch,ah [(1002,bd.row 65 lK (L.eraseIdx k))] c=some ch->c=1002/\ch=bd.row 65 lK (L.eraseIdx k):=fun c ch H=>by
   rw[ca] at H
   split at H
   .rename_i dP;injection H with H;exact⟨dP.symm,H.symm⟩
   .simp[ah] at H
  refine⟨_,c5 ρ 1002 ⟨g,some ⟨g,0,none⟩,m,cap⟩,c5 F 1002 (fun b=>b=g),rfl,N5 nB (fun b e=>by injection e with e;subst e;exact⟨1001,_,rfl,GS⟩),?_,I,aY,?_,?_,?_,?_,?_⟩
  .intro c H;exact de _ _ (fun e=>H (by simp[e]))
  .intro b fM;exact⟨Nat.lt_of_lt_of_le (bb b fM) nB.size,.inl fM⟩
  .intro c ch H;obtain⟨rfl,rfl⟩:=dA c ch H;rw[c6,c6];refine⟨fun b=>⟨fun e=>by subst e;rfl,fun e=>by injection e with e;exact e.symm⟩,fun b e=>by injection e with e;exact e.symm,_,?_,ajR ab dJ (jJ.mono aY)⟩;rw[gY];exact du
  .intro c ch H b pM;obtain⟨rfl,rfl⟩:=dA c ch H;rw[c6] at pM;subst pM;have:=bj 1001 _ rfl _ GS;exact⟨Nat.lt_of_lt_of_le this.1 nB.size,this.2,.inl ⟨1001,_,rfl,GS⟩⟩
  .intro c bX ch ch' b H cF ba;exact absurd ((dA c ch H).1.trans (dA bX ch' cF).1.symm) ba
  .show _=bo.er (c5 ρ 1002 _ 1002);rw[c6];rfl
end
section
def rC (L:List bM) (nm:List UInt8):Int:=if eq L nm < 0 then 181 else if wy L nm=true then 1 else 0
def o3 (L:List bM) (nm:List UInt8):List bM:=if rC L nm=0 then L.eraseIdx (eq L nm).toNat else L
theorem ajU (L:List bM) (nm:List UInt8) (cW:L.length<=1000000):Fn Tryz.prog 74 [ao 1001,bV nm] (kw L) [1003] (ae (rC L nm)) (TU (o3 L nm)):=by
 have ye:=GJ nm L au5;have GT:=aju 125 _ nm L au5 fun b=>ajt b nm
 rcases uV (fun x=>decide (dH x=nm)) L with⟨h,_⟩ |⟨k,x,h,hx,_⟩
 .have hf:eq L nm= -1:=h;have aY:rC L nm=181:=by unfold rC;rw[if_pos au5]
  have b9:o3 L nm=L:=by unfold o3;rw[if_neg au5]
  rw[hf] at ye;rw[aY,b9];refine aW [] Tryz.func74 rfl rfl rfl rfl ?_;refine⟨rfl,au ye ?_⟩;refine⟨fun h=>?_,fun h=>absurd h au6⟩;exact⟨_,_,_,af.aX 1002 1003 rfl,rfl,rfl,ac,rfl⟩
 .have hf:eq L nm=k:=h;have ab:k < L.length:=(ap5.1 hx).1;rw[hf] at ye;have aY:rC L nm=if wy L nm=true then 1 else 0:=by unfold rC;rw[if_neg au5]
  refine aW [] Tryz.func74 rfl rfl rfl rfl ?_;refine⟨rfl,au ye ?_⟩;refine⟨fun h=>absurd (gd h) au5,fun h=>?_⟩;refine au (Fn.aX [(1001,3)] GT) ?_;refine⟨fun G=>?_,fun G=>?_⟩
  .have ag:wy L nm=true:=G;rw[ag,if_pos rfl] at aY;have b9:o3 L nm=L:=by unfold o3;rw[if_neg au5]
   rw[aY,b9];exact⟨_,_,_,af.aX 1002 1003 rfl,rfl,rfl,ac,rfl⟩
  .have ag:wy L nm=false:=G;rw[ag,if_neg au7] at aY;have b9:o3 L nm=L.eraseIdx k:=by unfold o3;rw[if_pos aY,hf];rfl
   rw[aY,b9];refine au (Fn.aX [(1001,1002),(1002,2001)] (ajS L au5 au5)) ?_;refine⟨au5,au (Fn.aX [(1001,2001),(1002,2002)] (ajT L k ab)) ?_⟩;exact⟨_,_,_,af.aX 2002 1003 rfl,rfl,rfl,ac,rfl⟩
def GU (L:List bM) (o:tE):List bM:=if decide (T4 o=1)=true then o3 (Ar L o) (ajy o) else Ar L o
structure GV (L:List bM):Prop where
 len:L.length<=64
 fK:(L.map dH).Nodup
theorem ajV {L:List bM} {nm:List UInt8} (h:eq L nm < 0):nm∉L.map dH:=fun aA=>by
 obtain⟨b,O,rfl⟩:=ar2.1 aA;have:=ajD O;omega
theorem GV.op {L:List bM} (h:GV L) (o:tE):GV (GU L o):=by
 have E:GV (Ar L o):=by
  unfold Ar
  split
  .unfold gr
   split
   .rename_i aY;obtain⟨_,ap,bm,_⟩:=C' aY;refine⟨by simp;omega,?_⟩;rw[as3,List.nodup_append];refine⟨h.fK,au7,fun a ha b O=>?_⟩;simp only[aq4,au0,aq0] at O;subst O;exact fun e=>ajV ap (e▸ha)
   .exact h
  .exact h
 unfold GU
 split
 .unfold o3
  split
  .exact⟨as9 (List.length_eraseIdx_le _ _) E.len,List.Sublist.nodup ((List.eraseIdx_sublist _ _).map dH) E.fK⟩
  .exact E
 .exact E
end
section
end
section
end
section
end
section
theorem ajW {α:Type} (p:α->Bool): ∀(L:List α),(if 0<=mg p L then fB L (mg p L).toNat else none)=L.find? p:=by
 intro L;rcases uV p L with⟨h,hn⟩ |⟨k,x,h,hx,ag,bw⟩
 .rw[h,if_neg au5];refine(List.find?_eq_none.2 fun x hx=>?_).symm;obtain⟨i,aI,rfl⟩:=List.getElem_of_mem hx;rw[hn i _ (oj aI)];simp
 .rw[h,if_pos au5,Int.toNat_natCast];unfold fB;rw[hx];refine(List.find?_eq_some_iff_getElem.2 ⟨ag,k,(ap5.1 hx).1,(ap5.1 hx).2,fun j aa=>?_⟩).symm;have:=bw j _ aa (oj (by have:=(ap5.1 hx).1;omega));simpa using this
theorem yf (L:List bM) (nm:List UInt8):o2 L (eq L nm)=L.find? (fun b=>decide (dH b=nm)):=ajW _ L
theorem Mp {α:Type} (p:α->Bool): ∀(L:List α) (k:Nat) (x:α),L[k]? =some x->p x=false->(L.eraseIdx k).find? p=L.find? p
 | [],k,x,h,_=>by simp at h
 |a::L,0,x,h,ag=>by
  simp only[aq5,ap4] at h;subst h;simp[List.find?_cons,ag]
 |a::L,k+1,x,h,ag=>by
  simp only[au2] at h;rw[List.eraseIdx_cons_succ,List.find?_cons,List.find?_cons,Mp p L k x h ag]
theorem GW (L:List bM) (nm:List UInt8):eq L nm < 0↔L.find? (fun b=>decide (dH b=nm))=none:=by
 rw[<-yf];unfold o2;constructor
 .intro h;rw[if_neg au5]
 .intro h;rcases uV (fun b=>decide (dH b=nm)) L with⟨G,_⟩ |⟨k,x,G,hx,_⟩
  .unfold eq;omega
  .have G:eq L nm=k:=G;rw[if_pos au5,G,Int.toNat_natCast] at h;unfold fB at h;rw[hx] at h
   cases h
end
section
structure Dd (L:List bM):Prop extends lk L where
 bits: ∀b,b∈L->dh b≠[]-> ∀x,L.find? (fun y=>decide (dH y=dh b))=some x->cS x=cS b
theorem Dd.nil:Dd []:=⟨lk.nil,fun b h=>by cases h⟩
theorem De {L:List bM} {nm:List UInt8} (h:0<=eq L nm): ∃x,L.find? (fun y=>decide (dH y=nm))=some x:=by
 cases hx:L.find? (fun y=>decide (dH y=nm)) with
 |some x=>exact⟨x,rfl⟩
 |none=>have:=(GW L nm).2 hx;omega
theorem Uj {L:List bM} (b:bM) {nm:List UInt8} (h:0<=eq L nm):(L++[b]).find? (fun y=>decide (dH y=nm))=L.find? (fun y=>decide (dH y=nm)):=by
 obtain⟨x,hx⟩:=De h;rw[List.find?_append,hx];rfl
theorem Uk {L:List bM} (bb:lk L) {b:bM} (O:b∈L) (ag:dh b≠[]):0<=eq L (dh b):=by
 obtain⟨k,ab,rfl⟩:=List.getElem_of_mem O;exact(bb.GM k _ (oj ab) (by simpa using ag)).1
theorem Dd.add {L:List bM} (bb:Dd L) (b:bM):Dd (gr L b):=by
 refine⟨bb.tolk.add b,?_⟩;unfold gr
 split
 .rename_i aY;intro c H ag x hx;rcases aq8.1 H with H |H
  .rw[Uj b (Uk bb.tolk H ag)] at hx;exact bb.bits c H ag x hx
  .simp only[aq0] at H;subst H;have aw:=(C' aY).2.2.2 (by simpa using ag);rw[Uj c aw] at hx;rw[<-yf] at hx;unfold o2 at hx;rw[if_pos aw] at hx
   by_cases O:cS x=cS c
   .exact O
   .exfalso;unfold gx at aY;rw[hx] at aY
    split at aY
    .cases aY
    split at aY
    .cases aY
    rw[if_pos (by simp[ag,O])] at aY
    cases aY
 .exact bb.bits
theorem ajX {b:bM} (h:hi b=true):16<=fN (cS b)/\fN (cS b)<=128:=by
 obtain⟨E,G,_,_⟩:=C8 h;exact TQ E G
theorem ajY {b:bM} (h:hi b=true): ∀p,p∈cy b->0<=gf p/\gf p < ep b/\((mf p).length:Int)=fN (cS b):=fun p ag=>by
 simp only[hi,vj] at h;have:=Md _ _ _ _ h.1.2 p ag;omega
end
section
theorem ajZ {α:Type} (p:α->Bool) {L:List α} {q k:Nat} (aV:mg p L=q) (ba:q≠k):mg p (L.eraseIdx k)=((if q < k then q else q - 1:Nat):Int):=by
 rcases uV p L with⟨h,_⟩ |⟨j,x,h,hx,ag,bw⟩
 .omega
 .obtain rfl:j=q:=by omega
  have a6: ∀i:Nat,(L.eraseIdx k)[i]? =if i < k then L[i]? else L[i+1]? :=fun i=>List.getElem?_eraseIdx ..
  have dE:(L.eraseIdx k)[if j < k then j else j - 1]? =some x:=by
   rw[a6]
   by_cases E:j < k
   .rw[if_pos E,if_pos E];exact hx
   .rw[if_neg E,if_neg au5,show j - 1+1=j by omega];exact hx
  have Jj:=(ap5.1 dE).1;refine TN Jj (fun i b aI O=>?_) (by rw[(ap5.1 dE).2];exact ag);rw[a6] at O
  by_cases E:j < k
  .rw[if_pos E] at aI;rw[if_pos au5] at O;exact bw i b aI O
  .rw[if_neg E] at aI
   split at O
   .exact bw i b au5 O
   .exact bw (i+1) b au5 O
theorem Ul {L:List bM} {nm:List UInt8} (h:wy L nm=false) {b:bM} (O:b∈L):dh b≠nm:=fun e=>by
 obtain⟨i,aI,rfl⟩:=List.getElem_of_mem O;rcases uV (fun b=>decide (dh b=nm)) L with⟨_,hn⟩ |⟨k,x,G,_⟩
 .have:=hn i _ (oj aI);simp[e] at this
 .have:wy L nm=true:=by unfold wy;rw[G];simp
  rw[h] at this
  cases this
theorem Um {L:List bM} {nm:List UInt8} (h:rC L nm=0):0<=eq L nm/\wy L nm=false:=by
 unfold rC at h
 split at h
 .cases h
 split at h
 .cases h
 .rename_i E G;exact⟨au5,by simpa using G⟩
theorem Mq {L:List bM} (bb:lk L) (nm:List UInt8):lk (o3 L nm):=by
 unfold o3
 split
 .rename_i aY;obtain⟨E,G⟩:=Um aY;obtain⟨k,ab⟩: ∃k:Nat,eq L nm=k:=⟨(eq L nm).toNat,au5⟩;rw[ab,Int.toNat_natCast];refine⟨as9 (List.length_eraseIdx_le _ _) bb.len,fun b O=>bb.right b (List.mem_of_mem_eraseIdx O),fun dU b O ag=>?_⟩;have aj0:b∈L:=List.mem_of_mem_eraseIdx (List.mem_of_getElem? O);have ba:=Ul G aj0;rw[List.getElem?_eraseIdx] at O
  obtain⟨j,aa,lD⟩: ∃j,L[j]? =some b/\((dU < k/\j=dU)\/(k<=dU/\j=dU+1)):=by
   split at O
   .exact⟨dU,O,.inl ⟨au5,rfl⟩⟩
   .exact⟨dU+1,O,.inr ⟨au5,rfl⟩⟩
  obtain⟨dY,cR⟩:=bb.GM j b aa ag;obtain⟨q,aV⟩: ∃q:Nat,eq L (dh b)=q:=⟨(eq L (dh b)).toNat,au5⟩
  have aj1:q≠k:=fun e=>by
   subst e;have b4:=yf L (dh b);have ci:=yf L nm;rw[aV] at b4;rw[ab] at ci;obtain⟨x,hx⟩:=De (L:=L) (nm:=nm) au5;rw[hx] at ci;rw[ci] at b4;have b1:=List.find?_some hx;have b2:=List.find?_some b4.symm;simp only[ar5] at b1 b2;exact ba (b2.symm.trans b1)
  have V:eq (L.eraseIdx k) (dh b)=((if q < k then q else q - 1:Nat):Int):=ajZ _ aV aj1;rw[V]
  split <;>omega
 .exact bb
end
section
def sE (n k:Nat):UInt8:=UInt8.ofNat (n/256 ^k % 256)
def ea (n:Nat):Nat->List UInt8
 |0=>[]
 |k+1=>sE n k::ea n k
theorem qv (n:Nat): ∀k,(ea n k).length=k
 |0=>rfl
 |k+1=>by simp[ea,qv n k]
theorem Un (n:Nat): ∀(k i:Nat),i < k->(ea n k)[i]? =some (sE n (k - 1 - i))
 |0,i,h=>by omega
 |k+1,0,h=>by simp[ea]
 |k+1,i+1,h=>by
  simp only[ea,au2];rw[Un n k i au5]
  congr 2
  omega
theorem Uo (m k:Nat):UInt8.ofNat (((m:Nat):Int)/((2 ^(8*k):Nat):Int) % 256).toNat=sE m k:=by
 unfold sE;have h:(2:Nat) ^(8*k)=256 ^k:=by rw[Nat.pow_mul]
 rw[h]
 congr 1
abbrev W (w:Nat):Prop:=w=1\/w=2\/w=4
theorem Mr (w:Nat) (hw:W w):Fn Tryz.prog 164 [ae (w:Nat)] [] [] (fI true) []:=by
 refine aW [] Tryz.func164 rfl rfl rfl rfl ?_;refine⟨fun h=>?_,fun E=>?_⟩
 .exact aT aH rfl rfl trivial rfl
 refine⟨fun h=>?_,fun G=>?_⟩
 .exact aT aH rfl rfl trivial rfl
 refine⟨fun h=>?_,fun al=>?_⟩
 .exact aT aH rfl rfl trivial rfl
 have E: ¬((w:Nat):Int)=1:=mu E;have G: ¬((w:Nat):Int)=2:=mu G;have al: ¬((w:Nat):Int)=4:=mu al;unfold W at hw;omega
theorem Up (n w:Nat) (hw:W w) (hn:n < 256 ^w):Fn Tryz.prog 166 [ae (n:Nat),ae (w:Nat)] [] [] (fI true) []:=by
 have ag:(2 ^(8*((w:Nat):Int)).toNat:Nat)=256 ^w/\256 ^w<=4294967296:=by
  rcases hw with rfl |rfl |rfl <;>decide
 refine aW [] Tryz.func166 rfl rfl rfl rfl ?_;refine⟨fun h=>?_,fun E=>?_⟩
 .have h:((w:Nat):Int)=8:=gd h;unfold W at hw;omega
 refine⟨fun h=>?_,fun h=>absurd (show¬(0:Int)<=((n:Nat):Int) from mu h) au5⟩;have m9:w<=4:=by unfold W at hw;omega
 refine⟨au5,⟨au5,au5,au5⟩,?_,?_⟩
 .rw[ag.1];omega
 refine⟨_,_,_,aH,rfl,?_,trivial,rfl⟩;refine aq2 ?_;show((n:Nat):Int) < 1*((2 ^(8*((w:Nat):Int)).toNat:Nat):Int);rw[ag.1];omega
def ez (w:Nat) (l:List Nat):List UInt8:=l.flatMap fun n=>ea n w
theorem nn (w:Nat) (l:List Nat):(ez w l).length=l.length*w:=by
 induction l with
 |nil=>simp[ez]
 |cons n l br=>
  simp only[ez,at7,ap1,as4,qv] at br⊢;rw[br,Nat.succ_mul];omega
theorem Uq (w:Nat) {l:List Nat} {k:Nat} (h:k < l.length):ez w (l.take (k+1))=ez w (l.take k)++ea l[k] w:=by
 unfold ez;rw[<-uW h,List.flatMap_append];simp
def sF (l:List Nat):List Int:=l.map Int.ofNat
abbrev uZ (l:List Nat):List (Z og):=sF l
abbrev Ur (l:List Nat) (w r k:Nat):a1:=[(0,eM r),(1,ae (w:Nat)),(2,bS og (uZ l)),(17,bS og (uZ l)),(18,ae (l.length:Nat)),(19,ae (k:Nat))]
abbrev Us (l:List Nat) (w r k:Nat):a1:=[(0,eM r),(1,ae (w:Nat)),(29,bS og (uZ l)),(30,ae (l.length:Nat)),(31,ae (k:Nat))]
abbrev GX (l:List Nat) (w r k n i:Nat):a1:=[(0,eM r),(1,ae (w:Nat)),(11,ae (n:Nat)),(29,bS og (uZ l)),(30,ae (l.length:Nat)),(31,ae (k:Nat)),(35,ae (w:Nat)),(36,ae (i:Nat))]
abbrev pP (r:Nat) (l:List UInt8):ay:=[(r,.row 5 .u8 l)]
theorem GY {l:List Nat} {k:Nat} (h:k < l.length):fB (uZ l) k=some ((l[k]:Nat):Int):=by
 show(sF l)[k]? =some _;unfold sF;rw[ar0,oj h];rfl
theorem Ut (xs ys:List UInt8) (n i:Nat) (w:Nat) (aI:i < w):(xs++(ea n w).take i)++[sE n (w - 1 - i)]=xs++(ea n w).take (i+1):=by
 have aq:=qv n w;rw[as6,<-uW (by omega:i < (ea n w).length)]
 congr 2
 have:=Un n w i aI;rw[oj au5] at this;injection this with this
 rw[this]
set_option maxHeartbeats 2000000 in
theorem yg (xs:List UInt8) (w:Nat) (l:List Nat) (hw:W w) (hf: ∀n,n∈l->n < 256 ^w) (aq:l.length<=1000) (hx:xs.length<=1000000000):
  Fn Tryz.prog 116 [eM 1001,ae (w:Nat),bS og (uZ l)] (pP 1001 xs) [1002] (.ce [.one (.own 1002),.one (.d (.bool true))]) (pP 1002 (xs++ez w l)):=by
 have m9:w<=4:=by unfold W at hw;omega
 have wm:List.length (uZ l)=l.length:=show(sF l).length=_ by unfold sF;exact aq3 _
 refine aW [] Tryz.func116 rfl rfl rfl rfl ?_;refine au (Mr w hw) ?_;refine da ?_;refine dX [] (X:=Nat) (Ur l w 2001) (fun _=>pP 2001 xs) (fun k=>k<=l.length) (fun k=>l.length - k) 0 (ap7 _) ?_ ?_
 .exact af.trans (af.aX 1001 2001 rfl) (af.sub ⟨rfl,rfl,rfl,rfl,congrArg Int.ofNat wm,rfl,trivial⟩ ac)
 intro k ab;refine⟨fun h=>?_,fun h=>?_⟩
 .have cn:k < l.length:=by simpa using h
  refine⟨au5,((l[k]:Nat):Int),GY cn,au (Up l[k] w hw (hf _ (ar3 cn))) ?_⟩;refine da ?_;refine⟨au5,k+1,cn,au5,?_⟩;exact af.sub ac ac
 clear h ab;refine dX [] (X:=Nat) (Us l w 2001) (fun k=>pP 2001 (xs++ez w (l.take k))) (fun k=>k<=l.length) (fun k=>l.length - k) 0 (ap7 _) ?_ ?_
 .exact af.sub ⟨rfl,rfl,rfl,congrArg Int.ofNat wm,rfl,trivial⟩ ⟨congrArg (fun l=>some (bd.row _ .u8 l)) (as5 xs).symm,trivial⟩
 intro k ab;refine⟨fun h=>?_,fun h=>?_⟩
 .have cn:k < l.length:=by simpa using h
  have ax:=Uq w cn;have hn:=hf _ (ar3 cn);have b6:=nn w (l.take k);have OR:(l.take k).length*w<=1000*4:=Nat.mul_le_mul (by rw[ap8];omega) m9;refine⟨au5,((l[k]:Nat):Int),GY cn,?_⟩;generalize l[k]=n at*;generalize ez w (l.take k)=ys at*;have aj2:n < 4294967296:=Nat.lt_of_lt_of_le hn (by rcases hw with rfl |rfl |rfl <;>decide);refine dX [] (X:=Nat) (GX l w 2001 k n) (fun i=>pP 2001 ((xs++ys)++(ea n w).take i)) (fun i=>i<=w) (fun i=>w - i) 0 (ap7 _) ?_ ?_
  .exact af.sub ac ⟨congrArg (fun l=>some (bd.row _ .u8 l)) (as5 (xs++ys)).symm,trivial⟩
  intro i aI;refine⟨fun h=>?_,fun h=>?_⟩
  .have dW:i < w:=by
    have h:(i:Int) < (w:Int):=gd h;omega
   have aj:(8*((w:Int) - 1 - (i:Int))).toNat=8*(w - 1 - i):=by omega
   have m1: -9223372036854775808<=(w:Int) - 1/\(w:Int) - 1<=9223372036854775807:=by omega
   have m2: -9223372036854775808<=(w:Int) - 1 - (i:Int)/\(w:Int) - 1 - (i:Int)<=9223372036854775807:=by omega
   have m3: -9223372036854775808<=8*((w:Int) - 1 - (i:Int))/\8*((w:Int) - 1 - (i:Int))<=9223372036854775807:=by omega
   have jc:0<=(n:Int)/\0<=8*((w:Int) - 1 - (i:Int))/\8*((w:Int) - 1 - (i:Int))<=64:=by omega
   refine⟨m1,m2,m3,jc,⟨Int.emod_nonneg _ au6,Int.emod_lt_of_pos _ au6⟩,?_,rfl,?_⟩
   .show((xs++ys)++(ea n w).take i).length+1<=4294967296;rw[ap1,ap1,ap8];omega
   refine⟨au5,i+1,dW,au5,af.trans (af.sub (K':=GX l w 49 k n (i+1)) (B':=pP 49 ((xs++ys)++(ea n w).take (i+1))) ac ⟨?_,trivial⟩) (af.aX 49 2001 rfl)⟩;refine congrArg (fun l=>some (bd.row _ .u8 l)) ?_;rw[<-Ut (xs++ys) [] n i w dW,<-Uo,<-aj];rfl
  .have dW:i=w:=by
    have h: ¬(i:Int) < (w:Int):=mu h;omega
   subst dW;refine⟨au5,k+1,cn,au5,af.sub ac ⟨?_,trivial⟩⟩;rw[ax,List.take_of_length_le (by rw[qv];omega),as6];rfl
 have cn:k=l.length:=by
     have: ¬k < l.length:=by simpa using h
     omega
 subst cn;rw[aq9];exact⟨_,_,_,af.aX 2001 1002 rfl,rfl,ac,ac,rfl⟩
set_option maxHeartbeats 2000000 in
theorem GZ (w:Nat) (l:List Nat) (hw:W w) (hf: ∀n,n∈l->n < 256 ^w) (aq:l.length<=1000):
  Fn Tryz.prog 116 [kH .dD,ae (w:Nat),bS og (uZ l)] [] [1002] (.ce [.one (.own 1002),.one (.d (.bool true))]) (pP 1002 (ez w l)):=by
 have m9:w<=4:=by unfold W at hw;omega
 have wm:List.length (uZ l)=l.length:=show(sF l).length=_ by unfold sF;exact aq3 _
 obtain⟨xs,r7⟩: ∃xs:List UInt8,xs=[]:=⟨_,rfl⟩;have hx:xs.length<=1000000000:=by rw[r7];decide
 rw[show ez w l=xs++ez w l by rw[r7];rfl];refine aW [] Tryz.func116 rfl rfl rfl rfl ?_;refine au (Mr w hw) ?_;refine da ?_;refine dX [] (X:=Nat) (Ur l w 2001) (fun _=>pP 2001 xs) (fun k=>k<=l.length) (fun k=>l.length - k) 0 (ap7 _) ?_ ?_
 .exact af.trans (af.nil 0 2001 5 .u8 rfl rfl) (af.sub ⟨rfl,rfl,rfl,rfl,congrArg Int.ofNat wm,rfl,trivial⟩ ⟨congrArg (fun l=>some (bd.row _ .u8 l)) r7.symm,trivial⟩)
 intro k ab;refine⟨fun h=>?_,fun h=>?_⟩
 .have cn:k < l.length:=by simpa using h
  refine⟨au5,((l[k]:Nat):Int),GY cn,au (Up l[k] w hw (hf _ (ar3 cn))) ?_⟩;refine da ?_;refine⟨au5,k+1,cn,au5,?_⟩;exact af.sub ac ac
 clear h ab;refine dX [] (X:=Nat) (Us l w 2001) (fun k=>pP 2001 (xs++ez w (l.take k))) (fun k=>k<=l.length) (fun k=>l.length - k) 0 (ap7 _) ?_ ?_
 .exact af.sub ⟨rfl,rfl,rfl,congrArg Int.ofNat wm,rfl,trivial⟩ ⟨congrArg (fun l=>some (bd.row _ .u8 l)) (as5 xs).symm,trivial⟩
 intro k ab;refine⟨fun h=>?_,fun h=>?_⟩
 .have cn:k < l.length:=by simpa using h
  have ax:=Uq w cn;have hn:=hf _ (ar3 cn);have b6:=nn w (l.take k);have OR:(l.take k).length*w<=1000*4:=Nat.mul_le_mul (by rw[ap8];omega) m9;refine⟨au5,((l[k]:Nat):Int),GY cn,?_⟩;generalize l[k]=n at*;generalize ez w (l.take k)=ys at*;have aj2:n < 4294967296:=Nat.lt_of_lt_of_le hn (by rcases hw with rfl |rfl |rfl <;>decide);refine dX [] (X:=Nat) (GX l w 2001 k n) (fun i=>pP 2001 ((xs++ys)++(ea n w).take i)) (fun i=>i<=w) (fun i=>w - i) 0 (ap7 _) ?_ ?_
  .exact af.sub ac ⟨congrArg (fun l=>some (bd.row _ .u8 l)) (as5 (xs++ys)).symm,trivial⟩
  intro i aI;refine⟨fun h=>?_,fun h=>?_⟩
  .have dW:i < w:=by
    have h:(i:Int) < (w:Int):=gd h;omega
   have aj:(8*((w:Int) - 1 - (i:Int))).toNat=8*(w - 1 - i):=by omega
   have m1: -9223372036854775808<=(w:Int) - 1/\(w:Int) - 1<=9223372036854775807:=by omega
   have m2: -9223372036854775808<=(w:Int) - 1 - (i:Int)/\(w:Int) - 1 - (i:Int)<=9223372036854775807:=by omega
   have m3: -9223372036854775808<=8*((w:Int) - 1 - (i:Int))/\8*((w:Int) - 1 - (i:Int))<=9223372036854775807:=by omega
   have jc:0<=(n:Int)/\0<=8*((w:Int) - 1 - (i:Int))/\8*((w:Int) - 1 - (i:Int))<=64:=by omega
   refine⟨m1,m2,m3,jc,⟨Int.emod_nonneg _ au6,Int.emod_lt_of_pos _ au6⟩,?_,rfl,?_⟩
   .show((xs++ys)++(ea n w).take i).length+1<=4294967296;rw[ap1,ap1,ap8];omega
   refine⟨au5,i+1,dW,au5,af.trans (af.sub (K':=GX l w 49 k n (i+1)) (B':=pP 49 ((xs++ys)++(ea n w).take (i+1))) ac ⟨?_,trivial⟩) (af.aX 49 2001 rfl)⟩;refine congrArg (fun l=>some (bd.row _ .u8 l)) ?_;rw[<-Ut (xs++ys) [] n i w dW,<-Uo,<-aj];rfl
  .have dW:i=w:=by
    have h: ¬(i:Int) < (w:Int):=mu h;omega
   subst dW;refine⟨au5,k+1,cn,au5,af.sub ac ⟨?_,trivial⟩⟩;rw[ax,List.take_of_length_le (by rw[qv];omega),as6];rfl
 have cn:k=l.length:=by
     have: ¬k < l.length:=by simpa using h
     omega
 subst cn;rw[aq9];exact⟨_,_,_,af.aX 2001 1002 rfl,rfl,ac,ac,rfl⟩
end
section
def gD (s:List UInt8) (w:Nat):List UInt8:=ea s.length w++s
theorem yh (s:List UInt8) (w:Nat):(gD s w).length=w+s.length:=by unfold gD;rw[ap1,qv]
theorem Df (xs s:List UInt8) (w:Nat) (hw:W w) (ax:s.length < 256 ^w) (aq:s.length<=1000000000) (hx:xs.length<=1000000000):
  Fn Tryz.prog 118 [eM 1001,bV s,ae (w:Nat)] (pP 1001 xs) [1002] (.ce [.one (.own 1002),.one (.d (.bool true))]) (pP 1002 (xs++gD s w)):=by
 have m9:w<=4:=by unfold W at hw;omega
 have o4:=nn w [s.length];refine aW [] Tryz.func118 rfl rfl rfl rfl ?_;refine au (Fn.aX [(1002,2002)] (yg xs w [s.length] hw (fun n hn=>by simp only[aq0] at hn;subst hn;exact ax) au7 hx)) ?_;refine da ?_;refine⟨?_,rfl,?_⟩
 .show(xs++ez w [s.length]).length+s.length<=4294967296;rw[ap1,o4,List.length_singleton];omega
 refine⟨_,_,_,af.aX 24 1002 rfl,rfl,ac,⟨?_,trivial⟩,rfl⟩;refine congrArg (fun l=>some (bd.row _ .u8 l)) ?_;show(xs++ez w [s.length])++s=xs++gD s w;unfold ez gD;simp
end
section
def kx (p:j7):List UInt8:=ea (gf p).toNat 2++gD (mf p) 2
def j8 (b:bM):List UInt8:=gD (dH b) 1++gD (dh b) 1++ea (cS b).toNat 1++ea (ep b).toNat 2++ea (cy b).length 2++(cy b).flatMap kx
def jg (L:List bM):List UInt8:=ea L.length 1++L.flatMap j8
structure u0 (b:bM):Prop where
 nm:(dH b).length<=255
 pa:(dh b).length<=255
 bits:0<=cS b/\cS b<=255
 aS:0<=ep b/\ep b<=65535
 Uu:(cy b).length<=256
 Uv: ∀p,p∈cy b->0<=gf p/\gf p<=65535/\(mf p).length<=128
theorem Uw {b:bM} (h:u0 b) {p:j7} (ag:p∈cy b):(kx p).length<=132:=by
 have:=h.Uv p ag;unfold kx;rw[ap1,qv,yh];omega
theorem yi {α:Type} (f:α->List UInt8) (n:Nat): ∀(l:List α),(∀x,x∈l->(f x).length<=n)->(l.flatMap f).length<=l.length*n
 | [],_=>by simp
 |x::l,h=>by
  have E:=h x aq1;have G:=yi f n l fun y aC=>h y (ap2 _ aC)
  simp only[at7,ap1,as4,Nat.succ_mul];omega
theorem Ux {b:bM} (h:u0 b):(j8 b).length<=35000:=by
 have E:=yi kx 132 (cy b) fun p ag=>Uw h ag
 have G:(cy b).length*132<=256*132:=Nat.mul_le_mul_right _ h.Uu;have:=h.nm;have:=h.pa;unfold j8;simp only[ap1,qv,yh];omega
theorem Ms {α:Type} (f:α->List UInt8) {l:List α} {k:Nat} (h:k < l.length):(l.take (k+1)).flatMap f=(l.take k).flatMap f++f l[k]:=by
 rw[<-uW h,List.flatMap_append];simp
theorem Dg {x:Int} (h:0<=x):([x]:List Int)=sF [x.toNat]:=by
 show[x]=[((x.toNat:Nat):Int)];rw[show((x.toNat:Nat):Int)=x by omega]
abbrev Uy (L:List bM) (r k:Nat):a1:=[(3,eM r),(22,eM 1002),(23,ae (L.length:Nat)),(24,ae (k:Nat))]
abbrev Dh (L:List bM) (r:Nat) (l:List UInt8):ay:=(r,.row 5 .u8 l)::kw L
abbrev Mt (L:List bM) (b:bM) (r k j:Nat):a1:=[(3,eM r),(22,eM 1002),(23,ae (L.length:Nat)),(24,ae (k:Nat)),(62,bS oc (cy b)),(63,ae ((cy b).length:Nat)),(64,ae (j:Nat))]
set_option maxHeartbeats 4000000 in
theorem Uz (L:List bM) (cW:L.length<=255) (hw: ∀b,b∈L->u0 b):Fn Tryz.prog 73 [ao 1001] (kw L) [] (bS .u8 (jg L)) (kw L):=by
 refine aW [] Tryz.func73 rfl rfl rfl rfl ?_;refine au (Fn.aX [(1002,2002)] (GZ 1 [L.length] (.inl rfl) (fun n hn=>by simp only[aq0] at hn;omega) au7)) ?_;refine dX [] (X:=Nat) (Uy L 2001) (fun k=>Dh L 2001 (ea L.length 1++(L.take k).flatMap j8)) (fun k=>k<=L.length) (fun k=>L.length - k) 0 (ap7 _) ?_ ?_
 .exact af.trans (cG (Uy L 2002 0) (Dh L 2002 (ea L.length 1++(L.take 0).flatMap j8))) (af.aX 2002 2001 rfl)
 intro k ab
 have KP:((L.take k).flatMap j8).length<=255*35000:=by
  refine as9 (yi j8 35000 _ fun b O=>Ux (hw b (List.mem_of_mem_take O))) (Nat.mul_le_mul_right _ ?_);rw[ap8];omega
 refine⟨fun h=>?_,fun h=>?_⟩
 .have cn:k < L.length:=by simpa using h
  have ax:=Ms j8 cn;have O:=hw _ (ar3 cn);refine⟨⟨au5,au5⟩,L[k],pN rfl cn,rfl,?_⟩;generalize L[k]=b at*;have E:=O.nm;have G:=O.pa;have al:=O.bits;have aZ:=O.aS;have bK:=O.Uu;have aj3:=qv L.length 1;generalize eG:ea L.length 1++(L.take k).flatMap j8=A at*;have apk:A.length<=9000000:=by rw[<-eG,ap1,aj3];omega
  refine au (Fn.aX [(1001,2001),(1002,2002)] (Df A (dH b) 1 (.inl rfl) au5 au5 au5)) ?_;have iU:=yh (dH b) 1;refine au (Fn.aX [(1001,2002),(1002,2003)] (Df (A++gD (dH b) 1) (dh b) 1 (.inl rfl) au5 au5 (by rw[ap1,iU];omega))) ?_;have gM:=yh (dh b) 1;refine au (Fn.arg (Fn.aX [(1001,2003),(1002,2004)] (yg (A++gD (dH b) 1++gD (dh b) 1) 1 [(cS b).toNat] (.inl rfl) (fun n hn=>by simp only[aq0] at hn;omega) au7 (by rw[ap1,ap1,iU,gM];omega))) ⟨rfl,rfl,Dg al.1,trivial⟩) ?_;have pp:=nn 1 [(cS b).toNat]
  have ap:([ep b,((cy b).length:Int)]:List Int)=sF [(ep b).toNat,(cy b).length]:=by
   show _=[(((ep b).toNat:Nat):Int),(((cy b).length:Nat):Int)];rw[show(((ep b).toNat:Nat):Int)=ep b by omega]
  refine⟨_,_,_,_,Fn.arg (Fn.aX [(1001,2004),(1002,2005)] (yg (A++gD (dH b) 1++gD (dh b) 1++ez 1 [(cS b).toNat]) 2 [(ep b).toNat,(cy b).length] (.inr (.inl rfl)) (fun n hn=>by
   simp only[ap3,List.not_mem_nil,or_false] at hn;rcases hn with rfl |rfl <;>omega) au7 (by rw[ap1,ap1,ap1,iU,gM,pp];simp;omega))) ⟨rfl,rfl,ap,trivial⟩,ac,rfl,?_⟩
  have up:=nn 2 [(ep b).toNat,(cy b).length]
  have aY:A++gD (dH b) 1++gD (dh b) 1++ez 1 [(cS b).toNat]++ez 2 [(ep b).toNat,(cy b).length]++(cy b).flatMap kx=A++j8 b:=by
   unfold j8 ez;simp[as6]
  have apl:(A++gD (dH b) 1++gD (dh b) 1++ez 1 [(cS b).toNat]++ez 2 [(ep b).toNat,(cy b).length]).length<=9100000:=by
   rw[ap1,ap1,ap1,ap1,iU,gM,pp,up];simp;omega
  generalize A++gD (dH b) 1++gD (dh b) 1++ez 1 [(cS b).toNat]++ez 2 [(ep b).toNat,(cy b).length]=As at*;refine dX [] (X:=Nat) (Mt L b 2001 k) (fun j=>Dh L 2001 (As++((cy b).take j).flatMap kx)) (fun j=>j<=(cy b).length) (fun j=>(cy b).length - j) 0 (ap7 _) ?_ ?_
  .exact af.trans (af.sub (K':=Mt L b 2005 k 0) (B':=Dh L 2005 (As++((cy b).take 0).flatMap kx)) ac ⟨congrArg (fun l=>some (bd.row _ .u8 l)) (as5 As).symm,rfl,rfl,trivial⟩) (af.aX 2005 2001 rfl)
  intro j aa;refine⟨fun h=>?_,fun h=>?_⟩
  .have eE:j < (cy b).length:=by simpa using h
   have f':=Ms kx eE;obtain⟨dY,cR,dG⟩:=O.Uv _ (ar3 eE)
   have g':(((cy b).take j).flatMap kx).length<=256*132:=by
    refine as9 (yi kx 132 _ fun p ag=>Uw O (List.mem_of_mem_take ag)) (Nat.mul_le_mul_right _ ?_);rw[ap8];omega
   refine⟨au5,(cy b)[j],pN rfl eE,rfl,?_⟩;generalize(cy b)[j]=p at*;generalize((cy b).take j).flatMap kx=UA at*;refine au (Fn.arg (Fn.aX [(1001,2001),(1002,2002)] (yg (As++UA) 2 [(gf p).toNat] (.inr (.inl rfl)) (fun n hn=>by simp only[aq0] at hn;omega) au7 (by rw[ap1];omega))) ⟨rfl,rfl,Dg dY,trivial⟩) ?_;have aj4:=nn 2 [(gf p).toNat];refine au (Fn.aX [(1001,2002),(1002,2003)] (Df (As++UA++ez 2 [(gf p).toNat]) (mf p) 2 (.inr (.inl rfl)) au5 au5 (by rw[ap1,ap1,aj4];simp;omega))) ?_;refine⟨au5,j+1,eE,au5,af.trans (af.sub (K':=Mt L b 2003 k (j+1)) (B':=Dh L 2003 (As++((cy b).take (j+1)).flatMap kx)) ac ⟨?_,rfl,rfl,trivial⟩) (af.aX 2003 2001 rfl)⟩;rw[f'];refine congrArg (fun l=>some (bd.row _ .u8 l)) ?_;unfold kx ez;simp[as6];rfl
  .have eE:j=(cy b).length:=by
      have: ¬j < (cy b).length:=by simpa using h
      omega
   subst eE;rw[aq9];refine⟨au5,k+1,cn,au5,af.sub ac ⟨?_,rfl,rfl,trivial⟩⟩;rw[ax,<-as6,eG,aY];rfl
 .have cn:k=L.length:=by
     have: ¬k < L.length:=by simpa using h
     omega
  subst cn;exact⟨_,_,_,af.dV 2001 rfl,rfl,(show ea L.length 1++(L.take L.length).flatMap j8=jg L by rw[aq9];rfl),ac,rfl⟩
end
section
end
section
abbrev fH:Type:=List UInt8×Int
def mh (n:Nat) (st:fH):List UInt8:=if st.2≠0\/st.1.length < n then[] else st.1.take n
def np (n:Nat) (st:fH):fH:=if st.2≠0 then st else if st.1.length < n then(st.1,10) else(st.1.drop n,0)
def oh (l:List UInt8):Nat:=l.foldl (fun a c=>a*256+c.toNat) 0
theorem Mu (l:List UInt8) (c:UInt8):oh (l++[c])=oh l*256+c.toNat:=by simp[oh,at9]
theorem Mv (l:List UInt8):oh l < 256 ^l.length:=by
 have: ∀(l:List UInt8),oh l.reverse < 256 ^l.length:=fun l=>by
  induction l with
  |nil=>simp[oh]
  |cons c l br=>
   rw[List.reverse_cons,Mu,as4,Nat.pow_succ];have:=c.toNat_lt;omega
 have h:=this l.reverse;simpa using h
theorem UB (n:Nat) (st:fH):(mh n st).length<=n:=by
 unfold mh
 split
 .simp
 .rw[ap8];omega
def fx (w:Nat) (st:fH):fH×Nat:=(np w st,oh (mh w st))
def qw (w:Nat) (st:fH):fH×List UInt8:=(np (fx w st).2 (fx w st).1,mh (fx w st).2 (fx w st).1)
abbrev kU (st:fH):ay:=[(1001,.cells [.d (.ck .u8 st.1),.d (.int .i64 st.2)])]
theorem G0 (b:List UInt8) (O:b.length<=4294967296):Fn Tryz.prog 110 [bS .u8 b] [] [1001] (ao 1001) (kU (b,0)):=by
 refine aW [] Tryz.func110 rfl rfl rfl rfl ?_;refine⟨rfl,?_,rfl,?_⟩
 .show 0+b.length<=4294967296;omega
 refine⟨rfl,?_⟩;exact⟨_,_,_,af.trans (af.dV 5 rfl) (af.aX 7 1001 rfl),rfl,rfl,ac,rfl⟩
theorem aj5 (s:List UInt8) (e k:Int):Fn Tryz.prog 192 [ae k,ao 1002] [(1001,.cells [.d (.ck .u8 s),.d (.int .i64 e)]),(1002,.cells [.ptr 1001 0])] [] (bS .u8 []) [(1001,.cells [.d (.ck .u8 s),.d (.int .i64 (if e=0 then k else e))]),(1002,.cells [.ptr 1001 0])]:=by
 refine aW [] Tryz.func192 rfl rfl rfl rfl ?_;refine⟨fun h=>?_,fun h=>?_⟩
 .rw[if_pos (show e=0 from gd h)];exact aT aH rfl rfl ac rfl
 .rw[if_neg (show¬e=0 from mu h)];exact aT aH rfl rfl ac rfl
theorem UC (st:fH) (n:Nat):Fn Tryz.prog 163 [ao 1001,ae (n:Nat),fI false] (kU st) [] (bS .u8 (mh n st)) (kU (np n st)):=by
 obtain⟨s,e⟩:=st;refine aW [] Tryz.func163 rfl rfl rfl rfl ?_;refine⟨rfl,fun h=>?_,fun E=>?_⟩
 .have h:(!decide (e=0))=true:=h;have V: ¬e=0:=by simpa using h
  have hx:mh n (s,e)=[]:=by unfold mh;rw[if_pos (.inl V)]
  have ax:np n (s,e)=(s,e):=by unfold np;rw[if_pos V]
  rw[hx,ax];exact aT aH rfl rfl ac rfl
 have E:(!decide (e=0))=false:=E;have V:e=0:=by simpa using E
 subst V;refine da ?_;refine⟨fun h=>?_,fun h=>?_⟩
 .have h:(s.length:Int) < (n:Int):=gd h;have hx:mh n (s,0)=[]:=by unfold mh;rw[if_pos (.inr (by show s.length < n;omega))]
  have ax:np n (s,0)=(s,10):=by unfold np;rw[if_neg au7,if_pos (by show s.length < n;omega)]
  rw[hx,ax];refine au (Fn.aX [(1002,3)] (aj5 s 0 10)) ?_;exact aT aH rfl rfl ac rfl
 .have h: ¬(s.length:Int) < (n:Int):=mu h
  have hx:mh n (s,0)=s.take n:=by
   unfold mh;rw[if_neg (by simp;omega)]
  have ax:np n (s,0)=(s.drop n,0):=by unfold np;rw[if_neg au7,if_neg (by show¬s.length < n;omega)]
  rw[hx,ax];have m1:0<=(n:Int)/\(n:Int)<=(s.length:Int):=by omega
  refine⟨m1,m1,rfl,_,_,_,aH,rfl,rfl,⟨?_,trivial⟩,rfl⟩;refine congrArg (fun l:List UInt8=>some (bd.cells [bC.d (D.ck bx.u8 l),bC.d (D.int IntKind.i64 0)])) ?_;show(List.take s.length s).drop ((n:Int)).toNat=s.drop n;rw[aq9];rfl
theorem aj6 (a:Nat) (c:UInt8):(a*256) ||| c.toNat=a*256+c.toNat:=by
 have h:c.toNat < 2 ^8:=c.toNat_lt;have:=Nat.shiftLeft_add_eq_or_of_lt h a;rw[Nat.shiftLeft_eq] at this;exact this.symm
theorem o5 (st:fH) (w:Nat) (hw:W w):Fn Tryz.prog 111 [ao 1001,ae (w:Nat)] (kU st) [] (ae ((fx w st).2:Nat)) (kU (fx w st).1):=by
 have m9:w<=4:=by unfold W at hw;omega
 have aq:=UB w st;have cr:=UC st w;show Fn _ _ _ _ _ (ae ((oh (mh w st):Nat):Int)) (kU (np w st));generalize mh w st=x at*;generalize np w st=aj7 at*;have apm:oh x < 4294967296:=Nat.lt_of_lt_of_le (Mv x) (as9 (Nat.pow_le_pow_right au6 (show x.length<=4 by omega)) au6);refine aW [] Tryz.func111 rfl rfl rfl rfl ?_;refine au (Mr w hw) ?_;refine au cr ?_;refine⟨fun h=>absurd (show(x.length:Int)=8 from gd h) au5,fun _=>?_⟩;refine dX [] (X:=Nat) (fun i=>[(5,ae ((oh (x.take i):Nat):Int)),(27,bS .u8 x),(28,ae (x.length:Nat)),(29,ae (i:Nat))]) (fun _=>kU aj7) (fun i=>i<=x.length) (fun i=>x.length - i) 0 (ap7 _) ?_ ?_
 .exact af.sub ac ac
 intro i aI;refine⟨fun h=>?_,fun h=>?_⟩
 .have dW:i < x.length:=by
   have h:(i:Int) < (x.length:Int):=gd h;omega
  have ax:oh (x.take (i+1))=oh (x.take i)*256+(x[i]).toNat:=by rw[<-uW dW,Mu]
  have hc:=Mv (x.take i);have x0:256 ^(x.take i).length<=256 ^3:=Nat.pow_le_pow_right au6 (by rw[ap8];omega);have H:=(x[i]).toNat_lt;refine⟨au5,x[i],pN rfl dW,?_⟩;generalize x[i]=c at*;generalize oh (x.take i)=a at*;have aj8:=aj6 a c
  have aj:((a:Int)*((2 ^(8:Int).toNat:Nat):Int)).toNat=a*256:=by
   show((a:Int)*256).toNat=_;omega
  have m1:0<=(a:Int)/\(0:Int)<=8/\(8:Int)<=64:=by omega
  have m2: -9223372036854775808<=(a:Int)*((2 ^(8:Int).toNat:Nat):Int)/\(a:Int)*((2 ^(8:Int).toNat:Nat):Int)<=9223372036854775807:=by
   show -9223372036854775808<=(a:Int)*256/\(a:Int)*256<=9223372036854775807;omega
  have m3: -9223372036854775808<=(c.toNat:Int)/\(c.toNat:Int)<=9223372036854775807:=by omega
  have jc:0<=(a:Int)*((2 ^(8:Int).toNat:Nat):Int)/\(a:Int)*((2 ^(8:Int).toNat:Nat):Int)<=9223372036854775807/\0<=(c.toNat:Int)/\(c.toNat:Int)<=9223372036854775807:=by
   show 0<=(a:Int)*256/\(a:Int)*256<=9223372036854775807/\_;omega
  refine⟨m1,m2,m3,jc,au5,i+1,dW,au5,af.sub ⟨?_,rfl,rfl,rfl,trivial⟩ ac⟩;show(((((a:Int)*((2 ^(8:Int).toNat:Nat):Int)).toNat ||| ((c.toNat:Int)).toNat:Nat)):Int)=((oh (x.take (i+1)):Nat):Int);rw[ax,aj,Int.toNat_natCast,aj8]
 .have dW:i=x.length:=by
   have h: ¬(i:Int) < (x.length:Int):=mu h;omega
  subst dW;exact aT aH rfl (show((oh (x.take x.length):Nat):Int)=_ by rw[aq9]) ac rfl
theorem Di (st:fH) (w:Nat) (hw:W w):Fn Tryz.prog 112 [ao 1001,ae (w:Nat)] (kU st) [] (bV (qw w st).2) (kU (qw w st).1):=by
 have E:=o5 st w hw;have G:=UC (fx w st).1 (fx w st).2;show Fn _ _ _ _ _ (bV (mh (fx w st).2 (fx w st).1)) (kU (np (fx w st).2 (fx w st).1));generalize(fx w st).2=n at*;generalize(fx w st).1=UD at*;generalize mh n UD=x at*;generalize np n UD=apn at*;refine aW [] Tryz.func112 rfl rfl rfl rfl ?_;refine au E ?_;refine au (Fn.arg G ac) ?_;exact aT aH rfl rfl ac rfl
theorem UE (st:fH):Fn Tryz.prog 123 [ao 1001] (kU st) [] (ae st.2) (kU st):=by
 refine aW [] Tryz.func123 rfl rfl rfl rfl ?_;exact aT aH rfl rfl ac rfl
def qx (st:fH):Int:=if st.2=0/\0 < st.1.length then 11 else st.2
theorem Mw (st:fH):Fn Tryz.prog 114 [ao 1001] (kU st) [] (ae (qx st)) (kU st):=by
 obtain⟨s,e⟩:=st;refine aW [] Tryz.func114 rfl rfl rfl rfl ?_;refine⟨fun h=>?_,fun h=>?_⟩
 .have V:e=0:=gd h;refine⟨fun h=>?_,fun h=>?_⟩
  .have h:(0:Int) < (s.length:Int):=gd h;have:qx (s,e)=11:=by unfold qx;rw[if_pos ⟨V,by show 0 < s.length;omega⟩]
   rw[this];exact aT aH rfl rfl ac rfl
  .have h: ¬(0:Int) < (s.length:Int):=mu h;have:qx (s,e)=e:=by unfold qx;rw[if_neg (fun bl=>by have G:0 < s.length:=bl.2;omega)]
   rw[this];exact aT aH rfl rfl ac rfl
 .have V: ¬e=0:=mu h;have:qx (s,e)=e:=by unfold qx;rw[if_neg (fun bl=>V bl.1)]
  rw[this];exact aT aH rfl rfl ac rfl
end
section
end
section
theorem UF (n:Nat): ∀k,ea n (k+1)=ea (n/256) k++[sE n 0]
 |0=>rfl
 |k+1=>by
  show sE n (k+1)::ea n (k+1)=sE (n/256) k::ea (n/256) k++[sE n 0];rw[UF n k,List.cons_append]
  congr 1
  unfold sE;rw[Nat.div_div_eq_div_mul,Nat.pow_succ,Nat.mul_comm 256]
theorem aj9 (n:Nat): ∀k,n < 256 ^k->oh (ea n k)=n:=by
 intro k
 induction k generalizing n with
 |zero=>intro h;simp at h;subst h;rfl
 |succ k br=>
  intro h;rw[UF,Mu,br (n/256) (by rw[Nat.pow_succ] at h;omega)];unfold sE;rw[Nat.pow_zero,Nat.div_one,UInt8.toNat_ofNat'];omega
theorem UG (x t:List UInt8):np x.length (x++t,0)=(t,0)/\mh x.length (x++t,0)=x:=by
 unfold np mh;rw[if_neg au7,if_neg au7,if_neg au7];exact⟨au7,au7⟩
theorem o6 {n w:Nat} (h:n < 256 ^w) (t:List UInt8):fx w (ea n w++t,0)=((t,0),n):=by
 have:=UG (ea n w) t;rw[qv] at this;unfold fx;rw[this.1,this.2,aj9 n w h]
theorem Dj {w:Nat} {x:List UInt8} (h:x.length < 256 ^w) (t:List UInt8):qw w (gD x w++t,0)=((t,0),x):=by
 have E:fx w (gD x w++t,0)=((x++t,0),x.length):=by
  unfold gD;rw[as6];exact o6 h _
 have:=UG x t;unfold qw;rw[E];simp only;rw[this.1,this.2]
def u1 (st:fH):fH×wx:=((qw 2 (fx 2 st).1).1,(((fx 2 st).2:Int),(qw 2 (fx 2 st).1).2))
def g4 (st:fH):Nat->fH×List wx
 |0=>(st,[])
 |k+1=>((u1 (g4 st k).1).1,(g4 st k).2++[(u1 (g4 st k).1).2])
def E (st:fH):=qw 1 st
def G (st:fH):=qw 1 (E st).1
def al (st:fH):=fx 1 (G st).1
def aZ (st:fH):=fx 2 (al st).1
def bK (st:fH):=fx 2 (aZ st).1
def UH (st:fH) (l:List wx):mR:=((E st).2,(G st).2,((al st).2:Int),((aZ st).2:Int),l)
def jT (st:fH):fH×mR:=((g4 (bK st).1 (bK st).2).1,UH st (g4 (bK st).1 (bK st).2).2)
def oi (lL:fH):Nat->Option (List mR×fH)
 |0=>some ([],lL)
 |k+1=>match oi lL k with
  |none=>none
  |some (l,st)=>if(jT st).1.2=0/\gx (l.map i2) (i2 (jT st).2)=0 then some (l++[(jT st).2],(jT st).1) else none
def yj (s:List UInt8):Option (List mR):=match oi (fx 1 (s,0)).1 (fx 1 (s,0)).2 with
 |none=>none
 |some (l,st)=>if qx st=0 then some l else none
theorem Dk {L:List bM} (bb:lk L) {b:bM} (O:b∈L):u0 b:=by
 have nm: ∀x,x∈L->(dH x).length<=15:=fun x hx=>by
  have:=bb.right x hx;simp only[hi,gp,vj,ar5] at this;omega
 have aF:=bb.right b O;obtain⟨b4,ci,a3,a4⟩:=C8 aF;have a5:=ajX aF;have gw:=TZ aF;refine⟨by have:=nm b O;omega,?_,au5,au5,gw,fun p ag=>?_⟩
 .by_cases ag:dh b=[]
  .rw[ag];decide
  .obtain⟨x,hx⟩:=De (Uk bb O ag);have E:=List.find?_some hx;simp only[ar5] at E;have:=nm x (at8 hx);rw[E] at this;omega
 .have:=ajY aF p ag;omega
end
section
theorem G1 (n:Nat) (st:fH):(np n st).1.length<=st.1.length:=by
 unfold np
 split
 .exact ap0 _
 .split
  .exact ap0 _
  .rw[at1];omega
theorem aj' (n:Nat) (st:fH):(mh n st).length<=st.1.length:=by
 unfold mh
 split
 .simp
 .rw[ap8];omega
theorem Dl (w:Nat) (st:fH):(fx w st).1.1.length<=st.1.length:=G1 w st
theorem Mx (w:Nat) (st:fH):(qw w st).1.1.length<=st.1.length/\(qw w st).2.length<=st.1.length:=
 ⟨as9 (G1 _ _) (G1 w st),as9 (aj' _ _) (G1 w st)⟩
theorem G2 (w:Nat) (hw:w<=4) (st:fH):(fx w st).2 < 256 ^w:=
 Nat.lt_of_lt_of_le (Mv _) (Nat.pow_le_pow_right au6 (UB w st))
theorem UI (st:fH):(u1 st).1.1.length<=st.1.length/\(C9 (u1 st).2).length<=st.1.length:=by
 have a:=Dl 2 st;have b:=Mx 2 (fx 2 st).1;exact⟨as9 b.1 a,as9 b.2 a⟩
theorem UJ (st:fH): ∀k,(g4 st k).1.1.length<=st.1.length/\(g4 st k).2.length=k/\ ∀p,p∈(g4 st k).2->(C9 p).length<=st.1.length
 |0=>⟨ap0 _,rfl,fun p ag=>by cases ag⟩
 |k+1=>by
  obtain⟨b4,ci,a3⟩:=UJ st k;obtain⟨b1,b2⟩:=UI (g4 st k).1;refine⟨as9 b1 b4,by show((g4 st k).2++[_]).length=_;rw[ap1,ci];rfl,fun p ag=>?_⟩;rcases aq8.1 ag with ag |ag
  .exact a3 p ag
  .simp only[aq0] at ag;subst ag;exact as9 b2 b4
theorem aka (st:fH):(E st).1.1.length<=st.1.length/\(G st).1.1.length<=st.1.length/\(al st).1.1.length<=st.1.length/\(aZ st).1.1.length<=st.1.length/\(bK st).1.1.length<=st.1.length/\(E st).2.length<=st.1.length/\(G st).2.length<=st.1.length:=by
 have a:=Mx 1 st;have b:=Mx 1 (E st).1;have c:=Dl 1 (G st).1;have d:=Dl 2 (al st).1;have e:=Dl 2 (aZ st).1;have b4:(E st).1.1.length<=st.1.length:=a.1;have b1:(G st).1.1.length<=(E st).1.1.length:=b.1;have cB:(al st).1.1.length<=(G st).1.1.length:=c;have hz:(aZ st).1.1.length<=(al st).1.1.length:=d;have aj:(bK st).1.1.length<=(aZ st).1.1.length:=e;refine⟨b4,au5,au5,au5,au5,a.2,?_⟩;have:(G st).2.length<=(E st).1.1.length:=b.2;omega
theorem akb {lL:fH} {k:Nat} (h:oi lL k=none): ∀{m:Nat},k<=m->oi lL m=none:=by
 intro m aA
 induction m with
 |zero=>
    obtain rfl:k=0:=by omega
    exact h
 |succ m br=>
  rcases Nat.lt_or_ge k (m+1) with E |E
  .unfold oi;rw[br au5]
  .obtain rfl:k=m+1:=by omega
   exact h
theorem akc {s:List UInt8} {k:Nat} (ab:k<=(fx 1 (s,0)).2) (h:oi (fx 1 (s,0)).1 k=none):yj s=none:=by
 unfold yj;rw[akb h ab]
theorem UK {lL:fH} {k:Nat} {l:List mR} {st:fH} (h:oi lL k=some (l,st)) (bl: ¬((jT st).1.2=0/\gx (l.map i2) (i2 (jT st).2)=0)):oi lL (k+1)=none:=by
 unfold oi;rw[h];exact if_neg bl
theorem UL {lL:fH} {k:Nat} {l:List mR} {st:fH} (h:oi lL k=some (l,st)) (E:(jT st).1.2=0) (G:gx (l.map i2) (i2 (jT st).2)=0):oi lL (k+1)=some (l++[(jT st).2],(jT st).1):=by
 conv=>lhs;unfold oi
 rw[h];exact if_pos ⟨E,G⟩
abbrev My (st:fH):Nat×bd:=(2001,.cells [.d (.ck .u8 st.1),.d (.int .i64 st.2)])
abbrev UM (n k:Nat):a1:=[(4,ao 1001),(5,ao 2001),(11,ae (n:Nat)),(12,ae (k:Nat))]
abbrev akd (l:List mR) (st:fH):ay:=My st::Mg 1002 (l.map i2)
abbrev Mz (n k m j:Nat):a1:=[(4,ao 1001),(5,ao 2001),(6,ao 6),(11,ae (n:Nat)),(12,ae (k:Nat)),(24,ae (m:Nat)),(25,ae (j:Nat))]
abbrev FX (st:fH):List bC:=[.d (.str (E st).2),.d (.str (G st).2),.d (.int .i64 ((al st).2:Nat)),.d (.int .i64 ((aZ st).2:Nat))]
abbrev MA (l:List mR) (lL st:fH) (r:Nat) (bE:List j7):ay:=(r,.row 109 oc bE)::(6,.cells [.d (.str (E lL).2),.d (.str (G lL).2),.d (.int .i64 ((al lL).2:Nat)),.d (.int .i64 ((aZ lL).2:Nat)),.own r])::My st::Mg 1002 (l.map i2)
def ake:aQ:=.ce [.one (.bI (.pointer none)),.one (.d (.int .i64 180))]
def akf:aQ:=.ce [.one (.ptr 1001 0),.one (.d (.int .i64 0))]
set_option maxRecDepth 100000 in
set_option maxHeartbeats 4000000 in
theorem UN (s:List UInt8) (ax:s.length<=100000000) (d:Option (List mR)) (J:yj s=d):
  match d with
  |some l=>Fn Tryz.prog 72 [bS .u8 s] [] [1001,1002] akf (kw (l.map i2))
  |none=>Fn Tryz.prog 72 [bS .u8 s] [] [] ake []:=by
 cases d
 all_goals
  simp only;refine aW [10] Tryz.func72 rfl rfl rfl rfl ?_;refine au L9 ?_;refine au (Fn.aX [(1001,2001)] (G0 s au5)) ?_;refine au (Fn.aX [(1001,2001)] (o5 (s,0) 1 (.inl rfl))) ?_;have v6:=Dl 1 (s,0);have jZ:=G2 1 au6 (s,0);have zt:=fun k h=>akc (s:=s) (k:=k) h
  have akg: ∀l st,oi (fx 1 (s,0)).1 (fx 1 (s,0)).2=some (l,st)->yj s=if qx st=0 then some l else none:=fun l st h=>by unfold yj;rw[h]
  generalize(fx 1 (s,0)).2=n at*;generalize(fx 1 (s,0)).1=lL at*;have v6:lL.1.length<=100000000:=as9 v6 ax;have jZ:n < 256:=by simpa using jZ
  refine dX [10] (X:=Nat×List mR×fH) (fun x=>UM n x.1) (fun x=>akd x.2.1 x.2.2) (fun x=>x.1<=n/\oi lL x.1=some (x.2.1,x.2.2)/\x.2.2.1.length<=100000000/\(x.2.1.map i2).length<=64) (fun x=>n - x.1) (0,[],lL) ⟨ap7 _,rfl,v6,au7⟩ ?_ ?_
  .exact af.sub ac ac
  rintro⟨k,l,st⟩ ⟨ab,jL,ho,mI⟩;simp only at ab jL ho mI;refine⟨fun h=>?_,fun h=>?_⟩
  .have cn:k < n:=by
    have h:(k:Int) < (n:Int):=gd h;omega
   obtain⟨b4,ci,a3,a4,a5,gw,yK⟩:=aka st;have aA:=G2 2 au6 (aZ st).1;have aA:(bK st).2 < 65536:=aA;have gP:=G2 1 au6 (G st).1;have tx:=G2 2 au6 (al st).1;refine au (Fn.aX [(1001,2001)] (Di st 1 (.inl rfl))) ?_;refine au (Fn.aX [(1001,2001)] (Di (E st).1 1 (.inl rfl))) ?_;refine au (Fn.aX [(1001,2001)] (o5 (G st).1 1 (.inl rfl))) ?_;refine au (Fn.aX [(1001,2001)] (o5 (al st).1 2 (.inr (.inl rfl)))) ?_;refine⟨rfl,au (Fn.aX [(1001,2001)] (o5 (aZ st).1 2 (.inr (.inl rfl)))) ?_⟩;refine dX [10] (X:=Nat) (fun j=>Mz n k (bK st).2 j) (fun j=>MA l st (g4 (bK st).1 j).1 2002 ((g4 (bK st).1 j).2.map sD)) (fun j=>j<=(bK st).2) (fun j=>(bK st).2 - j) 0 (ap7 _) ?_ ?_
   .exact af.trans (af.vG 6 4 2002 109 oc rfl rfl rfl) (af.sub ac ac)
   intro j aa;obtain⟨b1,b2,b3⟩:=UJ (bK st).1 j;refine⟨fun h=>?_,fun h=>?_⟩
   .have eE:j < (bK st).2:=by
     have h:(j:Int) < ((bK st).2:Int):=gd h;omega
    have bn:=UI (g4 (bK st).1 j).1;have uQ:(g4 (bK st).1 (j+1)).1=(u1 (g4 (bK st).1 j).1).1:=rfl
    have akh:(g4 (bK st).1 (j+1)).2.map sD=(g4 (bK st).1 j).2.map sD++[sD (u1 (g4 (bK st).1 j).1).2]:=by
     show((g4 (bK st).1 j).2++[_]).map sD=_;rw[as3];rfl
    have hb:(qw 2 (fx 2 (g4 (bK st).1 j).1).1).2.length<=4294967296:=by
     have:(C9 (u1 (g4 (bK st).1 j).1).2).length<=(g4 (bK st).1 j).1.1.length:=bn.2;have this:(qw 2 (fx 2 (g4 (bK st).1 j).1).1).2.length<=(g4 (bK st).1 j).1.1.length:=this;omega
    refine au (Fn.aX [(1001,2001)] (o5 (g4 (bK st).1 j).1 2 (.inr (.inl rfl)))) ?_;refine au (Fn.aX [(1001,2001)] (Di (fx 2 (g4 (bK st).1 j).1).1 2 (.inr (.inl rfl)))) ?_;refine⟨hb,?_,rfl,rfl,?_⟩
    .show((g4 (bK st).1 j).2.map sD).length+1<=4294967296;rw[aq3,b2];omega
    refine⟨au5,j+1,eE,au5,af.trans (af.sub (K':=Mz n k (bK st).2 (j+1)) (B':=MA l st (g4 (bK st).1 (j+1)).1 36 ((g4 (bK st).1 (j+1)).2.map sD)) ac ⟨?_,rfl,rfl,rfl,rfl,trivial⟩) (af.aX 36 2002 rfl)⟩;rw[akh];rfl
   .have eE:j=(bK st).2:=by
     have h: ¬(j:Int) < ((bK st).2:Int):=mu h;omega
    subst eE;refine bz [] (af.trans (cG (Mz n k (bK st).2 (bK st).2) (MA l st (g4 (bK st).1 (bK st).2).1 2002 ((g4 (bK st).1 (bK st).2).2.map sD))) (af.dV 2002 rfl)) ?_;refine au (Fn.aX [(1001,2001)] (UE (g4 (bK st).1 (bK st).2).1)) ?_;refine⟨fun h=>?_,fun h=>?_⟩
    .have h:(!decide ((jT st).1.2=0))=true:=h;have yk:=zt (k+1) cn (UK jL (fun bl=>by rw[bl.1] at h;cases h))
     first
      |(have GT:=J.symm.trans yk;contradiction)
      |exact aT aH rfl ac trivial rfl
    have h:(!decide ((jT st).1.2=0))=false:=h;have V:(jT st).1.2=0:=by simpa using h
    have qt:=Mc (l.map i2) (i2 (jT st).2) au5 (show(E st).2.length<=4294967296 by omega) (by
     show((g4 (bK st).1 (bK st).2).2.map sD).length<=1000000
     rw[aq3,b2];omega) (fun p ag=>by
     obtain⟨q,aV,rfl⟩:=ar2.1 ag;have:=b3 q aV;show(C9 q).length<=4294967296;omega)
    refine au qt ?_;refine⟨fun h=>?_,fun h=>?_⟩
    .have h:(!decide (gx (l.map i2) (i2 (jT st).2)=0))=true:=h;have yk:=zt (k+1) cn (UK jL (fun bl=>by rw[bl.2] at h;cases h))
     first
      |(have GT:=J.symm.trans yk;contradiction)
      |exact aT aH rfl ac trivial rfl
    .have h:(!decide (gx (l.map i2) (i2 (jT st).2)=0))=false:=h;have eG:gx (l.map i2) (i2 (jT st).2)=0:=by simpa using h
     have aki:(l++[(jT st).2]).map i2=gr (l.map i2) (i2 (jT st).2):=by
      unfold gr;rw[if_pos eG,as3];rfl
     refine⟨au5,(k+1,l++[(jT st).2],(jT st).1),⟨cn,UL jL V eG,?_,?_⟩,?_,?_⟩
     .show(g4 (bK st).1 (bK st).2).1.1.length<=100000000;omega
     .have:=(C' eG).2.2.1;simp only[aq3,ap1,List.length_singleton] at this⊢;omega
     .simp only;omega
     .refine af.trans (af.sub (K':=UM n (k+1)) (B':=My (jT st).1::Mg 1003 ((l++[(jT st).2]).map i2)) ac ⟨rfl,rfl,?_,trivial⟩) (af.aX 1003 1002 rfl);rw[aki];rfl
  .have cn:k=n:=by
    have h: ¬(k:Int) < (n:Int):=mu h;omega
   subst cn;have aF:=akg l st jL;refine au (Fn.aX [(1001,2001)] (Mw st)) ?_;refine⟨fun h=>?_,fun h=>?_⟩
   .have h:(!decide (qx st=0))=true:=h;rw[if_neg (by simpa using h)] at aF
    first
     |(have GT:=J.symm.trans aF;contradiction)
     |exact aT aH rfl ac trivial rfl
   .have h:(!decide (qx st=0))=false:=h;rw[if_pos (by simpa using h)] at aF
    first
     |(rw[J] at aF;injection aF with aF;subst aF;exact⟨_,_,_,aH,rfl,ac,ac,rfl⟩)
     |(rw[J] at aF;cases aF)
end
section
end
section
theorem UO {k:Nat} (h:k < 8):0<=1*((2 ^k:Nat):Int)/\1*((2 ^k:Nat):Int) < 256:=by
 have ag:2 ^k<=2 ^7:=Nat.pow_le_pow_right au6 au5;generalize 2 ^k=y at*;omega
section
variable {P:Program} {ids:List Nat} {K:a1} {B:ay}
theorem akj {o:Oper} {T fE:TypeId} {x y:Operand} {m:Int} (ai:o.op= .binOp .shl T x y fE) (hx:a7 K x= .c (.one (.d (.int .u8 1)))) (aC:a7 K y= .c (.one (.d (.int .i64 m)))) (aw:0<=m) (E:m < 8) (N:Nat):
  bB P N ids o K B (.c (.one (.d (.int .u8 (1*((2 ^m.toNat:Nat):Int)))))) ⟨[],[],[]⟩:=by
 have m1:x∈o.op.operands:=by rw[ai];simp[Op.operands]
 have m2:y∈o.op.operands:=by rw[ai];simp[Op.operands]
 refine bB.val fun K' B' g1 g2 C ρ F e' w ar av=>?_
 have aj:=av.int ((g1 x m1).trans hx);have ap:=av.int ((g1 y m2).trans aC);exact⟨_,IH ai aj ap au6 aw (by simp[IntKind.bits];omega) (.inl ⟨rfl,rfl⟩) (fun _=>UO au5),rfl⟩
theorem akk {a b:Int} (E:0<=a) (G:a < 256) (al:0<=b) (aZ:b < 256):
  IntKind.u8.wrap (((BitVec.ofInt 8 a ||| BitVec.ofInt 8 b).toNat:Nat):Int)=((a.toNat ||| b.toNat:Nat):Int):=by
 have aj:(BitVec.ofInt 8 a).toNat=a.toNat:=by rw[BitVec.toNat_ofInt];omega
 have ap:(BitVec.ofInt 8 b).toNat=b.toNat:=by rw[BitVec.toNat_ofInt];omega
 rw[BitVec.toNat_or,aj,ap];have h:a.toNat ||| b.toNat < 2 ^8:=Nat.or_lt_two_pow au5 au5;exact w4 (by simp only[tX];omega)
theorem akl {o:Oper} {T fE:TypeId} {x y:Operand} {a b:Int} (ai:o.op= .binOp .or T x y fE) (hx:a7 K x= .c (.one (.d (.int .u8 a)))) (aC:a7 K y= .c (.one (.d (.int .u8 b)))) (E:0<=a) (G:a < 256) (al:0<=b) (aZ:b < 256) (N:Nat):
  bB P N ids o K B (.c (.one (.d (.int .u8 ((a.toNat ||| b.toNat:Nat):Int))))) ⟨[],[],[]⟩:=by
 have m1:x∈o.op.operands:=by rw[ai];simp[Op.operands]
 have m2:y∈o.op.operands:=by rw[ai];simp[Op.operands]
 refine bB.val fun K' B' g1 g2 C ρ F e' w ar av=>?_
 have aj:=av.int ((g1 x m1).trans hx);have ap:=av.int ((g1 y m2).trans aC);refine⟨_,?_,rfl⟩;have e:=akk E G al aZ
 have ax:Op.intBits .or .u8 a b=pure (.int .u8 ((a.toNat ||| b.toNat:Nat):Int)):=by
  exact congrArg (fun aB:Int=>(pure (Value.int .u8 aB):Sem Value)) e
 simp only[execOp,ai,aj,ap,eqGuard,binOp,ax];simp[go_sem]
end
def iG (es:List (Z ak×Z ak)) (aB:Int):Bool:=CT ((b0 (aJ:=ak) (aL:=ak) es aB).getD (cK ak))
def ib (es:List (Z ak×Z ak)) (aB:Int):Nat->Nat
 |0=>0
 |k+1=>if iG es (aB+(k:Int))=true then ib es aB k ||| 2 ^k else ib es aB k
theorem UP (es:List (Z ak×Z ak)) (aB:Int): ∀k,ib es aB k < 2 ^k
 |0=>Nat.one_pos
 |k+1=>by
  have h:=UP es aB k;have G:(2:Nat) ^k < 2 ^(k+1):=Nat.pow_lt_pow_right au6 au5;unfold ib
  split
  .exact Nat.or_lt_two_pow au5 G
  .omega
theorem UQ (es:List (Z ak×Z ak)) (aB:Int) {k:Nat} (h:k<=8):ib es aB k < 256:=by
 have E:=UP es aB k;have G:(2:Nat) ^k<=2 ^8:=Nat.pow_le_pow_right au6 h;omega
def o7 (es:List (Z ak×Z ak)):Nat->List UInt8
 |0=>[]
 |n+1=>o7 es n++[UInt8.ofNat (ib es (8*(n:Int)) 8)]
theorem MB (es:List (Z ak×Z ak)): ∀n,(o7 es n).length=n
 |0=>rfl
 |n+1=>by unfold o7;rw[ap1,MB es n];rfl
def fl (s g:Int):Nat:=((me s g+7)/8).toNat
theorem G3 {s g:Int} (ax:0<=s/\s<=4096) (a6:1<=g/\g<=64):me s g<=8*(fl s g:Int)/\(8*(fl s g:Int) < me s g+8)/\fl s g<=521:=by
 have h:=x8 ax a6;unfold fl;omega
def sG (s g:Int):List UInt8:=ez 2 [s.toNat]++ez 1 [g.toNat]
theorem UR (s g:Int):(sG s g).length=3:=by
 unfold sG;rw[ap1,nn,nn];rfl
def encZ (s g:Int) (es:List (Z ak×Z ak)):List UInt8:=sG s g++o7 es (fl s g)
theorem G4 {s g:Int} (ax:0<=s/\s<=4096) (a6:1<=g/\g<=64) (es:List (Z ak×Z ak)):(encZ s g es).length<=524:=by
 have h:=G3 ax a6;unfold encZ;rw[ap1,UR,MB];omega
abbrev MC (r:Nat) (j:Nat):a1:=[(0,ao 1001),(3,eM r),(5,ae (8*(j:Int)))]
abbrev akm (r:Nat) (j:Nat) (n k:Nat):a1:=[(0,ao 1001),(3,eM r),(5,ae (8*(j:Int))),(6,.c (.one (.d (.int .u8 (n:Int))))),(33,ae (k:Int))]
abbrev G5 (s g:Int) (es:List (Z ak×Z ak)) (r:Nat) (x:List UInt8):ay:=io s g es++[(r,.row 5 .u8 x)]
set_option maxHeartbeats 4000000 in
theorem akn (s g:Int) (es:List (Z ak×Z ak)) (ax:0<=s/\s<=4096) (a6:1<=g/\g<=64):Fn Tryz.prog 120 [ao 1001] (io s g es) [] (bS .u8 (encZ s g es)) (io s g es):=by
 have nB:=Gx s g es ax a6;have kL:=x8 ax a6;have eH:=G3 ax a6;have cV:=UR s g;have iU:=nn 2 [s.toNat];have dY:=GZ 2 [s.toNat] (.inr (.inl rfl)) (fun n hn=>by simp only[aq0] at hn;omega) au7;have cR:=yg (ez 2 [s.toNat]) 1 [g.toNat] (.inl rfl) (fun n hn=>by simp only[aq0] at hn;omega) au7 (by rw[iU];simp);refine aW [] Tryz.func120 rfl rfl rfl rfl ?_;refine au (Fn.arg (Fn.aX [(1002,2002)] dY) ⟨rfl,rfl,Dg ax.1,trivial⟩) ?_;refine au (Fn.arg (Fn.aX [(1001,2002),(1002,2003)] cR) ⟨rfl,rfl,Dg au5,trivial⟩) ?_;refine dX [] (X:=Nat) (fun j=>MC 2001 j) (fun j=>G5 s g es 2001 (sG s g++o7 es j)) (fun j=>j<=fl s g) (fun j=>fl s g - j) 0 (ap7 _) ?_ ?_
 .exact af.trans (af.sub (K':=MC 2003 0) (B':=G5 s g es 2003 (sG s g++o7 es 0)) ac ⟨rfl,rfl,congrArg (fun l=>some (bd.row _ .u8 l)) (as5 _).symm,trivial⟩) (af.aX 2003 2001 rfl)
 intro j aa;have aa:j<=fl s g:=aa;have vJ:=MB es j;refine au nB ?_;refine⟨fun H=>?_,fun H=>?_⟩
 .have H:decide (8*(j:Int) < me s g)=true:=H;have H:=gd H;refine dX [11] (X:=Nat) (fun k=>akm 2001 j (ib es (8*(j:Int)) k) k) (fun _=>G5 s g es 2001 (sG s g++o7 es j)) (fun k=>k<=8) (fun k=>8 - k) 0 (ap7 _) ?_ ?_
  .exact af.sub ac ac
  intro k ab;have ab:k<=8:=ab;have O:=UQ es (8*(j:Int)) ab;refine⟨fun d7=>?_,fun d7=>?_⟩
  .have d7:decide ((k:Int) < 8)=true:=d7;have d7:=gd d7;have cH:cY (8*(j:Int)+(k:Int)):=by omega
   have ag:=UO (k:=(k:Int).toNat) au5;have av:ib es (8*(j:Int)) (k+1)=if iG es (8*(j:Int)+(k:Int))=true then ib es (8*(j:Int)) k ||| 2 ^k else ib es (8*(j:Int)) k:=rfl
   refine⟨cH,fun J=>?_,fun J=>?_⟩
   .have J:iG es (8*(j:Int)+(k:Int))=true:=J;rw[if_pos J] at av;refine bt.m5 (2000000+47) au6 ?_;refine bt.m5 (2000000+48) au6 ?_;refine bz [] (aH) ?_;refine⟨_,_,fun N=>akj rfl rfl rfl au5 au5 N,rfl,?_⟩;refine⟨_,_,fun N=>akl rfl rfl rfl au5 au5 ag.1 ag.2 N,rfl,?_⟩;refine⟨au5,k+1,au5,au5,af.sub ⟨rfl,rfl,rfl,?_,rfl,trivial⟩ ac⟩;rw[av];show((((ib es (8*(j:Int)) k:Nat):Int).toNat ||| (1*((2 ^(k:Int).toNat:Nat):Int)).toNat:Nat):Int)=_;rw[Int.toNat_natCast,Int.one_mul,Int.toNat_natCast,Int.toNat_natCast]
   .have J:iG es (8*(j:Int)+(k:Int))=false:=J;rw[if_neg (by rw[J];decide)] at av;exact⟨au5,k+1,au5,au5,af.sub ⟨rfl,rfl,rfl,(show((ib es (8*(j:Int)) k:Nat):Int)=((ib es (8*(j:Int)) (k+1):Nat):Int) by rw[av]),rfl,trivial⟩ ac⟩
  .have d7:decide ((k:Int) < 8)=false:=d7;have d7:=mu d7;have mM:k=8:=by omega
   subst mM;refine⟨⟨au5,au5⟩,?_,rfl,?_⟩
   .show(sG s g++o7 es j).length+1<=4294967296;rw[ap1];omega
   refine⟨au5,j+1,au5,au5,af.trans (af.sub (K':=MC 53 (j+1)) (B':=G5 s g es 53 (sG s g++o7 es (j+1))) ⟨rfl,rfl,(show 8*(j:Int)+8=8*((j+1:Nat):Int) by omega),trivial⟩ ⟨rfl,rfl,?_,trivial⟩) (af.aX 53 2001 rfl)⟩;refine congrArg (fun l=>some (bd.row _ .u8 l)) ?_;show(sG s g++o7 es j)++[UInt8.ofNat ((ib es (8*(j:Int)) 8:Nat):Int).toNat]=sG s g++(o7 es j++[UInt8.ofNat (ib es (8*(j:Int)) 8)]);rw[Int.toNat_natCast,as6]
 .have H:decide (8*(j:Int) < me s g)=false:=H;have H:=mu H;have fh:j=fl s g:=by omega
  subst fh;exact⟨_,_,_,af.dV 2001 rfl,rfl,rfl,ac,rfl⟩
def mS (es:List (Z ak×Z ak)) (j:Nat):Nat->List UInt8
 |0=>[]
 |n+1=>UInt8.ofNat (ib es (8*(j:Int)) 8)::mS es (j+1) n
theorem US (es:List (Z ak×Z ak)): ∀(n j:Nat),mS es j n++[UInt8.ofNat (ib es (8*((j+n:Nat):Int)) 8)]=mS es j (n+1)
 |0,j=>rfl
 |n+1,j=>by
  have h:=US es n (j+1);rw[show j+1+n=j+(n+1) by omega] at h;show UInt8.ofNat (ib es (8*(j:Int)) 8)::(mS es (j+1) n++[UInt8.ofNat (ib es (8*((j+(n+1):Nat):Int)) 8)])=_;rw[h];rfl
theorem UT (es:List (Z ak×Z ak)): ∀n,o7 es n=mS es 0 n
 |0=>rfl
 |n+1=>by
  have h:=US es n 0;rw[Nat.zero_add] at h;rw[<-h,<-UT es n];rfl
theorem UU (es:List (Z ak×Z ak)) (aB:Int): ∀(m i:Nat),(ib es aB m).testBit i=(decide (i < m)&&iG es (aB+(i:Int)))
 |0,i=>by simp[ib]
 |m+1,i=>by
  unfold ib;have h:=UU es aB m i
  by_cases e:i=m
  .subst e
   split
   .rename_i ag;rw[Nat.testBit_or,h,Nat.testBit_two_pow_self,ag];simp
   .rename_i ag;rw[h];simp at ag;simp[ag]
  .have ap:decide (i < m+1)=decide (i < m):=by
    by_cases q:i < m
    .rw[aq2 q,aq2 au5]
    .rw[ar8 q,ar8 au5]
   rw[ap]
   split
   .rw[Nat.testBit_or,h,Nat.testBit_two_pow_of_ne au5];simp
   .exact h
theorem ako (es:List (Z ak×Z ak)) (aB:Int) {k:Nat} (h:k < 8):(ib es aB 8/2 ^k) &&& 1=if iG es (aB+(k:Int))=true then 1 else 0:=by
 have E:=UU es aB 8 k;rw[aq2 h,Bool.true_and] at E;rw[<-E,<-Nat.shiftRight_eq_div_pow,Nat.testBit,Nat.and_comm];have G:1 &&& (ib es aB 8 >>> k)<=1:=Nat.and_le_left;generalize 1 &&& (ib es aB 8 >>> k)=y at*;have:y=0\/y=1:=by omega
 rcases this with rfl |rfl <;>rfl
def hj (es:List (Z ak×Z ak)):Nat->List (Z ak×Z ak)
 |0=>[]
 |n+1=>if iG es (n:Int)=true then dr (aJ:=ak) (aL:=ak) (hj es n) (n:Int) (1:Int) else hj es n
def j9 (s g:Int) (es:List (Z ak×Z ak)):Prop:= ∀aB,iG es aB=true->0<=aB/\aB < me s g
abbrev akp (j:Nat):a1:=[(4,ao 3001),(5,ao 4001),(7,ae (8*(j:Int)))]
abbrev akq (j:Nat) (n k:Nat):a1:=[(4,ao 3001),(5,ao 4001),(7,ae (8*(j:Int))),(8,ae (n:Int)),(35,ae (k:Int))]
abbrev UV (s g:Int) (es:List (Z ak×Z ak)) (x:List UInt8):ay:=[(3001,.cells [.d (.ck .u8 x),.d (.int .i64 0)]),(4001,.cells [.d (.int .i64 s),.d (.int .i64 g),.mp 4002]),(4002,.map ak ak es)]
theorem akr (n:Nat):ea n 1=[UInt8.ofNat n]:=by
 show[UInt8.ofNat (n/256 ^0 % 256)]=_;rw[Nat.pow_zero,Nat.div_one]
 congr 1
 exact UInt8.ofNat_mod_size (x:=n)
set_option maxHeartbeats 4000000 in
theorem aks (s g:Int) (es:List (Z ak×Z ak)) (ai:n3 s g=true) (bb:j9 s g es):Fn Tryz.prog 113 [bS .u8 (encZ s g es)] [] [2001,2002] (.ce [.one (.ptr 2001 0),dw 0])
  [(2001,.cells [.d (.int .i64 s),.d (.int .i64 g),.mp 2002]),(2002,.map ak ak (hj es (8*fl s g)))]:=by
 obtain⟨ax,akt,sB⟩:=Gk ai;have a6:1<=g/\g<=64:=⟨akt,sB⟩;have kL:=x8 ax a6;have eH:=G3 ax a6;have cW:=G4 ax a6 es;have fp:=G0 (encZ s g es) au5;have ky:=o5 (encZ s g es,0) 2 (.inr (.inl rfl))
 have aY:encZ s g es=ea s.toNat 2++(ea g.toNat 1++mS es 0 (fl s g)):=by
  unfold encZ sG ez;rw[UT];simp
 rw[aY,o6 au5] at ky;have cH:=o5 (ea g.toNat 1++mS es 0 (fl s g),0) 1 (.inl rfl);rw[o6 au5] at cH;have ky:Fn Tryz.prog 111 [ao 1001,ae 2] (kU (encZ s g es,0)) [] (ae ((s.toNat:Nat):Int)) (kU (ea g.toNat 1++mS es 0 (fl s g),0)):=by rw[aY];exact ky
 have cH:Fn Tryz.prog 111 [ao 1001,ae 1] (kU (ea g.toNat 1++mS es 0 (fl s g),0)) [] (ae ((g.toNat:Nat):Int)) (kU (mS es 0 (fl s g),0)):=cH;have MD:((s.toNat:Nat):Int)=s:=by omega
 have aku:((g.toNat:Nat):Int)=g:=by omega
 rw[MD] at ky;rw[aku] at cH;have V:Fn Tryz.prog 123 [ao 1001] (kU (mS es 0 (fl s g),0)) [] (ae 0) (kU (mS es 0 (fl s g),0)):=UE (mS es 0 (fl s g),0);have lZ:=LB s g ai;have lJ:Fn Tryz.prog 114 [ao 1001] (kU ([],0)) [] (ae 0) (kU ([],0)):=Mw ([],0);generalize encZ s g es=X at*;refine aW [] Tryz.func113 rfl rfl rfl rfl ?_;refine au (Fn.aX [(1001,3001)] fp) ?_;refine au (Fn.aX [(1001,3001)] ky) ?_;refine au (Fn.aX [(1001,3001)] cH) ?_;refine au (Fn.aX [(2001,4001),(2002,4002)] lZ) ?_;refine da ?_;refine au (Fn.aX [(1001,3001)] V) ?_;refine da ?_;refine dX [] (X:=Nat) (fun j=>akp j) (fun j=>UV s g (hj es (8*j)) (mS es j (fl s g - j))) (fun j=>j<=fl s g) (fun j=>fl s g - j) 0 (ap7 _) ?_ ?_
 .exact af.sub ac ac
 intro j aa;have aa:j<=fl s g:=aa;refine au (Fn.aX [(1001,4001),(1002,4002)] (Gx s g (hj es (8*j)) ax a6)) ?_;refine⟨fun H=>?_,fun H=>?_⟩
 .have H:decide (8*(j:Int) < me s g)=true:=H;have H:=gd H;have O:=UQ es (8*(j:Int)) (ap0 8);have dF:=o5 (ea (ib es (8*(j:Int)) 8) 1++mS es (j+1) (fl s g - (j+1)),0) 1 (.inl rfl);rw[o6 au5] at dF
  have bm:mS es j (fl s g - j)=ea (ib es (8*(j:Int)) 8) 1++mS es (j+1) (fl s g - (j+1)):=by
   rw[show fl s g - j=(fl s g - (j+1))+1 by omega,akr];rfl
  rw[<-bm] at dF;refine au (Fn.aX [(1001,3001)] dF) ?_;refine dX [] (X:=Nat) (fun k=>akq j (ib es (8*(j:Int)) 8) k) (fun k=>UV s g (hj es (8*j+k)) (mS es (j+1) (fl s g - (j+1)))) (fun k=>k<=8) (fun k=>8 - k) 0 (ap7 _) ?_ ?_
  .exact af.sub ac ac
  intro k ab;have ab:k<=8:=ab;refine⟨fun d7=>?_,fun d7=>?_⟩
  .have d7:decide ((k:Int) < 8)=true:=d7;have d7:=gd d7;have akv:=ako es (8*(j:Int)) (k:=k) au5
   have b9:hj es (8*j+(k+1))=if iG es (8*(j:Int)+(k:Int))=true then dr (aJ:=ak) (aL:=ak) (hj es (8*j+k)) (8*(j:Int)+(k:Int)) (1:Int) else hj es (8*j+k):=by
    show(if iG es ((8*j+k:Nat):Int)=true then dr (aJ:=ak) (aL:=ak) (hj es (8*j+k)) ((8*j+k:Nat):Int) (1:Int) else hj es (8*j+k))=_;rw[show((8*j+k:Nat):Int)=8*(j:Int)+(k:Int) by omega]
   have akw:=bb (8*(j:Int)+(k:Int));generalize ib es (8*(j:Int)) 8=n at*;have jZ:n/2 ^k<=n:=Nat.div_le_self _ _
   have aC:0<=((n/2 ^k:Nat):Int)/\((n/2 ^k:Nat):Int)<=9223372036854775807:=by
    generalize n/2 ^k=y at*;omega
   have aV:((n:Int)/((2 ^(k:Int).toNat:Nat):Int))=((n/2 ^k:Nat):Int):=by rw[Int.toNat_natCast];exact(Int.natCast_ediv _ _).symm
   have la:cY (8*(j:Int)+(k:Int)):=by omega
   refine⟨⟨au5,au5,au5⟩,_,_,fun N=>FY rfl rfl rfl (by rw[aV];exact aC.1) (by rw[aV];exact aC.2) au5 au5 N,rfl,?_⟩
   have ut:((((n:Int)/((2 ^(k:Int).toNat:Nat):Int)).toNat &&& (1:Int).toNat:Nat):Int)=if iG es (8*(j:Int)+(k:Int))=true then 1 else 0:=by
    rw[aV,Int.toNat_natCast];show(((n/2 ^k) &&& 1:Nat):Int)=_;rw[akv]
    split <;>rfl
   refine⟨fun J=>?_,fun J=>?_⟩
   .have J:=gd J
    have ag:iG es (8*(j:Int)+(k:Int))=false:=by
     cases ag:iG es (8*(j:Int)+(k:Int))
     .rfl
     .rw[ag,if_pos rfl] at ut;have J:((((n:Int)/((2 ^(k:Int).toNat:Nat):Int)).toNat &&& (1:Int).toNat:Nat):Int)=0:=J;omega
    rw[ag,if_neg au6] at b9;refine⟨au5,k+1,au5,au5,af.sub ac ⟨rfl,rfl,?_,trivial⟩⟩;exact congrArg (fun l=>some (bd.map ak ak l)) b9.symm
   .have J:=mu J
    have ag:iG es (8*(j:Int)+(k:Int))=true:=by
     cases ag:iG es (8*(j:Int)+(k:Int))
     .rw[ag,if_neg au6] at ut;exact absurd ut J
     .rfl
    rw[ag,if_pos rfl] at b9;have aR:=akw ag;refine⟨la,au (Fn.aX [(1001,4001),(1002,4002)] (Gx s g (hj es (8*j+k)) ax a6)) ?_⟩;refine⟨fun h=>absurd (gd h) au5,fun _=>?_⟩;refine⟨la,trivial,au5,k+1,au5,au5,af.sub ac ⟨rfl,rfl,?_,trivial⟩⟩;exact congrArg (fun l=>some (bd.map ak ak l)) b9.symm
  .have d7:decide ((k:Int) < 8)=false:=d7;have d7:=mu d7;have mM:k=8:=by omega
   subst mM;refine⟨au5,j+1,au5,au5,af.sub ⟨rfl,rfl,(show 8*(j:Int)+8=8*((j+1:Nat):Int) by omega),trivial⟩ ac⟩
 .have H:decide (8*(j:Int) < me s g)=false:=H;have H:=mu H;have fh:j=fl s g:=by omega
  subst fh;rw[Nat.sub_self];refine au (Fn.aX [(1001,3001)] lJ) ?_;refine da ?_;exact⟨_,_,_,af.trans (af.aX 4001 2001 rfl) (af.aX 4002 2002 rfl),rfl,ac,ac,rfl⟩
end
end Go.Proofs.YthnboghbhgapcaaGreat
