/-
A part of the proof of this claim: lemmas, with no condition beyond what each says.
-/
import Derived.Deep.RegionLaw
import Derived.Test.YtkfbeijmgggkmaaGreatZd16
set_option linter.unusedVariables false
set_option linter.unusedSimpArgs false
set_option maxRecDepth 10000
set_option maxHeartbeats 4000000
namespace Go.Proofs.YtkfbeijmgggkmaaGreat
open Go.RowKit Go.Proofs
section
abbrev Nh (r:Nat) (L:List bW):az:=[(1001,.cells [.own r]),(r,.row 78 lV L)]
end
section
abbrev U7 (r k:Nat) (L:List bW):aY:=[(3,eM r),(9,eM 1002),(10,ab (L.length:Nat)),(11,ab (k:Nat))]
abbrev U8 (L:List bW) (r:Nat) (l:List aC3):az:=(r,.row 9 .str l)::kT L
theorem akK (L:List bW) (cL:L.length<=1000000):Fn Tryz.prog 16 [aq 1001] (kT L) [] (bQ .str (L.map ep)) (kT L):=by
 refine aU [] Tryz.func16 ?_;refine d2 [] (X:=Nat) (fun k=>U7 2002 k L) (fun k=>U8 L 2002 ((L.take k).map ep)) (fun k=>k<=L.length) (fun k=>L.length - k) 0 (aq8 _) ?_ ?_
 .exact ac.trans (ac.nil 3 2002 9 .str rfl rfl) (ac.sub aC aC)
 intro k aa;refine⟨fun h=>?_,fun h=>?_⟩
 .have ct:k < L.length:=az3
  refine⟨⟨ay4,ay4⟩,L[k],pW rfl ct,rfl,?_,rfl,?_⟩
  .show((L.take k).map ep).length+1<=4294967296;rw[ar1,aq9];omega
  exact⟨ay4,k+1,ct,ay4,ac.trans (ac.sub (K':=U7 19 (k+1) L) (B':=U8 L 19 ((L.take (k+1)).map ep)) aC ⟨congrArg (fun l=>some (ba.row _ .str l)) (akA ep ct),rfl,rfl,trivial⟩) (ac.aV 19 2002 rfl)⟩
 .have ct:k=L.length:=by
    have: ¬k < L.length:=az3
    omega
  subst ct;exact⟨_,_,_,ac.d0 2002 rfl,rfl,(show(L.take L.length).map ep=L.map ep by rw[ar9]),aC,rfl⟩
end
section
theorem DO:(Tryz.prog.info? 78).map (fun i=>(i.zero,i.size,i.bytes))=some (some (.agg #[.string ⟨#[]⟩,.string ⟨#[]⟩,.int .i64 0,.int .i64 0,.slice none 0 0]),5,72):=by kernel_rfl
set_option maxRecDepth 100000 in
theorem akL (v:Value) (n:Nat) (xs:List Value) (w:World) (ay:w.ownsRow 0 78 5 v n xs) (hn:n<=4294967296) (E: ∀u∈xs,u.oneCell'=true) (k9:0 < n):
  Calls Tryz.prog 142 #[v] w fun e w'=> ∃df,e= .returned df/\w'.ownsRow w.heap.size 78 5 df n xs/\Below w.heap.size w w':=by
 have hB:=fC.ps ay;obtain⟨b,o,c,rfl,-,-,-,-,-⟩:=hB.at_ k9;have akM:=Lib.hid hB;have CD:=Lib.hid E;clear ay hB E;have yh:=Lib.run_eql_slice_nil (P:=Tryz.prog)
 go_enter Tryz.func142,Tryz.ntmps142
 go_wp2_with (at_builtin;refine O4 _ rfl (.tmp 5) (.tmp 6) _ rfl w.heap.size 78 _ 5 72 Tryz.underlying91 DO rfl ay4 (.slice (some ⟨w.heap.size,0,none⟩) 0 0) 0 [] rfl (by exact⟨ay6,.inr ⟨w.heap.size,0,#[],rfl,aq0 _,heap_alloc_new w _,aq0 _,ay5,rfl,rfl⟩⟩) _ (.slice (some ⟨b,o,none⟩) n c) n xs rfl (by exact akM.out.below (tb _ _)) CD.out aA9 ay4 ay6 ?_;intro df dX dw rK jN)
 go_wp2
 go_ret
 refine⟨df,rfl,by simpa using dw,?_⟩;exact(tb _ _).grown rK ay6 (fun k aa=>by simp[Value.ownBlock] at aa;omega)
theorem akN {P:Program} (w:World) (t ty e:TypeId) (aB:Value) (size bytes:Nat) (cq:P.underlying t=some (.slice e)) (qb:(P.info? e).map (fun i=>(i.zero,i.size,i.bytes))=some (some aB,size,bytes))
  (g k cap:Nat) (c9:List Value) (aZ:w.heap[g]? =some (.cells c9.toArray e (0,0))) (D:Nat->Prop) (h9:Value) (m:Nat) (e0:List Value) (ax:fC D w size h9 m e0) (E: ∀u∈e0,u.oneCell'=true)
  (BV:k+m<=cap) (kl:(k+m)*size<=c9.length):
  ∃w',(Builtin.append_ #[t,t] ty #[.slice (some ⟨g,0,none⟩) k cap,h9]).run P w= .ok (.slice (some ⟨g,0,none⟩) (k+m) cap) w'/\w'.heap[g]? =some (.cells (splice c9 (k*size) e0).toArray e (0,0))/\w.grownBy w' (some g):=by
 obtain⟨i,aF,aN,y9,uf⟩:=info_parts qb;subst y9;obtain⟨ak,A,c,rfl,_,_,af⟩:=ax;have akO:k*i.size+e0.length<=c9.length:=by rw[ak,<-Nat.add_mul];exact kl
 rcases A with _ |ad
 .have aA:m=0:=by
   rcases Nat.eq_zero_or_pos m with au |au
   .exact au
   .obtain⟨b,o,h,_⟩:=af au
    cases h
  subst aA;have hn:e0=[]:=at9 aC1;subst hn;refine⟨w,?_,by simpa[splice] using aZ,World.grownBy.refl w _⟩;have akP:k<=cap:=az2
  simp[Builtin.append_,run_underlying cq,sizeOf,typeInfo,aF,Builtin.lenOf,Builtin.firstCells,akP,storeCells]
 .have xg: ∀j u,e0[j]? =some u->w.cell? (ad.add j)=some u:=by
   intro j u a6;rcases Nat.eq_zero_or_pos m with au |au
   .subst au;have hn:e0=[]:=at9 aC1;subst hn;simp at a6
   .obtain⟨b,o,h,_,_,J⟩:=af au;injection h with h
    subst h;rw[pr];exact J j u a6
  refine⟨_,run_append_room (P:=P) w t ty e i cq aF g k cap c9.toArray aZ ad m c e0 ak xg E BV (by simpa using akO),?_,⟨rfl,rfl,rfl,by simp[World.setRow],fun dZ _ aa=>setRow_other w g dZ _ (fun e=>aa (by rw[e]))⟩⟩;rw[setRow_heap w g c9.toArray _ e (0,0) aZ];simp[splice]
theorem U9 {P:Program} (w:World) {c':Array Oper} {o:Oper} {a:Act} {K:Act->World->Prop} {Q:Exit->Act->World->Prop} {uy:Prop} (nM:o.guard=none) (s x:Operand) (t:TypeId)
  (ah:o.op= .call {callee:=.builtin .append,args:= #[s,x],argTypes:= #[t,t]})
  (e:TypeId) (aB:Value) (size bytes:Nat) (cq:P.underlying t=some (.slice e)) (qb:(P.info? e).map (fun i=>(i.zero,i.size,i.bytes))=some (some aB,size,bytes))
  (g k cap:Nat) (aw:a.eval s= .slice (some ⟨g,0,none⟩) k cap) (c9:List Value) (aZ:w.heap[g]? =some (.cells c9.toArray e (0,0))) (D:Nat->Prop) (h9:Value) (m:Nat) (e0:List Value) (hx:a.eval x=h9) (ax:fC D w size h9 m e0) (E: ∀u∈e0,u.oneCell'=true)
  (BV:k+m<=cap) (kl:(k+m)*size<=c9.length)
  (h: ∀w',w'.heap[g]? =some (.cells (splice c9 (k*size) e0).toArray e (0,0))->w.grownBy w' (some g)->K (a.put o.dst (.slice (some ⟨g,0,none⟩) (k+m) cap)) w'):
  if Region.wanted o (yielded c' a.tmps)=true then Oper.wp P o a w K Q else uy:=by
 have hw:Region.wanted o (yielded c' a.tmps)=true:=by simp[Region.wanted,nM]
 rw[if_pos hw];obtain⟨w',dN,G,af⟩:=akN (P:=P) w t o.type e aB size bytes cq qb g k cap c9 aZ D h9 m e0 ax E BV kl;unfold Oper.wp execOp;simp only[ah,resolve,invoke,builtin,Sem.run_bind,Sem.run_pure,Result.andThen_ok,List.map_toArray,ar4,ax6,aw,hx,dN];exact h w' G af
theorem akQ {P:Program} (w:World) (t ty e:TypeId) (aB:Value) (size bytes:Nat) (cq:P.underlying t=some (.slice e)) (qb:(P.info? e).map (fun i=>(i.zero,i.size,i.bytes))=some (some aB,size,bytes)) (nL:aB.cells.size=size) (Ni: ∀u∈aB.cells.toList,u.oneCell'=true)
  (g o c:Nat) (c9:List Value) (aZ:w.heap[g]? =some (.cells c9.toArray e (0,0))) (kl:o+size<=c9.length):
  ∃w',(Builtin.clear_ #[t] ty #[.slice (some ⟨g,o,none⟩) 1 c]).run P w= .ok (.tuple #[]) w'/\w'.heap[g]? =some (.cells (splice c9 o aB.cells.toList).toArray e (0,0))/\w.grownBy w' (some g):=by
 obtain⟨i,aF,aN,y9,uf⟩:=info_parts qb
 have vY:(Builtin.zeroCells aB.cells 1).toList=aB.cells.toList:=by
  have:Builtin.zeroCells aB.cells 1=aB.cells:=by
   apply Array.ext
   .simp[Builtin.zeroCells]
   .intro j E G;simp[Builtin.zeroCells,Nat.mod_eq_of_lt G,G]
  rw[this]
 have en:=run_storeCells_at P g o e aB.cells.toList 0 c9.toArray w aZ (by simp[nL];omega) Ni;simp only[aw3] at en;refine⟨w.setRow g (List.take o c9++aB.cells.toList++List.drop (o+aB.cells.toList.length) c9).toArray,by simp[Builtin.clear_,run_underlying cq,zeroValue,typeInfo,aF,aN,vY,en],?_,⟨rfl,rfl,rfl,by simp[World.setRow],fun dZ _ aa=>setRow_other w g dZ _ (fun e=>aa (by rw[e]))⟩⟩;rw[setRow_heap w g c9.toArray _ e (0,0) aZ];simp[splice]
theorem U' {P:Program} (w:World) {c':Array Oper} {rest:List Oper} {o:Oper} {a:Act} {Q:Exit->Act->World->Prop} (nM:o.guard=none) (x:Operand) (t:TypeId)
  (ah:o.op= .call {callee:=.builtin .clear,args:= #[x],argTypes:= #[t]})
  (e:TypeId) (aB:Value) (size bytes:Nat) (cq:P.underlying t=some (.slice e)) (qb:(P.info? e).map (fun i=>(i.zero,i.size,i.bytes))=some (some aB,size,bytes)) (nL:aB.cells.size=size) (Ni: ∀u∈aB.cells.toList,u.oneCell'=true)
  (g off c:Nat) (hx:a.eval x= .slice (some ⟨g,off,none⟩) 1 c) (c9:List Value) (aZ:w.heap[g]? =some (.cells c9.toArray e (0,0))) (kl:off+size<=c9.length)
  (h: ∀w',w'.heap[g]? =some (.cells (splice c9 off aB.cells.toList).toArray e (0,0))->w.grownBy w' (some g)->wpList P c' Q rest (a.put o.dst (.tuple #[])) w'):wpList P c' Q (o::rest) a w:=
 wpList_plain nM fun _ cV=>by
  obtain⟨w',dN,G,af⟩:=akQ (P:=P) w t o.type e aB size bytes cq qb nL Ni g off c c9 aZ kl;unfold Oper.wp execOp;simp only[ah,resolve,invoke,builtin,Sem.run_bind,Sem.run_pure,Result.andThen_ok,List.map_toArray,ar4,ax6,hx,dN];exact cV _ _ (h w' G af)
theorem Va {α:Type} (L:List α) (o:Nat):splice L o []=L:=by simp[splice]
theorem Vb {w w':World} {r:Option Nat} (h:w.drew.grownBy w' r):w.grownBy w' r:=⟨h.os,h.tape,h.output,h.size,h.block⟩
theorem Vc: ∀u∈(Value.agg #[.string ⟨#[]⟩,.string ⟨#[]⟩,.int .i64 0,.int .i64 0,.slice none 0 0]).cells.toList,u.oneCell'=true:=by simp[Value.cells,Value.oneCell']
theorem Vd {iw:World} {B g m cap:Nat} {c9 xs ww:List Value} (c5:B<=g) (bf:iw.heap[g]? =some (.cells (splice c9 (m*5) ww).toArray 78 (0,0))) (aA:m<=cap) (zx:cap<=maxLen) (J:c9.length=cap*5) (aN:m*5+ww.length<=cap*5) (hx:c9.take (m*5)=xs) (vZ:xs.length=m*5):
  iw.ownsRow B 78 5 (.slice (some ⟨g,0,none⟩) m cap) m xs:=by
 refine⟨vZ,.inr ⟨g,cap,_,rfl,c5,bf,aA,zx,?_,?_⟩⟩
 .simp only[List.size_toArray];rw[length_splice _ _ _ ay4,J]
 .simp only[splice];rw[List.take_append_of_le_length az8,at2 az8];exact hx
set_option maxRecDepth 100000 in
theorem akR (B g k:Nat) (xs:List Value) (w:World) (ay:w.ownsRow B 78 5 (.slice (some ⟨g,0,none⟩) (k+1) (k+1)) (k+1) xs):
  Calls Tryz.prog 141 #[.slice (some ⟨g,0,none⟩) (k+1) (k+1),.int .i64 k,.int .i64 (k+1)] w fun e w'=>e= .returned (.slice (some ⟨g,0,none⟩) k (k+1))/\
   w'.ownsRow B 78 5 (.slice (some ⟨g,0,none⟩) k (k+1)) k (xs.take (k*5))/\w.grownBy w' (some g):=by
 obtain⟨ak,G⟩:=ay;rcases G with⟨h,_⟩ |⟨hp,Jx,c9,U,c5,bf,Ev,zx,e8,nb⟩
 .cases h
 injection U with ae ao bm
 injection ae with ae
 injection ae with ae
 subst ae bm;clear ao;unfold maxLen at zx;have akS:(0:Int)<=(k:Int):=az2
 have oV:(k:Int)<=(k:Int)+1:=az2
 have Ab:((k:Int) == (k:Int)+1)=false:=az8
 have qH:(0:Int)<=(k:Int)+1:=az2
 have uX:(k:Int)+1<=((k+1:Nat):Int):=az2
 have lf:k<=k+1:=az2
 have Nj:=Lib.hid bf;have vo:=Lib.hid (show c9.toList.length=(k+1)*5 by rw[Array.length_toList,e8]);have DP:=Lib.hid ak;have Nk:=Lib.hid nb;have Nl:=Lib.hid c5;have h1:fC (fun _=>True) w 5 (.slice (some ⟨g,0,none⟩) 0 0) 0 []:=⟨ay6,_,_,rfl,ay4,by simp only[maxLen];omega,fun h=>absurd h ay4⟩;have Nm:=Lib.hid h1;clear bf e8 ak nb h1
 go_enter Tryz.func141,Tryz.ntmps141
 go_wp2
 go_region_law ((refine U9 _ ay8 (.tmp 22) (.tmp 25) _ ay8 78 _ 5 72 Tryz.underlying91 DO g k (k+1) ay8 c9.toList (by exact Nj.out) (fun _=>True) _ 0 [] ay8 (by exact Nm.out) (fun u a6=>by cases a6) ay4 (by rw[vo.out];omega) ?_;intro e6 Nn No))
 all_goals rw[aw3]
 all_goals
  go_wp2_with (refine U' _ rfl (.tmp 31) 91 rfl 78 _ 5 72 Tryz.underlying91 DO rfl Vc g (k*5) 1 rfl _ Nn (by rw[Va,vo.out];omega) ?_;intro iw HF Np)
  go_ret
  refine⟨rfl,?_,(Vb No).trans Np⟩;rw[Va] at HF;refine Vd Nl.out HF ay4 aA9 vo.out (by simp[Value.cells];omega) ?_ (by rw[aq9,DP.out];omega);rw[<-Nk.out,List.take_take]
  congr 1
  omega
set_option maxRecDepth 100000 in
theorem akT (B g m cap k:Nat) (xs:List Value) (w:World) (ay:w.ownsRow B 78 5 (.slice (some ⟨g,0,none⟩) (m+1) cap) (m+1) xs) (aa:k<=m) (a7: ¬cap=k+1) (E: ∀u∈xs,u.oneCell'=true):
  Calls Tryz.prog 141 #[.slice (some ⟨g,0,none⟩) (m+1) cap,.int .i64 k,.int .i64 (k+1)] w fun e w'=>e= .returned (.slice (some ⟨g,0,none⟩) m cap)/\
   w'.ownsRow B 78 5 (.slice (some ⟨g,0,none⟩) m cap) m (xs.take (k*5)++xs.drop ((k+1)*5))/\w.grownBy w' (some g):=by
 obtain⟨ak,G⟩:=ay;rcases G with⟨h,_⟩ |⟨hp,Jx,c9,U,c5,bf,Ev,zx,e8,nb⟩
 .cases h
 injection U with ae ao bm
 injection ae with ae
 injection ae with ae
 subst ae bm;clear ao;unfold maxLen at zx;have akS:(0:Int)<=(k:Int):=az2
 have oV:(k:Int)<=(k:Int)+1:=az2
 have Ab:((k:Int) == (k:Int)+1)=false:=az8
 have qH:(0:Int)<=(k:Int)+1:=az2
 have oW:(k:Int)+1<=((m+1:Nat):Int):=az2
 have aqx:(k:Int)+1<=(m:Int)+1:=az2
 have uX:((m+1:Nat):Int)<=(cap:Int):=az2
 have aqy:(m:Int)+1<=(cap:Int):=az2
 have aqz:(k:Int)+1<=(cap:Int):=az2
 have aqA: ¬cap=0:=az2
 have i8: ¬cap=m:=az2
 have lf:k<=cap:=az2
 have w2:k+1<=m+1:=az2
 have aqB:k+1<=cap:=az2
 have aqC:m<=m+1:=az2
 have aqD:m+1<=cap:=az2
 have Nj:=Lib.hid bf;have CD:=Lib.hid E;have vo:=Lib.hid (show c9.toList.length=cap*5 by rw[Array.length_toList,e8]);have DP:=Lib.hid ak;have Nk:=Lib.hid nb;have Nl:=Lib.hid c5;have bV:(xs.drop ((k+1)*5)).length=(m+1 - (k+1))*5:=by rw[au9,ak];omega
 have DQ:=Lib.hid bV;have cC:=l3 bf
 have CH: ∀j u,(xs.drop ((k+1)*5))[j]? =some u->w.cell? ⟨g,(k+1)*5+j,none⟩=some u:=by
  intro j u V;rw[List.getElem?_drop,<-nb,au6] at V
  split at V
  .simpa[World.cell?,bf] using V
  .cases V
 have h1: ∀q c,q=m+1 - (k+1)->q<=c->c<=maxLen->fC (fun _=>True) w 5 (.slice (some ⟨g,(k+1)*5,none⟩) q c) (m+1 - (k+1)) (xs.drop ((k+1)*5)):=fun q c aT G af=>by
  subst aT;exact⟨bV,_,_,rfl,G,af,fun h=>⟨g,_,rfl,trivial,cC,CH⟩⟩
 have Nm:=Lib.hid h1;have zU:k+(m+1 - (k+1))=m:=az2
 have akU:=Lib.hid zU;have akV:=Lib.hid (show k+(m - k)=m by omega);clear bf E e8 ak nb bV CH h1 zU
 go_enter Tryz.func141,Tryz.ntmps141
 go_wp2
 go_region_law ((refine U9 _ ay8 (.tmp 22) (.tmp 25) _ ay8 78 _ 5 72 Tryz.underlying91 DO g k cap ay8 c9.toList (by exact Nj.out) (fun _=>True) _ (m+1 - (k+1)) (xs.drop ((k+1)*5)) ay8 (by exact Nm.out _ _ ay4 ay4 (by simp only[maxLen];omega)) (fun u a6=>CD.out u (List.mem_of_mem_drop a6)) ay4 (by rw[vo.out];omega) ?_;intro e6 Nn No))
 all_goals try (first |rw[akU.out] |rw[akV.out])
 all_goals
  go_wp2_with (refine U' _ rfl (.tmp 31) 91 rfl 78 _ 5 72 Tryz.underlying91 DO rfl Vc g (m*5) (cap - m) rfl _ Nn (by rw[length_splice _ _ _ (by rw[DQ.out,vo.out];omega),vo.out];omega) ?_;intro iw HF Np)
  go_ret
  refine⟨rfl,?_,(Vb No).trans Np⟩;refine Vd Nl.out HF ay4 aA9 (by rw[length_splice _ _ _ (by rw[DQ.out,vo.out];omega),vo.out]) (by simp[Value.cells];omega) ?_ (by rw[aq1,aq9,DQ.out,DP.out];omega)
  have ae:List.take (k*5) c9.toList=xs.take (k*5):=by
   rw[<-Nk.out,List.take_take];congr 1;omega
  unfold splice;rw[ae,<-au2,List.take_append_of_le_length (by rw[aq1,aq9,DQ.out,DP.out];omega)];exact at2 (by rw[aq1,aq9,DQ.out,DP.out];omega)
theorem akW (B g m cap k:Nat) (xs:List Value) (w:World) (ay:w.ownsRow B 78 5 (.slice (some ⟨g,0,none⟩) (m+1) cap) (m+1) xs) (aa:k<=m) (E: ∀u∈xs,u.oneCell'=true):
  Calls Tryz.prog 141 #[.slice (some ⟨g,0,none⟩) (m+1) cap,.int .i64 k,.int .i64 (k+1)] w fun e w'=>e= .returned (.slice (some ⟨g,0,none⟩) m cap)/\
   w'.ownsRow B 78 5 (.slice (some ⟨g,0,none⟩) m cap) m (xs.take (k*5)++xs.drop ((k+1)*5))/\w.grownBy w' (some g):=by
 by_cases J:cap=k+1
 .have akX:m=k:=by
   rcases ay.2 with⟨h,_⟩ |⟨hp,Jx,c9,U,_,_,af,_⟩
   .cases h
   .injection U with _ _ bm
    omega
  subst akX J;refine(akR B g m xs w ay).mono fun e w' ⟨U,G,af⟩=>⟨U,?_,af⟩
  rw[List.drop_of_length_le (by have:=ay.1;omega),at6];exact G
 .exact akT B g m cap k xs w ay aa J E
end
section
theorem Ve {I:Nat->Prop} {w:World} {u:bz} {xs:List (Z u)} {cs:List Value} (aN:0 < aQ u) (ak:cs.length=xs.length*aQ u) (h:gR I w u xs cs): ∀v∈cs,v.oneCell'=true:=fun v ay=>by
 obtain⟨k,aa,rfl⟩:=aw0 ay;obtain⟨ae,ao,bm⟩:=Ey (show k < xs.length*aQ u by omega);obtain⟨df,E,G⟩:=cu.one u _ _ (h (k/aQ u) _ (oj ae)) (k % aQ u) ao;rw[bm,oj aa] at E;injection E with E
 rw[E];exact G
theorem cu.Vf {I:Nat->Prop} {w:World} {u:bz} {x:Z u} {c b9:Nat->Option Value} (h:cu I w u x c) (J: ∀j v,j < aQ u->c j=some v->b9 j=some v):cu I w u x b9:=
 cu.mk u x b9 (cu.wf u x c h) fun j V=>by
  obtain⟨v,E,G⟩:=cu.cell u x c j h V;exact⟨v,J j v V E,G⟩
theorem akY {I:Nat->Prop} {w:World} {u:bz} {xs:List (Z u)} {cs:List Value} {k:Nat} (aa:k < xs.length) (ak:cs.length=xs.length*aQ u) (h:gR I w u xs cs):gR I w u (xs.eraseIdx k) (cs.take (k*aQ u)++cs.drop ((k+1)*aQ u)):=fun i x aF=>by
 rw[List.getElem?_eraseIdx] at aF;have He:(k+1)*aQ u<=xs.length*aQ u:=au8 _ aa;have ct:(k+1)*aQ u=k*aQ u+aQ u:=aw4 k (aQ u);have bt:(cs.take (k*aQ u)).length=k*aQ u:=aA2
 split at aF
 .rename_i vg;have:(i+1)*aQ u<=k*aQ u:=au8 _ vg;rw[aw4] at this;refine(h i x aF).Vf fun j v V ay=>?_
  rw[as6 ay4,au6,if_pos ay4];exact ay
 .rename_i vg;have:k*aQ u<=i*aQ u:=au8 _ ay4;have ae:(i+1)*aQ u=i*aQ u+aQ u:=aw4 i (aQ u);refine(h (i+1) x aF).Vf fun j v V ay=>?_
  rw[at1 ay4,List.getElem?_drop,bt];rw[<-ay]
  congr 1
  omega
set_option maxRecDepth 100000 in
theorem akZ (L:List bW) (au:0 < L.length) (cL:L.length<=4294967296):
  Fn Tryz.prog 142 [eM 1001] [(1001,.row 78 lV L)] [1002] (eM 1002) [(1001,.row 78 lV L),(1002,.row 78 lV L)]:=by
 refine⟨ay7,?_⟩;intro ρ F I w bU a8 cZ bh eE bV dy
 match bU,bV with
 | [v],_=>
  obtain rfl:v=(ρ 1001).ef:=dy 0 _ v rfl rfl;have bf:=cZ 1001 _ rfl;obtain⟨tD,i6,cs,yH,ji⟩:=bf;refine(akL (ρ 1001).ef L.length cs w yH cL (Ve ay5 yH.1 ji) au).mono ?_;rintro e w' ⟨df,rfl,dw,O⟩;rcases dw.2 with⟨_,hn⟩ |⟨g,cap,c9,rfl,aZ,sN,xw,aA,e8,nb⟩
  .omega
  have CY:g < w'.heap.size:=(aw5.1 sN).1;have a1:cm I w I w':=fun b fN=>⟨fN,O.block b (a8 b fN)⟩
  refine⟨_,da ρ 1002 ⟨g,some ⟨g,0,none⟩,L.length,cap⟩,da F 1002 (fun b=>b=g),rfl,cS.pq O,?_,I,a1,?_,?_,?_,?_,?_⟩
  .intro c J;exact dh _ _ (fun e=>J (by simp[e]))
  .intro b fN;exact⟨ar6 (a8 b fN) O.size,.inl fN⟩
  .intro c ch J;rw[cd] at J
   split at J
   .rename_i dL;subst dL;injection J with J;subst J
    rw[dh _ _ ay5,dh _ _ ay5];exact⟨tD,i6,cs,O' yH (fun b hm=>O.block b ((bh 1001 _ rfl b ((tD b).2 hm)).1)),ji.mono a1⟩
   .rw[cd] at J
    split at J
    .rename_i dL;subst dL;injection J with J;subst J
     rw[c7,c7];exact⟨fun b=>⟨fun e=>by subst e;rfl,fun e=>by injection e with e;exact e.symm⟩,fun b e=>by injection e with e;exact e.symm,cs,⟨dw.1,.inr ⟨g,cap,c9,rfl,aq8 _,sN,xw,aA,e8,nb⟩⟩,ji.mono a1⟩
    .simp[ag] at J
  .intro c ch J b pV;rw[cd] at J
   split at J
   .rename_i dL;subst dL;rw[dh _ _ ay5] at pV;have:=bh 1001 _ rfl b pV;exact⟨ar6 this.1 O.size,this.2,.inl ⟨1001,_,rfl,pV⟩⟩
   .rw[cd] at J
    split at J
    .rename_i dL;subst dL;rw[c7] at pV;subst pV;exact⟨CY,fun fN=>by have:=a8 _ fN;omega,.inr aZ⟩
    .simp[ag] at J
  .intro c b9 ch ch' b J cK a7 gX hm;rw[cd] at J cK;have key: ∀b,F 1001 b-> ¬b=g:=fun b gX e=>by have:=(bh 1001 _ rfl b gX).1;omega
   split at J
   .rename_i dL;subst dL;rw[dh _ _ ay5] at gX;rw[if_neg a7,cd] at cK
    split at cK
    .rename_i dL;subst dL;rw[c7] at hm;exact key b gX hm
    .simp[ag] at cK
   .rw[cd] at J
    split at J
    .rename_i dL;subst dL;rw[c7] at gX
     split at cK
     .rename_i dL;subst dL;rw[dh _ _ ay5] at hm;exact key b hm gX
     .rw[cd,if_neg a7] at cK;simp[ag] at cK
    .simp[ag] at J
  .show _=bn.ef (da ρ 1002 _ 1002);rw[c7];rfl
set_option maxRecDepth 100000 in
theorem ak0 (L:List bW) (k:Nat) (aa:k < L.length):
  Fn Tryz.prog 141 [eM 1001,ab k,ab (k+1)] [(1001,.row 78 lV L)] [1002] (eM 1002) [(1002,.row 78 lV (L.eraseIdx k))]:=by
 refine⟨ay7,?_⟩;intro ρ F I w bU a8 cZ bh eE bV dy
 match bU,bV with
 | [v,k1,v2],_=>
  obtain rfl:v=(ρ 1001).ef:=dy 0 _ v rfl rfl;obtain rfl:k1= .int .i64 k:=dy 1 _ k1 rfl rfl;obtain rfl:v2= .int .i64 (k+1):=dy 2 _ v2 rfl rfl;have bf:=cZ 1001 _ rfl;obtain⟨tD,i6,cs,yH,ji⟩:=bf;have sf:=Ve ay5 yH.1 ji;have Vg:=yH;obtain⟨dH,G⟩:=yH;rcases G with⟨_,hn⟩ |⟨g,cap,c9,HG,aZ,sN,xw,aA,e8,nb⟩
  .omega
  have HH:F 1001 g:=(tD g).2 (by rw[HG];rfl);obtain⟨m,G3⟩: ∃m,L.length=m+1:=⟨L.length - 1,ay4⟩;rw[HG,G3] at Vg;rw[HG,G3];have aqE:g < w.heap.size:=(aw5.1 sN).1;refine(akW 0 g m cap k cs w Vg ay4 sf).mono ?_;rintro e w' ⟨rfl,dw,rK⟩;have a1:cm I w I w':=fun b fN=>⟨fN,rK.block b (a8 b fN) (fun e=>by injection e with e;subst e;exact(bh 1001 _ rfl _ HH).2 fN)⟩
  have g8:(L.eraseIdx k).length=m:=by rw[List.length_eraseIdx_of_lt aa];omega
  have aqF: ∀b,F 1001 b↔b=g:=fun b=>by rw[tD,HG];exact⟨fun e=>by injection e with e;exact e.symm,fun e=>by subst e;rfl⟩
  have dI: ∀c ch,ag [(1002,ba.row 78 lV (L.eraseIdx k))] c=some ch->c=1002/\ch=ba.row 78 lV (L.eraseIdx k):=fun c ch J=>by
   rw[cd] at J
   split at J
   .rename_i dL;injection J with J;exact⟨dL.symm,J.symm⟩
   .simp[ag] at J
  refine⟨_,da ρ 1002 ⟨g,some ⟨g,0,none⟩,m,cap⟩,da F 1002 (fun b=>b=g),rfl,O5 rK (fun b e=>by injection e with e;subst e;exact⟨1001,_,rfl,HH⟩),?_,I,a1,?_,?_,?_,?_,?_⟩
  .intro c J;exact dh _ _ (fun e=>J (by simp[e]))
  .intro b fN;exact⟨ar6 (a8 b fN) rK.size,.inl fN⟩
  .intro c ch J;obtain⟨rfl,rfl⟩:=dI c ch J;rw[c7,c7];refine⟨fun b=>⟨fun e=>by subst e;rfl,fun e=>by injection e with e;exact e.symm⟩,fun b e=>by injection e with e;exact e.symm,_,?_,akY aa dH (ji.mono a1)⟩;rw[g8];exact dw
  .intro c ch J b pV;obtain⟨rfl,rfl⟩:=dI c ch J;rw[c7] at pV;subst pV;have:=bh 1001 _ rfl _ HH;exact⟨ar6 this.1 rK.size,this.2,.inl ⟨1001,_,rfl,HH⟩⟩
  .intro c b9 ch ch' b J cK a7;exact absurd ((dI c ch J).1.trans (dI b9 ch' cK).1.symm) a7
  .show _=bn.ef (da ρ 1002 _ 1002);rw[c7];rfl
end
section
def rW (L:List bW) (nm:aC3):Int:=if eY L nm < 0 then 181 else if w1 L nm=true then 1 else 0
def qI (L:List bW) (nm:aC3):List bW:=if rW L nm=0 then L.eraseIdx (eY L nm).toNat else L
theorem ak1 (L:List bW) (nm:aC3) (cL:L.length<=1000000):Fn Tryz.prog 85 [aq 1001,bT nm] (kT L) [1003] (ab (rW L nm)) (UU (qI L nm)):=by
 have yI:=Hx nm L ay4;have HI:=akC 140 _ nm L ay4 fun b=>akB b nm
 rcases wY (fun x=>decide (ep x=nm)) L with⟨h,_⟩ |⟨k,x,h,hx,_⟩
 .have hf:eY L nm= -1:=h;have a1:rW L nm=181:=by unfold rW;rw[if_pos ay4]
  have cf:qI L nm=L:=by unfold qI;rw[if_neg ay4]
  rw[hf] at yI;rw[a1,cf];refine aU [] Tryz.func85 ?_;exact⟨rfl,av yI ⟨fun h=>⟨_,_,_,ac.aV 1002 1003 rfl,rfl,rfl,aC,rfl⟩,fun h=>absurd h ay5⟩⟩
 .have hf:eY L nm=k:=h;have aa:k < L.length:=(aq7.1 hx).1;rw[hf] at yI;have a1:rW L nm=if w1 L nm=true then 1 else 0:=by unfold rW;rw[if_neg ay4]
  refine aU [] Tryz.func85 ?_;refine⟨rfl,av yI ⟨fun h=>absurd (gd h) ay4,fun h=>av (Fn.aV [(1001,3)] HI) ⟨fun G=>?_,fun G=>?_⟩⟩⟩
  .have ai:w1 L nm=true:=G;rw[ai,if_pos rfl] at a1;have cf:qI L nm=L:=by unfold qI;rw[if_neg ay4]
   rw[a1,cf];exact⟨_,_,_,ac.aV 1002 1003 rfl,rfl,rfl,aC,rfl⟩
  .have ai:w1 L nm=false:=G;rw[ai,if_neg ay6] at a1;have cf:qI L nm=L.eraseIdx k:=by unfold qI;rw[if_pos a1,hf];rfl
   rw[a1,cf];exact av (Fn.aV [(1001,1002),(1002,2001)] (akZ L ay4 ay4)) ⟨ay4,av (Fn.aV [(1001,2001),(1002,2002)] (ak0 L k aa)) ⟨_,_,_,ac.aV 2002 1003 rfl,rfl,rfl,aC,rfl⟩⟩
end
section
end
section
end
section
end
section
theorem ak2 {α:Type} (p:α->Bool): ∀(L:List α),(if 0<=mq p L then fE L (mq p L).toNat else none)=L.find? p:=by
 intro L;rcases wY p L with⟨h,hn⟩ |⟨k,x,h,hx,ai,bt⟩
 .rw[h,if_neg ay4];refine(List.find?_eq_none.2 fun x hx=>?_).symm;obtain⟨i,aF,rfl⟩:=aw0 hx;rw[hn i _ (oj aF)];simp
 .rw[h,if_pos ay4,aw9];unfold fE;rw[hx];refine(List.find?_eq_some_iff_getElem.2 ⟨ai,k,(aq7.1 hx).1,(aq7.1 hx).2,fun j V=>?_⟩).symm;have:=bt j _ V (oj (by have:=(aq7.1 hx).1;omega));simpa using this
theorem A2 (L:List bW) (nm:aC3):pY L (eY L nm)=L.find? (fun b=>decide (ep b=nm)):=ak2 _ L
theorem Nq {α:Type} (p:α->Bool): ∀(L:List α) (k:Nat) (x:α),L[k]? =some x->p x=false->(L.eraseIdx k).find? p=L.find? p
 | [],k,x,h,_=>by simp at h
 |a::L,0,x,h,ai=>by
  simp only[ar3,aq4] at h;subst h;simp[List.find?_cons,ai]
 |a::L,k+1,x,h,ai=>by
  simp only[ax9] at h;rw[List.eraseIdx_cons_succ,List.find?_cons,List.find?_cons,Nq p L k x h ai]
theorem HJ (L:List bW) (nm:aC3):eY L nm < 0↔L.find? (fun b=>decide (ep b=nm))=none:=by
 rw[<-A2];unfold pY;constructor
 .intro h;rw[if_neg ay4]
 .intro h;rcases wY (fun b=>decide (ep b=nm)) L with⟨G,_⟩ |⟨k,x,G,hx,_⟩
  .unfold eY;omega
  .have G:eY L nm=k:=G;rw[if_pos ay4,G,aw9] at h;unfold fE at h;rw[hx] at h
   cases h
end
section
theorem HK {L:List bW} {nm:aC3} (h:0<=eY L nm): ∃x,L.find? (fun y=>decide (ep y=nm))=some x:=by
 cases hx:L.find? (fun y=>decide (ep y=nm)) with
 |some x=>exact⟨x,rfl⟩
 |none=>have:=(HJ L nm).2 hx;omega
theorem ak3 {L:List bW} (a8:nA L) {b:bW} (O:b∈L) (ai:dA b≠[]):0<=eY L (dA b):=by
 obtain⟨k,aa,rfl⟩:=aw0 O;exact(a8.HA k _ (oj aa) (by simpa using ai)).1
theorem ak4 {b:bW} (h:hy b=true):16<=fO (c2 b)/\fO (c2 b)<=128:=by
 obtain⟨E,G,_,_⟩:=DM h;exact UQ E G
theorem ak5 {b:bW} (h:hy b=true): ∀p,p∈cB b->0<=gm p/\gm p < eH b/\((mo p).length:Int)=fO (c2 b):=fun p ai=>by
 simp only[hy,vj] at h;have:=Nc _ _ _ _ h.1.2 p ai;omega
end
section
theorem ak6 {α:Type} (p:α->Bool) {L:List α} {q k:Nat} (aT:mq p L=q) (a7:q≠k):mq p (L.eraseIdx k)=((if q < k then q else q - 1:Nat):Int):=by
 rcases wY p L with⟨h,_⟩ |⟨j,x,h,hx,ai,bt⟩
 .omega
 .obtain rfl:j=q:=az2
  have aZ: ∀i:Nat,(L.eraseIdx k)[i]? =if i < k then L[i]? else L[i+1]? :=fun i=>List.getElem?_eraseIdx ..
  have dO:(L.eraseIdx k)[if j < k then j else j - 1]? =some x:=by
   rw[aZ]
   by_cases E:j < k
   .rw[if_pos E,if_pos E];exact hx
   .rw[if_neg E,if_neg ay4,show j - 1+1=j by omega];exact hx
  have J1:=(aq7.1 dO).1;refine UN J1 (fun i b aF O=>?_) (by rw[(aq7.1 dO).2];exact ai);rw[aZ] at O
  by_cases E:j < k
  .rw[if_pos E] at aF;rw[if_pos ay4] at O;exact bt i b aF O
  .rw[if_neg E] at aF
   split at O
   .exact bt i b ay4 O
   .exact bt (i+1) b ay4 O
theorem Vh {L:List bW} {nm:aC3} (h:w1 L nm=false) {b:bW} (O:b∈L):dA b≠nm:=fun e=>by
 obtain⟨i,aF,rfl⟩:=aw0 O;rcases wY (fun b=>decide (dA b=nm)) L with⟨_,hn⟩ |⟨k,x,G,_⟩
 .have:=hn i _ (oj aF);simp[e] at this
 .have:w1 L nm=true:=by unfold w1;rw[G];simp
  rw[h] at this
  cases this
theorem Vi {L:List bW} {nm:aC3} (h:rW L nm=0):0<=eY L nm/\w1 L nm=false:=by
 unfold rW at h
 split at h
 .cases h
 split at h
 .cases h
 .rename_i E G;exact⟨ay4,by simpa using G⟩
theorem Vj {L:List bW} (a8:nA L) (nm:aC3):nA (qI L nm):=by
 unfold qI
 split
 .rename_i a1;obtain⟨E,G⟩:=Vi a1;obtain⟨k,aa⟩: ∃k:Nat,eY L nm=k:=⟨(eY L nm).toNat,ay4⟩;rw[aa,aw9];refine⟨aw2 (List.length_eraseIdx_le _ _) a8.len,fun b O=>a8.right b (List.mem_of_mem_eraseIdx O),fun dZ b O ai=>?_⟩;have ak7:b∈L:=List.mem_of_mem_eraseIdx (au5 O);have a7:=Vh G ak7;rw[List.getElem?_eraseIdx] at O
  obtain⟨j,V,jK⟩: ∃j,L[j]? =some b/\((dZ < k/\j=dZ)\/(k<=dZ/\j=dZ+1)):=by
   split at O
   .exact⟨dZ,O,.inl ⟨ay4,rfl⟩⟩
   .exact⟨dZ+1,O,.inr ⟨ay4,rfl⟩⟩
  obtain⟨dQ,cW⟩:=a8.HA j b V ai;obtain⟨q,aT⟩: ∃q:Nat,eY L (dA b)=q:=⟨(eY L (dA b)).toNat,ay4⟩
  have ak8:q≠k:=fun e=>by
   subst e;have bZ:=A2 L (dA b);have cg:=A2 L nm;rw[aT] at bZ;rw[aa] at cg;obtain⟨x,hx⟩:=HK (L:=L) (nm:=nm) ay4;rw[hx] at cg;rw[cg] at bZ;have b1:=List.find?_some hx;have b2:=List.find?_some bZ.symm;simp only[as5] at b1 b2;exact a7 (b2.symm.trans b1)
  have U:eY (L.eraseIdx k) (dA b)=((if q < k then q else q - 1:Nat):Int):=ak6 _ aT ak8;rw[U]
  split <;>omega
 .exact a8
end
section
def sQ (n k:Nat):UInt8:=UInt8.ofNat (n/256 ^k % 256)
def ej (n:Nat):Nat->aC3
 |0=>[]
 |k+1=>sQ n k::ej n k
theorem qJ (n:Nat): ∀k,(ej n k).length=k
 |0=>rfl
 |k+1=>by simp[ej,qJ n k]
theorem Vk (n:Nat): ∀(k i:Nat),i < k->(ej n k)[i]? =some (sQ n (k - 1 - i))
 |0,i,h=>by omega
 |k+1,0,h=>by simp[ej]
 |k+1,i+1,h=>by
  simp only[ej,ax9];rw[Vk n k i ay4]
  congr 2
  omega
theorem Vl (m k:Nat):UInt8.ofNat (((m:Nat):Int)/((2 ^(8*k):Nat):Int) % 256).toNat=sQ m k:=by
 unfold sQ;have h:(2:Nat) ^(8*k)=256 ^k:=by rw[Nat.pow_mul]
 rw[h]
 congr 1
abbrev W (w:Nat):Prop:=w=1\/w=2\/w=4
theorem Nr (w:Nat) (hw:W w):Fn Tryz.prog 91 [ab (w:Nat)] [] [] (fI true) []:=by
 refine aU [] Tryz.func91 ?_;refine⟨fun h=>?_,fun E=>?_⟩
 .exact bg
 refine⟨fun h=>?_,fun G=>?_⟩
 .exact bg
 refine⟨fun h=>?_,fun af=>?_⟩
 .exact bg
 have E: ¬((w:Nat):Int)=1:=mu E;have G: ¬((w:Nat):Int)=2:=mu G;have af: ¬((w:Nat):Int)=4:=mu af;unfold W at hw;omega
theorem Vm (n w:Nat) (hw:W w) (hn:n < 256 ^w):Fn Tryz.prog 92 [ab (n:Nat),ab (w:Nat)] [] [] (fI true) []:=by
 have ai:(2 ^(8*((w:Nat):Int)).toNat:Nat)=256 ^w/\256 ^w<=4294967296:=by
  rcases hw with rfl |rfl |rfl <;>decide
 refine aU [] Tryz.func92 ?_;refine⟨fun h=>?_,fun E=>?_⟩
 .have h:((w:Nat):Int)=8:=gd h;unfold W at hw;omega
 refine⟨fun h=>?_,fun h=>absurd (show¬(0:Int)<=((n:Nat):Int) from mu h) ay4⟩;have nk:w<=4:=by unfold W at hw;omega
 refine⟨ay4,⟨ay4,ay4,ay4⟩,?_,?_⟩
 .rw[ai.1];omega
 refine⟨_,_,_,br,rfl,ar0 ?_,trivial,rfl⟩;show((n:Nat):Int) < 1*((2 ^(8*((w:Nat):Int)).toNat:Nat):Int);rw[ai.1];omega
def eL (w:Nat) (l:aC4):aC3:=l.flatMap fun n=>ej n w
theorem nB (w:Nat) (l:aC4):(eL w l).length=l.length*w:=by
 induction l with
 |nil=>simp[eL]
 |cons n l bq=>
  simp only[eL,ax2,aq1,at8,qJ] at bq⊢;rw[bq,aw4];omega
theorem Vn (w:Nat) {l:aC4} {k:Nat} (h:k < l.length):eL w (l.take (k+1))=eL w (l.take k)++ej l[k] w:=by
 unfold eL;rw[<-vm h,List.flatMap_append];simp
def sR (l:aC4):List Int:=l.map Int.ofNat
abbrev vp (l:aC4):List (Z oA):=sR l
abbrev Vo (l:aC4) (w r k:Nat):aY:=[(0,eM r),(1,ab (w:Nat)),(2,bQ oA (vp l)),(17,bQ oA (vp l)),(18,ab (l.length:Nat)),(19,ab (k:Nat))]
abbrev Vp (l:aC4) (w r k:Nat):aY:=[(0,eM r),(1,ab (w:Nat)),(29,bQ oA (vp l)),(30,ab (l.length:Nat)),(31,ab (k:Nat))]
abbrev HL (l:aC4) (w r k n i:Nat):aY:=[(0,eM r),(1,ab (w:Nat)),(11,ab (n:Nat)),(29,bQ oA (vp l)),(30,ab (l.length:Nat)),(31,ab (k:Nat)),(35,ab (w:Nat)),(36,ab (i:Nat))]
abbrev pZ (r:Nat) (l:aC3):az:=[(r,.row 5 .u8 l)]
theorem HM {l:aC4} {k:Nat} (h:k < l.length):fE (vp l) k=some ((l[k]:Nat):Int):=by
 show(sR l)[k]? =some _;unfold sR;rw[as0,oj h];rfl
theorem Vq (xs ys:aC3) (n i:Nat) (w:Nat) (aF:i < w):(xs++(ej n w).take i)++[sQ n (w - 1 - i)]=xs++(ej n w).take (i+1):=by
 have ak:=qJ n w;rw[au2,<-vm (by omega:i < (ej n w).length)]
 congr 2
 have:=Vk n w i aF;rw[oj ay4] at this;injection this with this
 rw[this]
theorem yJ (xs:aC3) (w:Nat) (l:aC4) (hw:W w) (hf: ∀n,n∈l->n < 256 ^w) (ak:l.length<=1000) (hx:xs.length<=1000000000):
  Fn Tryz.prog 48 [eM 1001,ab (w:Nat),bQ oA (vp l)] (pZ 1001 xs) [1002] (.ci [.one (.own 1002),.one (.d (.bool true))]) (pZ 1002 (xs++eL w l)):=by
 have nk:w<=4:=by unfold W at hw;omega
 have wQ:List.length (vp l)=l.length:=show(sR l).length=_ by unfold sR;exact ar1 _
 refine aU [] Tryz.func48 ?_;refine av (Nr w hw) <| dt <| d2 [] (X:=Nat) (Vo l w 2001) (fun _=>pZ 2001 xs) (fun k=>k<=l.length) (fun k=>l.length - k) 0 (aq8 _) ?_ ?_
 .exact ac.trans (ac.aV 1001 2001 rfl) (ac.sub ⟨rfl,rfl,rfl,rfl,congrArg Int.ofNat wQ,rfl,trivial⟩ aC)
 intro k aa;refine⟨fun h=>?_,fun h=>?_⟩
 .have ct:k < l.length:=az3
  exact⟨ay4,((l[k]:Nat):Int),HM ct,av (Vm l[k] w hw (hf _ (as3 ct))) <| dt ⟨ay4,k+1,ct,ay4,ac.sub aC aC⟩⟩
 clear h aa;refine d2 [] (X:=Nat) (Vp l w 2001) (fun k=>pZ 2001 (xs++eL w (l.take k))) (fun k=>k<=l.length) (fun k=>l.length - k) 0 (aq8 _) ?_ ?_
 .exact ac.sub ⟨rfl,rfl,rfl,congrArg Int.ofNat wQ,rfl,trivial⟩ ⟨congrArg (fun l=>some (ba.row _ .u8 l)) (at6 xs).symm,trivial⟩
 intro k aa;refine⟨fun h=>?_,fun h=>?_⟩
 .have ct:k < l.length:=az3
  have aw:=Vn w ct;have hn:=hf _ (as3 ct);have bV:=nB w (l.take k);have PO:(l.take k).length*w<=1000*4:=av1 aA2 nk;refine⟨ay4,((l[k]:Nat):Int),HM ct,?_⟩;generalize l[k]=n at*;generalize eL w (l.take k)=ys at*;have ak9:n < 4294967296:=ar6 hn (by rcases hw with rfl |rfl |rfl <;>decide);refine d2 [] (X:=Nat) (HL l w 2001 k n) (fun i=>pZ 2001 ((xs++ys)++(ej n w).take i)) (fun i=>i<=w) (fun i=>w - i) 0 (aq8 _) ?_ ?_
  .exact ac.sub aC ⟨congrArg (fun l=>some (ba.row _ .u8 l)) (at6 (xs++ys)).symm,trivial⟩
  intro i aF;refine⟨fun h=>?_,fun h=>?_⟩
  .have d1:i < w:=by
    have h:(i:Int) < (w:Int):=gd h;omega
   have ae:(8*((w:Int) - 1 - (i:Int))).toNat=8*(w - 1 - i):=az2
   have m1: -9223372036854775808<=(w:Int) - 1/\(w:Int) - 1<=9223372036854775807:=az2
   have m2: -9223372036854775808<=(w:Int) - 1 - (i:Int)/\(w:Int) - 1 - (i:Int)<=9223372036854775807:=az2
   have m3: -9223372036854775808<=8*((w:Int) - 1 - (i:Int))/\8*((w:Int) - 1 - (i:Int))<=9223372036854775807:=az2
   have jr:0<=(n:Int)/\0<=8*((w:Int) - 1 - (i:Int))/\8*((w:Int) - 1 - (i:Int))<=64:=az2
   refine⟨m1,m2,m3,jr,⟨Int.emod_nonneg _ ay5,Int.emod_lt_of_pos _ ay5⟩,?_,rfl,?_⟩
   .show((xs++ys)++(ej n w).take i).length+1<=4294967296;rw[aq1,aq1,aq9];omega
   refine⟨ay4,i+1,d1,ay4,ac.trans (ac.sub (K':=HL l w 49 k n (i+1)) (B':=pZ 49 ((xs++ys)++(ej n w).take (i+1))) aC ⟨congrArg (fun l=>some (ba.row _ .u8 l)) ?_,trivial⟩) (ac.aV 49 2001 rfl)⟩;rw[<-Vq (xs++ys) [] n i w d1,<-Vl,<-ae];rfl
  .have d1:i=w:=by
    have h: ¬(i:Int) < (w:Int):=mu h;omega
   subst d1;refine⟨ay4,k+1,ct,ay4,ac.sub aC ⟨?_,trivial⟩⟩;rw[aw,at2 (by rw[qJ];omega),au2];rfl
 have ct:k=l.length:=by
     have: ¬k < l.length:=az3
     omega
 subst ct;rw[ar9];exact⟨_,_,_,ac.aV 2001 1002 rfl,rfl,aC,aC,rfl⟩
theorem HN (w:Nat) (l:aC4) (hw:W w) (hf: ∀n,n∈l->n < 256 ^w) (ak:l.length<=1000):
  Fn Tryz.prog 48 [k1 .dK,ab (w:Nat),bQ oA (vp l)] [] [1002] (.ci [.one (.own 1002),.one (.d (.bool true))]) (pZ 1002 (eL w l)):=by
 have nk:w<=4:=by unfold W at hw;omega
 have wQ:List.length (vp l)=l.length:=show(sR l).length=_ by unfold sR;exact ar1 _
 obtain⟨xs,sn⟩: ∃xs:aC3,xs=[]:=⟨_,rfl⟩;have hx:xs.length<=1000000000:=by rw[sn];decide
 rw[show eL w l=xs++eL w l by rw[sn];rfl];refine aU [] Tryz.func48 ?_;refine av (Nr w hw) <| dt <| d2 [] (X:=Nat) (Vo l w 2001) (fun _=>pZ 2001 xs) (fun k=>k<=l.length) (fun k=>l.length - k) 0 (aq8 _) ?_ ?_
 .exact ac.trans (ac.nil 0 2001 5 .u8 rfl rfl) (ac.sub ⟨rfl,rfl,rfl,rfl,congrArg Int.ofNat wQ,rfl,trivial⟩ ⟨congrArg (fun l=>some (ba.row _ .u8 l)) sn.symm,trivial⟩)
 intro k aa;refine⟨fun h=>?_,fun h=>?_⟩
 .have ct:k < l.length:=az3
  exact⟨ay4,((l[k]:Nat):Int),HM ct,av (Vm l[k] w hw (hf _ (as3 ct))) <| dt ⟨ay4,k+1,ct,ay4,ac.sub aC aC⟩⟩
 clear h aa;refine d2 [] (X:=Nat) (Vp l w 2001) (fun k=>pZ 2001 (xs++eL w (l.take k))) (fun k=>k<=l.length) (fun k=>l.length - k) 0 (aq8 _) ?_ ?_
 .exact ac.sub ⟨rfl,rfl,rfl,congrArg Int.ofNat wQ,rfl,trivial⟩ ⟨congrArg (fun l=>some (ba.row _ .u8 l)) (at6 xs).symm,trivial⟩
 intro k aa;refine⟨fun h=>?_,fun h=>?_⟩
 .have ct:k < l.length:=az3
  have aw:=Vn w ct;have hn:=hf _ (as3 ct);have bV:=nB w (l.take k);have PO:(l.take k).length*w<=1000*4:=av1 aA2 nk;refine⟨ay4,((l[k]:Nat):Int),HM ct,?_⟩;generalize l[k]=n at*;generalize eL w (l.take k)=ys at*;have ak9:n < 4294967296:=ar6 hn (by rcases hw with rfl |rfl |rfl <;>decide);refine d2 [] (X:=Nat) (HL l w 2001 k n) (fun i=>pZ 2001 ((xs++ys)++(ej n w).take i)) (fun i=>i<=w) (fun i=>w - i) 0 (aq8 _) ?_ ?_
  .exact ac.sub aC ⟨congrArg (fun l=>some (ba.row _ .u8 l)) (at6 (xs++ys)).symm,trivial⟩
  intro i aF;refine⟨fun h=>?_,fun h=>?_⟩
  .have d1:i < w:=by
    have h:(i:Int) < (w:Int):=gd h;omega
   have ae:(8*((w:Int) - 1 - (i:Int))).toNat=8*(w - 1 - i):=az2
   have m1: -9223372036854775808<=(w:Int) - 1/\(w:Int) - 1<=9223372036854775807:=az2
   have m2: -9223372036854775808<=(w:Int) - 1 - (i:Int)/\(w:Int) - 1 - (i:Int)<=9223372036854775807:=az2
   have m3: -9223372036854775808<=8*((w:Int) - 1 - (i:Int))/\8*((w:Int) - 1 - (i:Int))<=9223372036854775807:=az2
   have jr:0<=(n:Int)/\0<=8*((w:Int) - 1 - (i:Int))/\8*((w:Int) - 1 - (i:Int))<=64:=az2
   refine⟨m1,m2,m3,jr,⟨Int.emod_nonneg _ ay5,Int.emod_lt_of_pos _ ay5⟩,?_,rfl,?_⟩
   .show((xs++ys)++(ej n w).take i).length+1<=4294967296;rw[aq1,aq1,aq9];omega
   refine⟨ay4,i+1,d1,ay4,ac.trans (ac.sub (K':=HL l w 49 k n (i+1)) (B':=pZ 49 ((xs++ys)++(ej n w).take (i+1))) aC ⟨congrArg (fun l=>some (ba.row _ .u8 l)) ?_,trivial⟩) (ac.aV 49 2001 rfl)⟩;rw[<-Vq (xs++ys) [] n i w d1,<-Vl,<-ae];rfl
  .have d1:i=w:=by
    have h: ¬(i:Int) < (w:Int):=mu h;omega
   subst d1;refine⟨ay4,k+1,ct,ay4,ac.sub aC ⟨?_,trivial⟩⟩;rw[aw,at2 (by rw[qJ];omega),au2];rfl
 have ct:k=l.length:=by
     have: ¬k < l.length:=az3
     omega
 subst ct;rw[ar9];exact⟨_,_,_,ac.aV 2001 1002 rfl,rfl,aC,aC,rfl⟩
end
section
def gH (s:aC3) (w:Nat):aC3:=ej s.length w++s
theorem yK (s:aC3) (w:Nat):(gH s w).length=w+s.length:=by unfold gH;rw[aq1,qJ]
theorem DR (xs s:aC3) (w:Nat) (hw:W w) (aw:s.length < 256 ^w) (ak:s.length<=1000000000) (hx:xs.length<=1000000000):
  Fn Tryz.prog 49 [eM 1001,bT s,ab (w:Nat)] (pZ 1001 xs) [1002] (.ci [.one (.own 1002),.one (.d (.bool true))]) (pZ 1002 (xs++gH s w)):=by
 have nk:w<=4:=by unfold W at hw;omega
 have pg:=nB w [s.length];refine aU [] Tryz.func49 ?_;refine av (Fn.aV [(1002,2002)] (yJ xs w [s.length] hw (fun n hn=>by simp only[ar5] at hn;subst hn;exact aw) ay6 hx)) <| dt ⟨?_,rfl,?_⟩
 .show(xs++eL w [s.length]).length+s.length<=4294967296;rw[aq1,pg,List.length_singleton];omega
 refine⟨_,_,_,ac.aV 24 1002 rfl,rfl,aC,⟨congrArg (fun l=>some (ba.row _ .u8 l)) ?_,trivial⟩,rfl⟩;show(xs++eL w [s.length])++s=xs++gH s w;unfold eL gH;simp
end
section
def kU (p:ky):aC3:=ej (gm p).toNat 2++gH (mo p) 2
def kA (b:bW):aC3:=gH (ep b) 1++gH (dA b) 1++ej (c2 b).toNat 1++ej (eH b).toNat 2++ej (cB b).length 2++(cB b).flatMap kU
def jw (L:List bW):aC3:=ej L.length 1++L.flatMap kA
structure vq (b:bW):Prop where
 nm:(ep b).length<=255
 pa:(dA b).length<=255
 bits:0<=c2 b/\c2 b<=255
 aQ:0<=eH b/\eH b<=65535
 Vr:(cB b).length<=256
 Vs: ∀p,p∈cB b->0<=gm p/\gm p<=65535/\(mo p).length<=128
theorem Vt {b:bW} (h:vq b) {p:ky} (ai:p∈cB b):(kU p).length<=132:=by
 have:=h.Vs p ai;unfold kU;rw[aq1,qJ,yK];omega
theorem yL {α:Type} (f:α->aC3) (n:Nat): ∀(l:List α),(∀x,x∈l->(f x).length<=n)->(l.flatMap f).length<=l.length*n
 | [],_=>by simp
 |x::l,h=>by
  have E:=h x ar2;have G:=yL f n l fun y aD=>h y (aq2 _ aD)
  simp only[ax2,aq1,at8,aw4];omega
theorem Vu {b:bW} (h:vq b):(kA b).length<=35000:=by
 have E:=yL kU 132 (cB b) fun p ai=>Vt h ai
 have G:(cB b).length*132<=256*132:=au8 _ h.Vr;have:=h.nm;have:=h.pa;unfold kA;simp only[aq1,qJ,yK];omega
theorem Ns {α:Type} (f:α->aC3) {l:List α} {k:Nat} (h:k < l.length):(l.take (k+1)).flatMap f=(l.take k).flatMap f++f l[k]:=by
 rw[<-vm h,List.flatMap_append];simp
theorem DS {x:Int} (h:0<=x):([x]:List Int)=sR [x.toNat]:=by
 show[x]=[((x.toNat:Nat):Int)];rw[show((x.toNat:Nat):Int)=x by omega]
abbrev Vv (L:List bW) (r k:Nat):aY:=[(3,eM r),(22,eM 1002),(23,ab (L.length:Nat)),(24,ab (k:Nat))]
abbrev DT (L:List bW) (r:Nat) (l:aC3):az:=(r,.row 5 .u8 l)::kT L
abbrev Nt (L:List bW) (b:bW) (r k j:Nat):aY:=[(3,eM r),(22,eM 1002),(23,ab (L.length:Nat)),(24,ab (k:Nat)),(62,bQ oy (cB b)),(63,ab ((cB b).length:Nat)),(64,ab (j:Nat))]
theorem Vw (L:List bW) (cL:L.length<=255) (hw: ∀b,b∈L->vq b):Fn Tryz.prog 21 [aq 1001] (kT L) [] (bQ .u8 (jw L)) (kT L):=by
 refine aU [] Tryz.func21 ?_;refine av (Fn.aV [(1002,2002)] (HN 1 [L.length] (.inl rfl) (fun n hn=>by simp only[ar5] at hn;omega) ay6)) <| d2 [] (X:=Nat) (Vv L 2001) (fun k=>DT L 2001 (ej L.length 1++(L.take k).flatMap kA)) (fun k=>k<=L.length) (fun k=>L.length - k) 0 (aq8 _) ?_ ?_
 .exact ac.trans (cM (Vv L 2002 0) (DT L 2002 (ej L.length 1++(L.take 0).flatMap kA))) (ac.aV 2002 2001 rfl)
 intro k aa
 have Lx:((L.take k).flatMap kA).length<=255*35000:=by
  refine aw2 (yL kA 35000 _ fun b O=>Vu (hw b (List.mem_of_mem_take O))) (au8 _ ?_);rw[aq9];omega
 refine⟨fun h=>?_,fun h=>?_⟩
 .have ct:k < L.length:=az3
  have aw:=Ns kA ct;have O:=hw _ (as3 ct);refine⟨⟨ay4,ay4⟩,L[k],pW rfl ct,rfl,?_⟩;generalize L[k]=b at*;have E:=O.nm;have G:=O.pa;have af:=O.bits;have aW:=O.aQ;have bG:=O.Vr;have vb:=qJ L.length 1;generalize eQ:ej L.length 1++(L.take k).flatMap kA=A at*;have aqG:A.length<=9000000:=by rw[<-eQ,aq1,vb];omega
  refine av (Fn.aV [(1001,2001),(1002,2002)] (DR A (ep b) 1 (.inl rfl) ay4 ay4 ay4)) ?_;have i5:=yK (ep b) 1;refine av (Fn.aV [(1001,2002),(1002,2003)] (DR (A++gH (ep b) 1) (dA b) 1 (.inl rfl) ay4 ay4 (by rw[aq1,i5];omega))) ?_;have gU:=yK (dA b) 1;refine av (Fn.arg (Fn.aV [(1001,2003),(1002,2004)] (yJ (A++gH (ep b) 1++gH (dA b) 1) 1 [(c2 b).toNat] (.inl rfl) (fun n hn=>by simp only[ar5] at hn;omega) ay6 (by rw[aq1,aq1,i5,gU];omega))) ⟨rfl,rfl,DS af.1,trivial⟩) ?_;have pC:=nB 1 [(c2 b).toNat]
  have ao:([eH b,((cB b).length:Int)]:List Int)=sR [(eH b).toNat,(cB b).length]:=by
   show _=[(((eH b).toNat:Nat):Int),(((cB b).length:Nat):Int)];rw[show(((eH b).toNat:Nat):Int)=eH b by omega]
  refine⟨_,_,_,_,Fn.arg (Fn.aV [(1001,2004),(1002,2005)] (yJ (A++gH (ep b) 1++gH (dA b) 1++eL 1 [(c2 b).toNat]) 2 [(eH b).toNat,(cB b).length] (.inr (.inl rfl)) (fun n hn=>by
   simp only[aq5,List.not_mem_nil,or_false] at hn;rcases hn with rfl |rfl <;>omega) ay6 (by rw[aq1,aq1,aq1,i5,gU,pC];simp;omega))) ⟨rfl,rfl,ao,trivial⟩,aC,rfl,?_⟩
  have uI:=nB 2 [(eH b).toNat,(cB b).length]
  have a1:A++gH (ep b) 1++gH (dA b) 1++eL 1 [(c2 b).toNat]++eL 2 [(eH b).toNat,(cB b).length]++(cB b).flatMap kU=A++kA b:=by
   unfold kA eL;simp[au2]
  have aqH:(A++gH (ep b) 1++gH (dA b) 1++eL 1 [(c2 b).toNat]++eL 2 [(eH b).toNat,(cB b).length]).length<=9100000:=by
   rw[aq1,aq1,aq1,aq1,i5,gU,pC,uI];simp;omega
  generalize A++gH (ep b) 1++gH (dA b) 1++eL 1 [(c2 b).toNat]++eL 2 [(eH b).toNat,(cB b).length]=yM at*;refine d2 [] (X:=Nat) (Nt L b 2001 k) (fun j=>DT L 2001 (yM++((cB b).take j).flatMap kU)) (fun j=>j<=(cB b).length) (fun j=>(cB b).length - j) 0 (aq8 _) ?_ ?_
  .exact ac.trans (ac.sub (K':=Nt L b 2005 k 0) (B':=DT L 2005 (yM++((cB b).take 0).flatMap kU)) aC ⟨congrArg (fun l=>some (ba.row _ .u8 l)) (at6 yM).symm,rfl,rfl,trivial⟩) (ac.aV 2005 2001 rfl)
  intro j V;refine⟨fun h=>?_,fun h=>?_⟩
  .have eO:j < (cB b).length:=az3
   have fS:=Ns kU eO;obtain⟨dQ,cW,dJ⟩:=O.Vs _ (as3 eO)
   have hl:(((cB b).take j).flatMap kU).length<=256*132:=by
    refine aw2 (yL kU 132 _ fun p ai=>Vt O (List.mem_of_mem_take ai)) (au8 _ ?_);rw[aq9];omega
   refine⟨ay4,(cB b)[j],pW rfl eO,rfl,?_⟩;generalize(cB b)[j]=p at*;generalize((cB b).take j).flatMap kU=Vx at*;refine av (Fn.arg (Fn.aV [(1001,2001),(1002,2002)] (yJ (yM++Vx) 2 [(gm p).toNat] (.inr (.inl rfl)) (fun n hn=>by simp only[ar5] at hn;omega) ay6 (by rw[aq1];omega))) ⟨rfl,rfl,DS dQ,trivial⟩) ?_;have ak':=nB 2 [(gm p).toNat];refine av (Fn.aV [(1001,2002),(1002,2003)] (DR (yM++Vx++eL 2 [(gm p).toNat]) (mo p) 2 (.inr (.inl rfl)) ay4 ay4 (by rw[aq1,aq1,ak'];simp;omega))) ⟨ay4,j+1,eO,ay4,ac.trans (ac.sub (K':=Nt L b 2003 k (j+1)) (B':=DT L 2003 (yM++((cB b).take (j+1)).flatMap kU)) aC ⟨?_,rfl,rfl,trivial⟩) (ac.aV 2003 2001 rfl)⟩;rw[fS];refine congrArg (fun l=>some (ba.row _ .u8 l)) ?_;unfold kU eL;simp[au2];rfl
  .have eO:j=(cB b).length:=by
      have: ¬j < (cB b).length:=az3
      omega
   subst eO;rw[ar9];refine⟨ay4,k+1,ct,ay4,ac.sub aC ⟨?_,rfl,rfl,trivial⟩⟩;rw[aw,<-au2,eQ,a1];rfl
 .have ct:k=L.length:=by
     have: ¬k < L.length:=az3
     omega
  subst ct;exact⟨_,_,_,ac.d0 2001 rfl,rfl,(show ej L.length 1++(L.take L.length).flatMap kA=jw L by rw[ar9];rfl),aC,rfl⟩
end
section
end
section
abbrev fH:Type:=aC3×Int
def mr (n:Nat) (st:fH):aC3:=if st.2≠0\/st.1.length < n then[] else st.1.take n
def nC (n:Nat) (st:fH):fH:=if st.2≠0 then st else if st.1.length < n then(st.1,10) else(st.1.drop n,0)
def oB (l:aC3):Nat:=l.foldl (fun a c=>a*256+c.toNat) 0
theorem Nu (l:aC3) (c:UInt8):oB (l++[c])=oB l*256+c.toNat:=by simp[oB,ax5]
theorem Nv (l:aC3):oB l < 256 ^l.length:=by
 have: ∀(l:aC3),oB l.reverse < 256 ^l.length:=fun l=>by
  induction l with
  |nil=>simp[oB]
  |cons c l bq=>
   rw[List.reverse_cons,Nu,at8,Nat.pow_succ];have:=c.toNat_lt;omega
 have h:=this l.reverse;simpa using h
theorem Vy (n:Nat) (st:fH):(mr n st).length<=n:=by
 unfold mr
 split
 .simp
 .rw[aq9];omega
def fz (w:Nat) (st:fH):fH×Nat:=(nC w st,oB (mr w st))
def qK (w:Nat) (st:fH):fH×aC3:=(nC (fz w st).2 (fz w st).1,mr (fz w st).2 (fz w st).1)
abbrev lg (st:fH):az:=[(1001,.cells [.d (.co .u8 st.1),.d (.int .i64 st.2)])]
theorem HO (b:aC3) (O:b.length<=4294967296):Fn Tryz.prog 130 [bQ .u8 b] [] [1001] (aq 1001) (lg (b,0)):=by
 refine aU [] Tryz.func130 ?_;refine⟨rfl,?_,rfl,?_⟩
 .show 0+b.length<=4294967296;omega
 exact⟨rfl,_,_,_,ac.trans (ac.d0 5 rfl) (ac.aV 7 1001 rfl),rfl,rfl,aC,rfl⟩
theorem ala (s:aC3) (e k:Int):Fn Tryz.prog 214 [ab k,aq 1002] [(1001,.cells [.d (.co .u8 s),.d (.int .i64 e)]),(1002,.cells [.ptr 1001 0])] [] (bQ .u8 []) [(1001,.cells [.d (.co .u8 s),.d (.int .i64 (if e=0 then k else e))]),(1002,.cells [.ptr 1001 0])]:=by
 refine aU [] Tryz.func214 ?_;refine⟨fun h=>?_,fun h=>?_⟩
 .rw[if_pos (show e=0 from gd h)];exact bg
 .rw[if_neg (show¬e=0 from mu h)];exact bg
theorem Vz (st:fH) (n:Nat):Fn Tryz.prog 180 [aq 1001,ab (n:Nat),fI false] (lg st) [] (bQ .u8 (mr n st)) (lg (nC n st)):=by
 obtain⟨s,e⟩:=st;refine aU [] Tryz.func180 ?_;refine⟨rfl,fun h=>?_,fun E=>?_⟩
 .have h:(!decide (e=0))=true:=h;have U: ¬e=0:=az3
  have hx:mr n (s,e)=[]:=by unfold mr;rw[if_pos (.inl U)]
  have aw:nC n (s,e)=(s,e):=by unfold nC;rw[if_pos U]
  rw[hx,aw];exact bg
 have E:(!decide (e=0))=false:=E;have U:e=0:=aC0
 subst U;refine dt ⟨fun h=>?_,fun h=>?_⟩
 .have h:(s.length:Int) < (n:Int):=gd h;have hx:mr n (s,0)=[]:=by unfold mr;rw[if_pos (.inr (by show s.length < n;omega))]
  have aw:nC n (s,0)=(s,10):=by unfold nC;rw[if_neg ay6,if_pos (by show s.length < n;omega)]
  rw[hx,aw];exact av (Fn.aV [(1002,3)] (ala s 0 10)) bg
 .have h: ¬(s.length:Int) < (n:Int):=mu h
  have hx:mr n (s,0)=s.take n:=by
   unfold mr;rw[if_neg az8]
  have aw:nC n (s,0)=(s.drop n,0):=by unfold nC;rw[if_neg ay6,if_neg (by show¬s.length < n;omega)]
  rw[hx,aw];have m1:0<=(n:Int)/\(n:Int)<=(s.length:Int):=az2
  refine⟨m1,m1,rfl,_,_,_,br,rfl,rfl,⟨congrArg (fun l:aC3=>some (ba.cells [bB.d (D.co bz.u8 l),bB.d (D.int IntKind.i64 0)])) ?_,trivial⟩,rfl⟩;show(List.take s.length s).drop ((n:Int)).toNat=s.drop n;rw[ar9];rfl
theorem alb (a:Nat) (c:UInt8):(a*256) ||| c.toNat=a*256+c.toNat:=by
 have h:c.toNat < 2 ^8:=c.toNat_lt;have:=Nat.shiftLeft_add_eq_or_of_lt h a;rw[Nat.shiftLeft_eq] at this;exact this.symm
theorem ph (st:fH) (w:Nat) (hw:W w):Fn Tryz.prog 131 [aq 1001,ab (w:Nat)] (lg st) [] (ab ((fz w st).2:Nat)) (lg (fz w st).1):=by
 have nk:w<=4:=by unfold W at hw;omega
 have ak:=Vy w st;have cq:=Vz st w;show Fn _ _ _ _ _ (ab ((oB (mr w st):Nat):Int)) (lg (nC w st));generalize mr w st=x at*;generalize nC w st=alc at*;have aqI:oB x < 4294967296:=ar6 (Nv x) (aw2 (Nat.pow_le_pow_right ay5 (show x.length<=4 by omega)) ay5);refine aU [] Tryz.func131 ?_;refine av (Nr w hw) <| av cq ⟨fun h=>absurd (show(x.length:Int)=8 from gd h) ay4,fun _=>d2 [] (X:=Nat) (fun i=>[(5,ab ((oB (x.take i):Nat):Int)),(27,bQ .u8 x),(28,ab (x.length:Nat)),(29,ab (i:Nat))]) (fun _=>lg alc) (fun i=>i<=x.length) (fun i=>x.length - i) 0 (aq8 _) ?_ ?_⟩
 .exact ac.sub aC aC
 intro i aF;refine⟨fun h=>?_,fun h=>?_⟩
 .have d1:i < x.length:=by
   have h:(i:Int) < (x.length:Int):=gd h;omega
  have aw:oB (x.take (i+1))=oB (x.take i)*256+(x[i]).toNat:=by rw[<-vm d1,Nu]
  have hm:=Nv (x.take i);have yt:256 ^(x.take i).length<=256 ^3:=Nat.pow_le_pow_right ay5 aA2;have J:=(x[i]).toNat_lt;refine⟨ay4,x[i],pW rfl d1,?_⟩;generalize x[i]=c at*;generalize oB (x.take i)=a at*;have ald:=alb a c
  have ae:((a:Int)*((2 ^(8:Int).toNat:Nat):Int)).toNat=a*256:=by
   show((a:Int)*256).toNat=_;omega
  have m1:0<=(a:Int)/\(0:Int)<=8/\(8:Int)<=64:=az2
  have m2: -9223372036854775808<=(a:Int)*((2 ^(8:Int).toNat:Nat):Int)/\(a:Int)*((2 ^(8:Int).toNat:Nat):Int)<=9223372036854775807:=by
   show -9223372036854775808<=(a:Int)*256/\(a:Int)*256<=9223372036854775807;omega
  have m3: -9223372036854775808<=(c.toNat:Int)/\(c.toNat:Int)<=9223372036854775807:=az2
  have jr:0<=(a:Int)*((2 ^(8:Int).toNat:Nat):Int)/\(a:Int)*((2 ^(8:Int).toNat:Nat):Int)<=9223372036854775807/\0<=(c.toNat:Int)/\(c.toNat:Int)<=9223372036854775807:=by
   show 0<=(a:Int)*256/\(a:Int)*256<=9223372036854775807/\_;omega
  refine⟨m1,m2,m3,jr,ay4,i+1,d1,ay4,ac.sub ⟨?_,rfl,rfl,rfl,trivial⟩ aC⟩;show(((((a:Int)*((2 ^(8:Int).toNat:Nat):Int)).toNat ||| ((c.toNat:Int)).toNat:Nat)):Int)=((oB (x.take (i+1)):Nat):Int);rw[aw,ae,aw9,ald]
 .have d1:i=x.length:=by
   have h: ¬(i:Int) < (x.length:Int):=mu h;omega
  subst d1;exact eG br rfl (show((oB (x.take x.length):Nat):Int)=_ by rw[ar9])
theorem DU (st:fH) (w:Nat) (hw:W w):Fn Tryz.prog 132 [aq 1001,ab (w:Nat)] (lg st) [] (bT (qK w st).2) (lg (qK w st).1):=by
 have E:=ph st w hw;have G:=Vz (fz w st).1 (fz w st).2;show Fn _ _ _ _ _ (bT (mr (fz w st).2 (fz w st).1)) (lg (nC (fz w st).2 (fz w st).1));generalize(fz w st).2=n at*;generalize(fz w st).1=VA at*;generalize mr n VA=x at*;generalize nC n VA=aqJ at*;refine aU [] Tryz.func132 ?_;exact av E <| av (Fn.arg G aC) bg
theorem VB (st:fH):Fn Tryz.prog 138 [aq 1001] (lg st) [] (ab st.2) (lg st):=by
 refine aU [] Tryz.func138 ?_;exact bg
def qL (st:fH):Int:=if st.2=0/\0 < st.1.length then 11 else st.2
theorem Nw (st:fH):Fn Tryz.prog 134 [aq 1001] (lg st) [] (ab (qL st)) (lg st):=by
 obtain⟨s,e⟩:=st;refine aU [] Tryz.func134 ?_;refine⟨fun h=>?_,fun h=>?_⟩
 .have U:e=0:=gd h;refine⟨fun h=>?_,fun h=>?_⟩
  .have h:(0:Int) < (s.length:Int):=gd h;have:qL (s,e)=11:=by unfold qL;rw[if_pos ⟨U,by show 0 < s.length;omega⟩]
   rw[this];exact bg
  .have h: ¬(0:Int) < (s.length:Int):=mu h;have:qL (s,e)=e:=by unfold qL;rw[if_neg (fun bf=>by have G:0 < s.length:=bf.2;omega)]
   rw[this];exact bg
 .have U: ¬e=0:=mu h;have:qL (s,e)=e:=by unfold qL;rw[if_neg (fun bf=>U bf.1)]
  rw[this];exact bg
end
section
end
section
theorem VC (n:Nat): ∀k,ej n (k+1)=ej (n/256) k++[sQ n 0]
 |0=>rfl
 |k+1=>by
  show sQ n (k+1)::ej n (k+1)=sQ (n/256) k::ej (n/256) k++[sQ n 0];rw[VC n k,List.cons_append]
  congr 1
  unfold sQ;rw[Nat.div_div_eq_div_mul,Nat.pow_succ,Nat.mul_comm 256]
theorem ale (n:Nat): ∀k,n < 256 ^k->oB (ej n k)=n:=by
 intro k
 induction k generalizing n with
 |zero=>intro h;simp at h;subst h;rfl
 |succ k bq=>
  intro h;rw[VC,Nu,bq (n/256) (by rw[Nat.pow_succ] at h;omega)];unfold sQ;rw[Nat.pow_zero,Nat.div_one,UInt8.toNat_ofNat'];omega
theorem VD (x t:aC3):nC x.length (x++t,0)=(t,0)/\mr x.length (x++t,0)=x:=by
 unfold nC mr;rw[if_neg ay6,if_neg ay6,if_neg ay6];exact⟨ay6,ay6⟩
theorem pi {n w:Nat} (h:n < 256 ^w) (t:aC3):fz w (ej n w++t,0)=((t,0),n):=by
 have:=VD (ej n w) t;rw[qJ] at this;unfold fz;rw[this.1,this.2,ale n w h]
theorem DV {w:Nat} {x:aC3} (h:x.length < 256 ^w) (t:aC3):qK w (gH x w++t,0)=((t,0),x):=by
 have E:fz w (gH x w++t,0)=((x++t,0),x.length):=by
  unfold gH;rw[au2];exact pi h _
 have:=VD x t;unfold qK;rw[E];simp only;rw[this.1,this.2]
def vr (st:fH):fH×w0:=((qK 2 (fz 2 st).1).1,(((fz 2 st).2:Int),(qK 2 (fz 2 st).1).2))
def hd (st:fH):Nat->fH×List w0
 |0=>(st,[])
 |k+1=>((vr (hd st k).1).1,(hd st k).2++[(vr (hd st k).1).2])
def E (st:fH):=qK 1 st
def G (st:fH):=qK 1 (E st).1
def af (st:fH):=fz 1 (G st).1
def aW (st:fH):=fz 2 (af st).1
def bG (st:fH):=fz 2 (aW st).1
def VE (st:fH) (l:List w0):m4:=((E st).2,(G st).2,((af st).2:Int),((aW st).2:Int),l)
def kc (st:fH):fH×m4:=((hd (bG st).1 (bG st).2).1,VE st (hd (bG st).1 (bG st).2).2)
def oC (lW:fH):Nat->Option (List m4×fH)
 |0=>some ([],lW)
 |k+1=>match oC lW k with
  |none=>none
  |some (l,st)=>if(kc st).1.2=0/\gG (l.map jv) (jv (kc st).2)=0 then some (l++[(kc st).2],(kc st).1) else none
def yN (s:aC3):Option (List m4):=match oC (fz 1 (s,0)).1 (fz 1 (s,0)).2 with
 |none=>none
 |some (l,st)=>if qL st=0 then some l else none
theorem DW {L:List bW} (a8:nA L) {b:bW} (O:b∈L):vq b:=by
 have nm: ∀x,x∈L->(ep x).length<=15:=fun x hx=>by
  have:=a8.right x hx;simp only[hy,gY,vj,as5] at this;omega
 have ax:=a8.right b O;obtain⟨bZ,cg,a3,a4⟩:=DM ax;have a5:=ak4 ax;have gB:=UZ ax;refine⟨by have:=nm b O;omega,?_,ay4,ay4,gB,fun p ai=>?_⟩
 .by_cases ai:dA b=[]
  .rw[ai];decide
  .obtain⟨x,hx⟩:=HK (ak3 a8 O ai);have E:=List.find?_some hx;simp only[as5] at E;have:=nm x (ax4 hx);rw[E] at this;omega
 .have:=ak5 ax p ai;omega
end
section
theorem HP (n:Nat) (st:fH):(nC n st).1.length<=st.1.length:=by
 unfold nC
 split
 .exact aq0 _
 .split
  .exact aq0 _
  .rw[au9];omega
theorem alf (n:Nat) (st:fH):(mr n st).length<=st.1.length:=by
 unfold mr
 split
 .simp
 .rw[aq9];omega
theorem DX (w:Nat) (st:fH):(fz w st).1.1.length<=st.1.length:=HP w st
theorem Nx (w:Nat) (st:fH):(qK w st).1.1.length<=st.1.length/\(qK w st).2.length<=st.1.length:=
 ⟨aw2 (HP _ _) (HP w st),aw2 (alf _ _) (HP w st)⟩
theorem HQ (w:Nat) (hw:w<=4) (st:fH):(fz w st).2 < 256 ^w:=
 ar6 (Nv _) (Nat.pow_le_pow_right ay5 (Vy w st))
theorem VF (st:fH):(vr st).1.1.length<=st.1.length/\(DN (vr st).2).length<=st.1.length:=by
 have a:=DX 2 st;have b:=Nx 2 (fz 2 st).1;exact⟨aw2 b.1 a,aw2 b.2 a⟩
theorem VG (st:fH): ∀k,(hd st k).1.1.length<=st.1.length/\(hd st k).2.length=k/\ ∀p,p∈(hd st k).2->(DN p).length<=st.1.length
 |0=>⟨aq0 _,rfl,fun p ai=>by cases ai⟩
 |k+1=>by
  obtain⟨bZ,cg,a3⟩:=VG st k;obtain⟨b1,b2⟩:=VF (hd st k).1;refine⟨aw2 b1 bZ,by show((hd st k).2++[_]).length=_;rw[aq1,cg];rfl,fun p ai=>?_⟩;rcases as1.1 ai with ai |ai
  .exact a3 p ai
  .simp only[ar5] at ai;subst ai;exact aw2 b2 bZ
theorem alg (st:fH):(E st).1.1.length<=st.1.length/\(G st).1.1.length<=st.1.length/\(af st).1.1.length<=st.1.length/\(aW st).1.1.length<=st.1.length/\(bG st).1.1.length<=st.1.length/\(E st).2.length<=st.1.length/\(G st).2.length<=st.1.length:=by
 have a:=Nx 1 st;have b:=Nx 1 (E st).1;have c:=DX 1 (G st).1;have d:=DX 2 (af st).1;have e:=DX 2 (aW st).1;have bZ:(E st).1.1.length<=st.1.length:=a.1;have b1:(G st).1.1.length<=(E st).1.1.length:=b.1;have cI:(af st).1.1.length<=(G st).1.1.length:=c;have hJ:(aW st).1.1.length<=(af st).1.1.length:=d;have ae:(bG st).1.1.length<=(aW st).1.1.length:=e;refine⟨bZ,ay4,ay4,ay4,ay4,a.2,?_⟩;have:(G st).2.length<=(E st).1.1.length:=b.2;omega
theorem alh {lW:fH} {k:Nat} (h:oC lW k=none): ∀{m:Nat},k<=m->oC lW m=none:=by
 intro m aA
 induction m with
 |zero=>
    obtain rfl:k=0:=az2
    exact h
 |succ m bq=>
  rcases Nat.lt_or_ge k (m+1) with E |E
  .unfold oC;rw[bq ay4]
  .obtain rfl:k=m+1:=az2
   exact h
theorem ali {s:aC3} {k:Nat} (aa:k<=(fz 1 (s,0)).2) (h:oC (fz 1 (s,0)).1 k=none):yN s=none:=by
 unfold yN;rw[alh h aa]
theorem VH {lW:fH} {k:Nat} {l:List m4} {st:fH} (h:oC lW k=some (l,st)) (bf: ¬((kc st).1.2=0/\gG (l.map jv) (jv (kc st).2)=0)):oC lW (k+1)=none:=by
 unfold oC;rw[h];exact if_neg bf
theorem VI {lW:fH} {k:Nat} {l:List m4} {st:fH} (h:oC lW k=some (l,st)) (E:(kc st).1.2=0) (G:gG (l.map jv) (jv (kc st).2)=0):oC lW (k+1)=some (l++[(kc st).2],(kc st).1):=by
 conv=>lhs;unfold oC
 rw[h];exact if_pos ⟨E,G⟩
abbrev Ny (st:fH):Nat×ba:=(2001,.cells [.d (.co .u8 st.1),.d (.int .i64 st.2)])
abbrev VJ (n k:Nat):aY:=[(4,aq 1001),(5,aq 2001),(11,ab (n:Nat)),(12,ab (k:Nat))]
abbrev alj (l:List m4) (st:fH):az:=Ny st::Nh 1002 (l.map jv)
abbrev Nz (n k m j:Nat):aY:=[(4,aq 1001),(5,aq 2001),(6,aq 6),(11,ab (n:Nat)),(12,ab (k:Nat)),(24,ab (m:Nat)),(25,ab (j:Nat))]
abbrev GD (st:fH):List bB:=[.d (.str (E st).2),.d (.str (G st).2),.d (.int .i64 ((af st).2:Nat)),.d (.int .i64 ((aW st).2:Nat))]
abbrev NA (l:List m4) (lW st:fH) (r:Nat) (bD:List ky):az:=(r,.row 96 oy bD)::(6,.cells [.d (.str (E lW).2),.d (.str (G lW).2),.d (.int .i64 ((af lW).2:Nat)),.d (.int .i64 ((aW lW).2:Nat)),.own r])::Ny st::Nh 1002 (l.map jv)
def alk:aP:=.ci [.one (.bJ (.pointer none)),.one (.d (.int .i64 180))]
def alm:aP:=.ci [.one (.ptr 1001 0),.one (.d (.int .i64 0))]
set_option maxRecDepth 100000 in
theorem VK (s:aC3) (aw:s.length<=100000000) (d:Option (List m4)) (H:yN s=d):
  match d with
  |some l=>Fn Tryz.prog 84 [bQ .u8 s] [] [1001,1002] alm (kT (l.map jv))
  |none=>Fn Tryz.prog 84 [bQ .u8 s] [] [] alk []:=by
 cases d
 all_goals
  simp only;refine aU [10] Tryz.func84 ?_;refine av M9 <| av (Fn.aV [(1001,2001)] (HO s ay4)) <| av (Fn.aV [(1001,2001)] (ph (s,0) 1 (.inl rfl))) ?_;have nl:=DX 1 (s,0);have kn:=HQ 1 ay5 (s,0);have zX:=fun k h=>ali (s:=s) (k:=k) h
  have aln: ∀l st,oC (fz 1 (s,0)).1 (fz 1 (s,0)).2=some (l,st)->yN s=if qL st=0 then some l else none:=fun l st h=>by unfold yN;rw[h]
  generalize(fz 1 (s,0)).2=n at*;generalize(fz 1 (s,0)).1=lW at*;have nl:lW.1.length<=100000000:=aw2 nl aw;have kn:n < 256:=by simpa using kn
  refine d2 [10] (X:=Nat×List m4×fH) (fun x=>VJ n x.1) (fun x=>alj x.2.1 x.2.2) (fun x=>x.1<=n/\oC lW x.1=some (x.2.1,x.2.2)/\x.2.2.1.length<=100000000/\(x.2.1.map jv).length<=64) (fun x=>n - x.1) (0,[],lW) ⟨aq8 _,rfl,nl,ay6⟩ ?_ ?_
  .exact ac.sub aC aC
  rintro⟨k,l,st⟩ ⟨aa,j3,hB,mT⟩;simp only at aa j3 hB mT;refine⟨fun h=>?_,fun h=>?_⟩
  .have ct:k < n:=by
    have h:(k:Int) < (n:Int):=gd h;omega
   obtain⟨bZ,cg,a3,a4,a5,gB,ze⟩:=alg st;have aA:=HQ 2 ay5 (aW st).1;have aA:(bG st).2 < 65536:=aA;have hN:=HQ 1 ay5 (G st).1;have tS:=HQ 2 ay5 (af st).1;refine av (Fn.aV [(1001,2001)] (DU st 1 (.inl rfl))) <| av (Fn.aV [(1001,2001)] (DU (E st).1 1 (.inl rfl))) <| av (Fn.aV [(1001,2001)] (ph (G st).1 1 (.inl rfl))) <| av (Fn.aV [(1001,2001)] (ph (af st).1 2 (.inr (.inl rfl)))) ⟨rfl,av (Fn.aV [(1001,2001)] (ph (aW st).1 2 (.inr (.inl rfl)))) <| d2 [10] (X:=Nat) (fun j=>Nz n k (bG st).2 j) (fun j=>NA l st (hd (bG st).1 j).1 2002 ((hd (bG st).1 j).2.map sP)) (fun j=>j<=(bG st).2) (fun j=>(bG st).2 - j) 0 (aq8 _) ?_ ?_⟩
   .exact ac.trans (ac.wb 6 4 2002 96 oy rfl rfl rfl) (ac.sub aC aC)
   intro j V;obtain⟨b1,b2,b3⟩:=VG (bG st).1 j;refine⟨fun h=>?_,fun h=>?_⟩
   .have eO:j < (bG st).2:=by
     have h:(j:Int) < ((bG st).2:Int):=gd h;omega
    have bl:=VF (hd (bG st).1 j).1;have vh:(hd (bG st).1 (j+1)).1=(vr (hd (bG st).1 j).1).1:=rfl
    have alo:(hd (bG st).1 (j+1)).2.map sP=(hd (bG st).1 j).2.map sP++[sP (vr (hd (bG st).1 j).1).2]:=by
     show((hd (bG st).1 j).2++[_]).map sP=_;rw[au0];rfl
    have fR:(qK 2 (fz 2 (hd (bG st).1 j).1).1).2.length<=4294967296:=by
     have:(DN (vr (hd (bG st).1 j).1).2).length<=(hd (bG st).1 j).1.1.length:=bl.2;have this:(qK 2 (fz 2 (hd (bG st).1 j).1).1).2.length<=(hd (bG st).1 j).1.1.length:=this;omega
    refine av (Fn.aV [(1001,2001)] (ph (hd (bG st).1 j).1 2 (.inr (.inl rfl)))) <| av (Fn.aV [(1001,2001)] (DU (fz 2 (hd (bG st).1 j).1).1 2 (.inr (.inl rfl)))) ⟨fR,?_,rfl,rfl,?_⟩
    .show((hd (bG st).1 j).2.map sP).length+1<=4294967296;rw[ar1,b2];omega
    refine⟨ay4,j+1,eO,ay4,ac.trans (ac.sub (K':=Nz n k (bG st).2 (j+1)) (B':=NA l st (hd (bG st).1 (j+1)).1 36 ((hd (bG st).1 (j+1)).2.map sP)) aC ⟨?_,rfl,rfl,rfl,rfl,trivial⟩) (ac.aV 36 2002 rfl)⟩;rw[alo];rfl
   .have eO:j=(bG st).2:=by
     have h: ¬(j:Int) < ((bG st).2:Int):=mu h;omega
    subst eO;refine bu [] (ac.trans (cM (Nz n k (bG st).2 (bG st).2) (NA l st (hd (bG st).1 (bG st).2).1 2002 ((hd (bG st).1 (bG st).2).2.map sP))) (ac.d0 2002 rfl)) <| av (Fn.aV [(1001,2001)] (VB (hd (bG st).1 (bG st).2).1)) ⟨fun h=>?_,fun h=>?_⟩
    .have h:(!decide ((kc st).1.2=0))=true:=h;have yO:=zX (k+1) ct (VH j3 (fun bf=>by rw[bf.1] at h;cases h))
     first
      |(have HI:=H.symm.trans yO;contradiction)
      |exact bg
    have h:(!decide ((kc st).1.2=0))=false:=h;have U:(kc st).1.2=0:=az3
    have qG:=Nb (l.map jv) (jv (kc st).2) ay4 (show(E st).2.length<=4294967296 by omega) (by
     show((hd (bG st).1 (bG st).2).2.map sP).length<=1000000
     rw[ar1,b2];omega) (fun p ai=>by
     obtain⟨q,aT,rfl⟩:=as9.1 ai;have:=b3 q aT;show(DN q).length<=4294967296;omega)
    refine av qG ⟨fun h=>?_,fun h=>?_⟩
    .have h:(!decide (gG (l.map jv) (jv (kc st).2)=0))=true:=h;have yO:=zX (k+1) ct (VH j3 (fun bf=>by rw[bf.2] at h;cases h))
     first
      |(have HI:=H.symm.trans yO;contradiction)
      |exact bg
    .have h:(!decide (gG (l.map jv) (jv (kc st).2)=0))=false:=h;have eQ:gG (l.map jv) (jv (kc st).2)=0:=az3
     have alp:(l++[(kc st).2]).map jv=g4 (l.map jv) (jv (kc st).2):=by
      unfold g4;rw[if_pos eQ,au0];rfl
     refine⟨ay4,(k+1,l++[(kc st).2],(kc st).1),⟨ct,VI j3 U eQ,?_,?_⟩,?_,?_⟩
     .show(hd (bG st).1 (bG st).2).1.1.length<=100000000;omega
     .have:=(Ng eQ).2.2.1;simp only[ar1,aq1,List.length_singleton] at this⊢;omega
     .simp only;omega
     .refine ac.trans (ac.sub (K':=VJ n (k+1)) (B':=Ny (kc st).1::Nh 1003 ((l++[(kc st).2]).map jv)) aC ⟨rfl,rfl,?_,trivial⟩) (ac.aV 1003 1002 rfl);rw[alp];rfl
  .have ct:k=n:=by
    have h: ¬(k:Int) < (n:Int):=mu h;omega
   subst ct;have ax:=aln l st j3;refine av (Fn.aV [(1001,2001)] (Nw st)) ⟨fun h=>?_,fun h=>?_⟩
   .have h:(!decide (qL st=0))=true:=h;rw[if_neg az3] at ax
    first
     |(have HI:=H.symm.trans ax;contradiction)
     |exact bg
   .have h:(!decide (qL st=0))=false:=h;rw[if_pos az3] at ax
    first
     |(rw[H] at ax;injection ax with ax;subst ax;exact⟨_,_,_,br,rfl,aC,aC,rfl⟩)
     |(rw[H] at ax;cases ax)
end
section
end
section
theorem VL {k:Nat} (h:k < 8):0<=1*((2 ^k:Nat):Int)/\1*((2 ^k:Nat):Int) < 256:=by
 have ai:2 ^k<=2 ^7:=Nat.pow_le_pow_right ay5 ay4;generalize 2 ^k=y at*;omega
section
variable {P:Program} {ids:aC4} {K:aY} {B:az}
theorem alq {o:Oper} {T fG:TypeId} {x y:Operand} {m:Int} (ah:o.op= .binOp .shl T x y fG) (hx:a2 K x= .c (.one (.d (.int .u8 1)))) (aD:a2 K y= .c (.one (.d (.int .i64 m)))) (au:0<=m) (E:m < 8) (N:Nat):
  bA P N ids o K B (.c (.one (.d (.int .u8 (1*((2 ^m.toNat:Nat):Int)))))) ⟨[],[],[]⟩:=by
 have m1:x∈o.op.operands:=az1
 have m2:y∈o.op.operands:=az1
 refine bA.val fun K' B' g1 g2 C ρ F fi w aj ar=>?_
 have ae:=ar.int ((g1 x m1).trans hx);have ao:=ar.int ((g1 y m2).trans aD);exact⟨_,Jn ah ae ao ay5 au (by simp[IntKind.bits];omega) (.inl ⟨rfl,rfl⟩) (fun _=>VL ay4),rfl⟩
theorem alr {a b:Int} (E:0<=a) (G:a < 256) (af:0<=b) (aW:b < 256):
  IntKind.u8.wrap (((BitVec.ofInt 8 a ||| BitVec.ofInt 8 b).toNat:Nat):Int)=((a.toNat ||| b.toNat:Nat):Int):=by
 have ae:(BitVec.ofInt 8 a).toNat=a.toNat:=aB4
 have ao:(BitVec.ofInt 8 b).toNat=b.toNat:=aB4
 rw[BitVec.toNat_or,ae,ao];have h:a.toNat ||| b.toNat < 2 ^8:=Nat.or_lt_two_pow ay4 ay4;exact xu (by simp only[uk];omega)
theorem als {o:Oper} {T fG:TypeId} {x y:Operand} {a b:Int} (ah:o.op= .binOp .or T x y fG) (hx:a2 K x= .c (.one (.d (.int .u8 a)))) (aD:a2 K y= .c (.one (.d (.int .u8 b)))) (E:0<=a) (G:a < 256) (af:0<=b) (aW:b < 256) (N:Nat):
  bA P N ids o K B (.c (.one (.d (.int .u8 ((a.toNat ||| b.toNat:Nat):Int))))) ⟨[],[],[]⟩:=by
 have m1:x∈o.op.operands:=az1
 have m2:y∈o.op.operands:=az1
 refine bA.val fun K' B' g1 g2 C ρ F fi w aj ar=>?_
 have ae:=ar.int ((g1 x m1).trans hx);have ao:=ar.int ((g1 y m2).trans aD);refine⟨_,?_,rfl⟩;have e:=alr E G af aW
 have aw:Op.intBits .or .u8 a b=pure (.int .u8 ((a.toNat ||| b.toNat:Nat):Int)):=by
  exact congrArg (fun aB:Int=>(pure (Value.int .u8 aB):Sem Value)) e
 simp only[execOp,ah,ae,ao,eqGuard,binOp,aw];simp[go_sem]
end
def iR (es:List (Z al×Z al)) (aB:Int):Bool:=Dx ((bY (aI:=al) (aK:=al) es aB).getD (cO al))
def il (es:List (Z al×Z al)) (aB:Int):Nat->Nat
 |0=>0
 |k+1=>if iR es (aB+(k:Int))=true then il es aB k ||| 2 ^k else il es aB k
theorem VM (es:List (Z al×Z al)) (aB:Int): ∀k,il es aB k < 2 ^k
 |0=>Nat.one_pos
 |k+1=>by
  have h:=VM es aB k;have G:(2:Nat) ^k < 2 ^(k+1):=Nat.pow_lt_pow_right ay5 ay4;unfold il
  split
  .exact Nat.or_lt_two_pow ay4 G
  .omega
theorem VN (es:List (Z al×Z al)) (aB:Int) {k:Nat} (h:k<=8):il es aB k < 256:=by
 have E:=VM es aB k;have G:(2:Nat) ^k<=2 ^8:=Nat.pow_le_pow_right ay5 h;omega
def pj (es:List (Z al×Z al)):Nat->aC3
 |0=>[]
 |n+1=>pj es n++[UInt8.ofNat (il es (8*(n:Int)) 8)]
theorem NB (es:List (Z al×Z al)): ∀n,(pj es n).length=n
 |0=>rfl
 |n+1=>by unfold pj;rw[aq1,NB es n];rfl
def fw (s g:Int):Nat:=((mn s g+7)/8).toNat
theorem HR {s g:Int} (aw:0<=s/\s<=4096) (aZ:1<=g/\g<=64):mn s g<=8*(fw s g:Int)/\(8*(fw s g:Int) < mn s g+8)/\fw s g<=521:=by
 have h:=yB aw aZ;unfold fw;omega
def sS (s g:Int):aC3:=eL 2 [s.toNat]++eL 1 [g.toNat]
theorem VO (s g:Int):(sS s g).length=3:=by
 unfold sS;rw[aq1,nB,nB];rfl
def encZ (s g:Int) (es:List (Z al×Z al)):aC3:=sS s g++pj es (fw s g)
theorem HS {s g:Int} (aw:0<=s/\s<=4096) (aZ:1<=g/\g<=64) (es:List (Z al×Z al)):(encZ s g es).length<=524:=by
 have h:=HR aw aZ;unfold encZ;rw[aq1,VO,NB];omega
abbrev NC (r:Nat) (j:Nat):aY:=[(0,aq 1001),(3,eM r),(5,ab (8*(j:Int)))]
abbrev alt (r:Nat) (j:Nat) (n k:Nat):aY:=[(0,aq 1001),(3,eM r),(5,ab (8*(j:Int))),(6,.c (.one (.d (.int .u8 (n:Int))))),(33,ab (k:Int))]
abbrev HT (s g:Int) (es:List (Z al×Z al)) (r:Nat) (x:aC3):az:=iz s g es++[(r,.row 5 .u8 x)]
theorem alu (s g:Int) (es:List (Z al×Z al)) (aw:0<=s/\s<=4096) (aZ:1<=g/\g<=64):Fn Tryz.prog 56 [aq 1001] (iz s g es) [] (bQ .u8 (encZ s g es)) (iz s g es):=by
 have rK:=Hl s g es aw aZ;have k5:=yB aw aZ;have fa:=HR aw aZ;have cZ:=VO s g;have i5:=nB 2 [s.toNat];have dQ:=HN 2 [s.toNat] (.inr (.inl rfl)) (fun n hn=>by simp only[ar5] at hn;omega) ay6;have cW:=yJ (eL 2 [s.toNat]) 1 [g.toNat] (.inl rfl) (fun n hn=>by simp only[ar5] at hn;omega) ay6 (by rw[i5];simp);refine aU [] Tryz.func56 ?_;refine av (Fn.arg (Fn.aV [(1002,2002)] dQ) ⟨rfl,rfl,DS aw.1,trivial⟩) <| av (Fn.arg (Fn.aV [(1001,2002),(1002,2003)] cW) ⟨rfl,rfl,DS ay4,trivial⟩) <| d2 [] (X:=Nat) (fun j=>NC 2001 j) (fun j=>HT s g es 2001 (sS s g++pj es j)) (fun j=>j<=fw s g) (fun j=>fw s g - j) 0 (aq8 _) ?_ ?_
 .exact ac.trans (ac.sub (K':=NC 2003 0) (B':=HT s g es 2003 (sS s g++pj es 0)) aC ⟨rfl,rfl,congrArg (fun l=>some (ba.row _ .u8 l)) (at6 _).symm,trivial⟩) (ac.aV 2003 2001 rfl)
 intro j V;have V:j<=fw s g:=V;have we:=NB es j;refine av rK ⟨fun J=>?_,fun J=>?_⟩
 .have J:decide (8*(j:Int) < mn s g)=true:=J;have J:=gd J;refine d2 [11] (X:=Nat) (fun k=>alt 2001 j (il es (8*(j:Int)) k) k) (fun _=>HT s g es 2001 (sS s g++pj es j)) (fun k=>k<=8) (fun k=>8 - k) 0 (aq8 _) ?_ ?_
  .exact ac.sub aC aC
  intro k aa;have aa:k<=8:=aa;have O:=VN es (8*(j:Int)) aa;refine⟨fun dS=>?_,fun dS=>?_⟩
  .have dS:decide ((k:Int) < 8)=true:=dS;have dS:=gd dS;have cU:c1 (8*(j:Int)+(k:Int)):=az2
   have ai:=VL (k:=(k:Int).toNat) ay4;have ar:il es (8*(j:Int)) (k+1)=if iR es (8*(j:Int)+(k:Int))=true then il es (8*(j:Int)) k ||| 2 ^k else il es (8*(j:Int)) k:=rfl
   refine⟨cU,fun H=>?_,fun H=>?_⟩
   .have H:iR es (8*(j:Int)+(k:Int))=true:=H;rw[if_pos H] at ar;refine bw.mR (2000000+47) ay5 ?_;refine bw.mR (2000000+48) ay5 ?_;refine bu [] (br) ⟨_,_,fun N=>alq rfl rfl rfl ay4 ay4 N,rfl,?_⟩;refine⟨_,_,fun N=>als rfl rfl rfl ay4 ay4 ai.1 ai.2 N,rfl,?_⟩;refine⟨ay4,k+1,ay4,ay4,ac.sub ⟨rfl,rfl,rfl,?_,rfl,trivial⟩ aC⟩;rw[ar];show((((il es (8*(j:Int)) k:Nat):Int).toNat ||| (1*((2 ^(k:Int).toNat:Nat):Int)).toNat:Nat):Int)=_;rw[aw9,Int.one_mul,aw9,aw9]
   .have H:iR es (8*(j:Int)+(k:Int))=false:=H;rw[if_neg (by rw[H];decide)] at ar;exact⟨ay4,k+1,ay4,ay4,ac.sub ⟨rfl,rfl,rfl,(show((il es (8*(j:Int)) k:Nat):Int)=((il es (8*(j:Int)) (k+1):Nat):Int) by rw[ar]),rfl,trivial⟩ aC⟩
  .have dS:decide ((k:Int) < 8)=false:=dS;have dS:=mu dS;have mX:k=8:=az2
   subst mX;refine⟨⟨ay4,ay4⟩,?_,rfl,?_⟩
   .show(sS s g++pj es j).length+1<=4294967296;rw[aq1];omega
   refine⟨ay4,j+1,ay4,ay4,ac.trans (ac.sub (K':=NC 53 (j+1)) (B':=HT s g es 53 (sS s g++pj es (j+1))) ⟨rfl,rfl,(show 8*(j:Int)+8=8*((j+1:Nat):Int) by omega),trivial⟩ ⟨rfl,rfl,congrArg (fun l=>some (ba.row _ .u8 l)) ?_,trivial⟩) (ac.aV 53 2001 rfl)⟩;show(sS s g++pj es j)++[UInt8.ofNat ((il es (8*(j:Int)) 8:Nat):Int).toNat]=sS s g++(pj es j++[UInt8.ofNat (il es (8*(j:Int)) 8)]);rw[aw9,au2]
 .have J:decide (8*(j:Int) < mn s g)=false:=J;have J:=mu J;have ft:j=fw s g:=az2
  subst ft;exact⟨_,_,_,ac.d0 2001 rfl,rfl,rfl,aC,rfl⟩
def m5 (es:List (Z al×Z al)) (j:Nat):Nat->aC3
 |0=>[]
 |n+1=>UInt8.ofNat (il es (8*(j:Int)) 8)::m5 es (j+1) n
theorem VP (es:List (Z al×Z al)): ∀(n j:Nat),m5 es j n++[UInt8.ofNat (il es (8*((j+n:Nat):Int)) 8)]=m5 es j (n+1)
 |0,j=>rfl
 |n+1,j=>by
  have h:=VP es n (j+1);rw[show j+1+n=j+(n+1) by omega] at h;show UInt8.ofNat (il es (8*(j:Int)) 8)::(m5 es (j+1) n++[UInt8.ofNat (il es (8*((j+(n+1):Nat):Int)) 8)])=_;rw[h];rfl
theorem VQ (es:List (Z al×Z al)): ∀n,pj es n=m5 es 0 n
 |0=>rfl
 |n+1=>by
  have h:=VP es n 0;rw[au1] at h;rw[<-h,<-VQ es n];rfl
theorem VR (es:List (Z al×Z al)) (aB:Int): ∀(m i:Nat),(il es aB m).testBit i=(decide (i < m)&&iR es (aB+(i:Int)))
 |0,i=>by simp[il]
 |m+1,i=>by
  unfold il;have h:=VR es aB m i
  by_cases e:i=m
  .subst e
   split
   .rename_i ai;rw[Nat.testBit_or,h,Nat.testBit_two_pow_self,ai];simp
   .rename_i ai;rw[h];simp at ai;simp[ai]
  .have ao:decide (i < m+1)=decide (i < m):=by
    by_cases q:i < m
    .rw[ar0 q,ar0 ay4]
    .rw[at0 q,at0 ay4]
   rw[ao]
   split
   .rw[Nat.testBit_or,h,Nat.testBit_two_pow_of_ne ay4];simp
   .exact h
theorem alv (es:List (Z al×Z al)) (aB:Int) {k:Nat} (h:k < 8):(il es aB 8/2 ^k) &&& 1=if iR es (aB+(k:Int))=true then 1 else 0:=by
 have E:=VR es aB 8 k;rw[ar0 h,Bool.true_and] at E;rw[<-E,<-Nat.shiftRight_eq_div_pow,Nat.testBit,Nat.and_comm];have G:1 &&& (il es aB 8 >>> k)<=1:=Nat.and_le_left;generalize 1 &&& (il es aB 8 >>> k)=y at*;have:y=0\/y=1:=az2
 rcases this with rfl |rfl <;>rfl
def hz (es:List (Z al×Z al)):Nat->List (Z al×Z al)
 |0=>[]
 |n+1=>if iR es (n:Int)=true then dx (aI:=al) (aK:=al) (hz es n) (n:Int) (1:Int) else hz es n
def kB (s g:Int) (es:List (Z al×Z al)):Prop:= ∀aB,iR es aB=true->0<=aB/\aB < mn s g
abbrev alw (j:Nat):aY:=[(4,aq 3001),(5,aq 4001),(7,ab (8*(j:Int)))]
abbrev alx (j:Nat) (n k:Nat):aY:=[(4,aq 3001),(5,aq 4001),(7,ab (8*(j:Int))),(8,ab (n:Int)),(35,ab (k:Int))]
abbrev VS (s g:Int) (es:List (Z al×Z al)) (x:aC3):az:=[(3001,.cells [.d (.co .u8 x),.d (.int .i64 0)]),(4001,.cells [.d (.int .i64 s),.d (.int .i64 g),.mp 4002]),(4002,.map al al es)]
theorem aly (n:Nat):ej n 1=[UInt8.ofNat n]:=by
 show[UInt8.ofNat (n/256 ^0 % 256)]=_;rw[Nat.pow_zero,Nat.div_one]
 congr 1
 exact UInt8.ofNat_mod_size (x:=n)
theorem alz (s g:Int) (es:List (Z al×Z al)) (ah:ot s g=true) (a8:kB s g es):Fn Tryz.prog 133 [bQ .u8 (encZ s g es)] [] [2001,2002] (.ci [.one (.ptr 2001 0),dz 0])
  [(2001,.cells [.d (.int .i64 s),.d (.int .i64 g),.mp 2002]),(2002,.map al al (hz es (8*fw s g)))]:=by
 obtain⟨aw,alA,sN⟩:=G' ah;have aZ:1<=g/\g<=64:=⟨alA,sN⟩;have k5:=yB aw aZ;have fa:=HR aw aZ;have cL:=HS aw aZ es;have g':=HO (encZ s g es) ay4;have lB:=ph (encZ s g es,0) 2 (.inr (.inl rfl))
 have a1:encZ s g es=ej s.toNat 2++(ej g.toNat 1++m5 es 0 (fw s g)):=by
  unfold encZ sS eL;rw[VQ];simp
 rw[a1,pi ay4] at lB;have cU:=ph (ej g.toNat 1++m5 es 0 (fw s g),0) 1 (.inl rfl);rw[pi ay4] at cU;have lB:Fn Tryz.prog 131 [aq 1001,ab 2] (lg (encZ s g es,0)) [] (ab ((s.toNat:Nat):Int)) (lg (ej g.toNat 1++m5 es 0 (fw s g),0)):=by rw[a1];exact lB
 have cU:Fn Tryz.prog 131 [aq 1001,ab 1] (lg (ej g.toNat 1++m5 es 0 (fw s g),0)) [] (ab ((g.toNat:Nat):Int)) (lg (m5 es 0 (fw s g),0)):=cU;have ND:((s.toNat:Nat):Int)=s:=az2
 have alB:((g.toNat:Nat):Int)=g:=az2
 rw[ND] at lB;rw[alB] at cU;have U:Fn Tryz.prog 138 [aq 1001] (lg (m5 es 0 (fw s g),0)) [] (ab 0) (lg (m5 es 0 (fw s g),0)):=VB (m5 es 0 (fw s g),0);have l6:=MC s g ah;have lU:Fn Tryz.prog 134 [aq 1001] (lg ([],0)) [] (ab 0) (lg ([],0)):=Nw ([],0);generalize encZ s g es=X at*;refine aU [] Tryz.func133 ?_;refine av (Fn.aV [(1001,3001)] g') <| av (Fn.aV [(1001,3001)] lB) <| av (Fn.aV [(1001,3001)] cU) <| av (Fn.aV [(2001,4001),(2002,4002)] l6) <| dt <| av (Fn.aV [(1001,3001)] U) <| dt <| d2 [] (X:=Nat) (fun j=>alw j) (fun j=>VS s g (hz es (8*j)) (m5 es j (fw s g - j))) (fun j=>j<=fw s g) (fun j=>fw s g - j) 0 (aq8 _) ?_ ?_
 .exact ac.sub aC aC
 intro j V;have V:j<=fw s g:=V;refine av (Fn.aV [(1001,4001),(1002,4002)] (Hl s g (hz es (8*j)) aw aZ)) ⟨fun J=>?_,fun J=>?_⟩
 .have J:decide (8*(j:Int) < mn s g)=true:=J;have J:=gd J;have O:=VN es (8*(j:Int)) (aq0 8);have dU:=ph (ej (il es (8*(j:Int)) 8) 1++m5 es (j+1) (fw s g - (j+1)),0) 1 (.inl rfl);rw[pi ay4] at dU
  have bm:m5 es j (fw s g - j)=ej (il es (8*(j:Int)) 8) 1++m5 es (j+1) (fw s g - (j+1)):=by
   rw[show fw s g - j=(fw s g - (j+1))+1 by omega,aly];rfl
  rw[<-bm] at dU;refine av (Fn.aV [(1001,3001)] dU) <| d2 [] (X:=Nat) (fun k=>alx j (il es (8*(j:Int)) 8) k) (fun k=>VS s g (hz es (8*j+k)) (m5 es (j+1) (fw s g - (j+1)))) (fun k=>k<=8) (fun k=>8 - k) 0 (aq8 _) ?_ ?_
  .exact ac.sub aC aC
  intro k aa;have aa:k<=8:=aa;refine⟨fun dS=>?_,fun dS=>?_⟩
  .have dS:decide ((k:Int) < 8)=true:=dS;have dS:=gd dS;have alC:=alv es (8*(j:Int)) (k:=k) ay4
   have cf:hz es (8*j+(k+1))=if iR es (8*(j:Int)+(k:Int))=true then dx (aI:=al) (aK:=al) (hz es (8*j+k)) (8*(j:Int)+(k:Int)) (1:Int) else hz es (8*j+k):=by
    show(if iR es ((8*j+k:Nat):Int)=true then dx (aI:=al) (aK:=al) (hz es (8*j+k)) ((8*j+k:Nat):Int) (1:Int) else hz es (8*j+k))=_;rw[show((8*j+k:Nat):Int)=8*(j:Int)+(k:Int) by omega]
   have alD:=a8 (8*(j:Int)+(k:Int));generalize il es (8*(j:Int)) 8=n at*;have kn:n/2 ^k<=n:=Nat.div_le_self _ _
   have aD:0<=((n/2 ^k:Nat):Int)/\((n/2 ^k:Nat):Int)<=9223372036854775807:=by
    generalize n/2 ^k=y at*;omega
   have aT:((n:Int)/((2 ^(k:Int).toNat:Nat):Int))=((n/2 ^k:Nat):Int):=by rw[aw9];exact(Int.natCast_ediv _ _).symm
   have ls:c1 (8*(j:Int)+(k:Int)):=az2
   refine⟨⟨ay4,ay4,ay4⟩,?_⟩;refine⟨_,_,fun N=>GE rfl rfl rfl (by rw[aT];exact aD.1) (by rw[aT];exact aD.2) ay4 ay4 N,rfl,?_⟩
   have uL:((((n:Int)/((2 ^(k:Int).toNat:Nat):Int)).toNat &&& (1:Int).toNat:Nat):Int)=if iR es (8*(j:Int)+(k:Int))=true then 1 else 0:=by
    rw[aT,aw9];show(((n/2 ^k) &&& 1:Nat):Int)=_;rw[alC]
    split <;>rfl
   refine⟨fun H=>?_,fun H=>?_⟩
   .have H:=gd H
    have ai:iR es (8*(j:Int)+(k:Int))=false:=by
     cases ai:iR es (8*(j:Int)+(k:Int))
     .rfl
     .rw[ai,if_pos rfl] at uL;have H:((((n:Int)/((2 ^(k:Int).toNat:Nat):Int)).toNat &&& (1:Int).toNat:Nat):Int)=0:=H;omega
    rw[ai,if_neg ay5] at cf;exact⟨ay4,k+1,ay4,ay4,ac.sub aC ⟨rfl,rfl,congrArg (fun l=>some (ba.map al al l)) cf.symm,trivial⟩⟩
   .have H:=mu H
    have ai:iR es (8*(j:Int)+(k:Int))=true:=by
     cases ai:iR es (8*(j:Int)+(k:Int))
     .rw[ai,if_neg ay5] at uL;exact absurd uL H
     .rfl
    rw[ai,if_pos rfl] at cf;have aN:=alD ai;exact⟨ls,av (Fn.aV [(1001,4001),(1002,4002)] (Hl s g (hz es (8*j+k)) aw aZ)) ⟨fun h=>absurd (gd h) ay4,fun _=>⟨ls,trivial,ay4,k+1,ay4,ay4,ac.sub aC ⟨rfl,rfl,congrArg (fun l=>some (ba.map al al l)) cf.symm,trivial⟩⟩⟩⟩
  .have dS:decide ((k:Int) < 8)=false:=dS;have dS:=mu dS;have mX:k=8:=az2
   subst mX;refine⟨ay4,j+1,ay4,ay4,ac.sub ⟨rfl,rfl,(show 8*(j:Int)+8=8*((j+1:Nat):Int) by omega),trivial⟩ aC⟩
 .have J:decide (8*(j:Int) < mn s g)=false:=J;have J:=mu J;have ft:j=fw s g:=az2
  subst ft;rw[Nat.sub_self];exact av (Fn.aV [(1001,3001)] lU) <| dt ⟨_,_,_,ac.trans (ac.aV 4001 2001 rfl) (ac.aV 4002 2002 rfl),rfl,aC,aC,rfl⟩
end
end Go.Proofs.YtkfbeijmgggkmaaGreat
