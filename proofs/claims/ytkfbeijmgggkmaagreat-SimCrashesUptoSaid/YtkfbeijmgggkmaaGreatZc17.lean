/-
A part of the proof of this claim: lemmas, with no condition beyond what each says.
-/
import Derived.Deep.RegionLaw
import Derived.Test.YtkfbeijmgggkmaaGreatZc16
set_option linter.unusedVariables false
set_option linter.unusedSimpArgs false
set_option maxRecDepth 10000
set_option maxHeartbeats 4000000
namespace Go.Proofs.YtkfbeijmgggkmaaGreat
open Go.RowKit Go.Proofs
section
abbrev U8:bA:=.bK (.int .i64) .str
abbrev U9:bA:=.bK .str (.bK .str (.bK (.int .i64) (.bK (.int .i64) (.b4 U8))))
abbrev w3:Type:=aa U8
abbrev nc:Type:=aa U9
abbrev aky (p:w3):Int:=p.1
abbrev DS (p:w3):aA0:=p.2
abbrev akz (b:nc):aA0:=b.1
abbrev akA (b:nc):aA0:=b.2.1
abbrev akB (b:nc):Int:=b.2.2.1
abbrev U' (b:nc):Int:=b.2.2.2.1
abbrev akC (b:nc):List w3:=b.2.2.2.2
def s7 (p:w3):je:=(aky p,DS p)
def jf (b:nc):bR:=(akz b,akA b,akB b,U' b,(akC b).map s7)
theorem akD {α lT:Type} (f:α->lT) {l:List α} {k:Nat} (h:k < l.length):(l.take k).map f++[f l[k]]=(l.take (k+1)).map f:=by
 rw[<-vr h,at9];rfl
end
section
theorem akE (b:bR) (nm:aA0):Fn Tryz.prog 140 [yH b,ah 1001] [(1001,.cells [.d (.str nm)])] [] (fk (decide (di b=nm))) [(1001,.cells [.d (.str nm)])]:=by
 refine aT [] Tryz.func140 ?_;exact⟨rfl,bc⟩
theorem akF (g:Nat) (p:bR->Bool) (nm:aA0) (L:List bR) (cH:L.length<=4294967296) (ax: ∀b,Fn Tryz.prog g [yH b,ah 1001] [(1001,.cells [.d (.str nm)])] [] (fk (p b)) [(1001,.cells [.d (.str nm)])]):
  Fn Tryz.prog 139 [eX 1002,kS (.cY g [.p 1001 0])] [(1001,.cells [.d (.str nm)]),(1002,.row 78 l5 L)] [] (fk (decide (0<=k4 p L))) [(1001,.cells [.d (.str nm)]),(1002,.row 78 l5 L)]:=by
 refine aT [] Tryz.func139 ?_;exact ak (UU g p nm L cH ax) bc
def w4 (L:List bR) (nm:aA0):Bool:=decide (0<=k4 (fun b=>decide (di b=nm)) L)
end
section
end
section
abbrev oE:bA:=.int .i64
abbrev akG:bA:=.bK .str (.b4 oE)
abbrev HM:bA:=.bK oE (.bK oE (.bK oE (.bK (.b4 .u8) (.b4 oE))))
abbrev HN:bA:=.bK oE (.bK oE (.bK .str (.bK .str (.bK (.b4 akG) HM))))
abbrev akH:bA:=.bK oE (.bK oE (.bK U9 (.bK .str HN)))
abbrev vt:Type:=aa akH
abbrev Va (o:vt):Int:=o.1
abbrev akI (o:vt):Int:=o.2.1
abbrev Vb (o:vt):nc:=o.2.2.1
abbrev akJ (o:vt):aA0:=o.2.2.2.1
abbrev Nk (o:vt):aa HN:=o.2.2.2.2
abbrev akK (o:aa HN):Int:=o.2.1
abbrev Vc (o:aa HN):aa HM:=o.2.2.2.2.2
abbrev akL (o:aa HM):Int:=o.1
abbrev akM (o:aa HM):Int:=o.2.2.1
def over (n a b:Int):Bool:=decide (a < n)&&decide (n<=b)
def Nl (o:vt):Bool:=over (U' (Vb o)) 12 256||over (akI o) 100 4096||over (akK (Nk o)) 100 4096||(decide (akL (Vc (Nk o))=4)&&over (akM (Vc (Nk o))) 100 4096)
end
section
theorem lE.nil:lE []:=⟨aw2,fun b O=>by simp at O,fun k b Z=>by simp at Z⟩
theorem HO {L:List bR} {b:bR} (h:gn L b=0):ht b=true/\ep L (d4 b) < 0/\L.length < 64/\(decide (di b=[])=false->0<=ep L (di b)):=by
 unfold gn at h
 split at h
 .cases h
 .rename_i E
  split at h
  .cases h
  .rename_i G;simp only[Bool.or_eq_true,Bool.not_eq_true',as1,not_or,Bool.not_eq_false] at E;refine⟨E.1.1,aw0,aw0,fun h=>?_⟩;rw[h] at G;simp only[Bool.not_false,Bool.true_and,as1] at G;omega
theorem Nm {α:Type} {p:α->Bool} {L:List α} (x:α) (h:0<=k4 p L):k4 p (L++[x])=k4 p L:=by
 unfold k4 at*;rw[List.findIdx?_append]
 cases hf:L.findIdx? p with
 |none=>rw[hf] at h;exact absurd h aw1
 |some k=>simp
theorem akN {α:Type} {p:α->Bool} {L:List α} {x:α} (h:k4 p L < 0) (hx:p x=true):k4 p (L++[x])=(L.length:Int):=by
 unfold k4 at*;rw[List.findIdx?_append]
 cases hf:L.findIdx? p with
 |none=>simp[List.findIdx?_cons,hx]
 |some k=>rw[hf] at h;simp at h;omega
theorem Vd {α:Type} {L:List α} {b:α} (k:Nat) (x:α) (hx:(L++[b])[k]? =some x):L[k]? =some x\/(k=L.length/\x=b):=by
 rcases Nat.lt_or_ge k L.length with h |h
 .rw[as8 h] at hx;exact .inl hx
 .rw[at4 h] at hx
  cases Z:k - L.length with
  |zero=>rw[Z] at hx;exact .inr ⟨aw0,by simpa using hx.symm⟩
  |succ n=>rw[Z] at hx;simp at hx
theorem lE.add {L:List bR} (a2:lE L) (b:bR):lE (fX L b):=by
 unfold fX
 split
 .rename_i h;obtain⟨E,G,al,aW⟩:=HO h;refine⟨by simp;omega,fun x hx=>?_,fun k x Z ae=>?_⟩
  .rcases as4.1 hx with hx |hx
   .exact a2.right x hx
   .simp only[aq7,List.not_mem_nil,or_false] at hx;rw[hx];exact E
  .rcases Vd k x Z with Z |⟨rfl,rfl⟩
   .have:=a2.DR k x Z ae;unfold ep at*;rw[Nm b this.1];exact this
   .have:=aW ae;have bx:=Nj L (di x);unfold ep at*;rw[Nm x this];exact⟨this,bx⟩
 .exact a2
theorem Ve {L:List bR} (a2:lE L) (b:bR): ∀(n:Nat) (nm:aA0),0<=ep L nm->w2 (L++[b]) n nm=w2 L n nm
 |0,_,_=>rfl
 |n+1,nm,h=>by
  have hf:ep (L++[b]) nm=ep L nm:=Nm b h;have bx:=Nj L nm;simp only[w2,s6];rw[hf]
  have aY:l6 (L++[b]) (ep L nm)=l6 L (ep L nm):=by
   unfold l6 fz;rw[if_pos h,if_pos h,as8 aw0]
  rw[aY]
  cases hx:l6 L (ep L nm) with
  |none=>rfl
  |some x=>
   simp only;obtain⟨k,Z,O⟩:=U6 hx
   by_cases ae:di x=[]
   .unfold s5;simp only[ae,decide_true,if_true]
   .rw[Ve a2 b n (di x) (a2.DR k x O (by simpa using ae)).1]
end
section
def HP (L:List bR) (o:vt):List bR:=if decide (Va o=0)=true then fX L (jf (Vb o)) else L
abbrev Nn (r:Nat) (L:List bR):ay:=[(1001,.cells [.own r]),(r,.row 78 l5 L)]
end
section
abbrev Vf (r k:Nat) (L:List bR):aX:=[(3,eX r),(9,eX 1002),(10,ac (L.length:Nat)),(11,ac (k:Nat))]
abbrev Vg (L:List bR) (r:Nat) (l:List aA0):ay:=(r,.row 9 .str l)::kJ L
theorem akO (L:List bR) (cH:L.length<=1000000):Fn Tryz.prog 16 [ah 1001] (kJ L) [] (bv .str (L.map d4)) (kJ L):=by
 refine aT [] Tryz.func16 ?_;refine dG [] (X:=Nat) (fun k=>Vf 2002 k L) (fun k=>Vg L 2002 ((L.take k).map d4)) (fun k=>k<=L.length) (fun k=>L.length - k) 0 (aq9 _) ?_ ?_
 .exact ab.trans (ab.nil 3 2002 9 .str rfl rfl) (ab.sub az az)
 intro k Z;refine⟨fun h=>?_,fun h=>?_⟩
 .have b':k < L.length:=aw9
  refine⟨⟨aw0,aw0⟩,L[k],qa rfl b',rfl,?_,rfl,?_⟩
  .show((L.take k).map d4).length+1<=4294967296;rw[ar7,ar3];omega
  exact⟨aw0,k+1,b',aw0,ab.trans (ab.sub (K':=Vf 19 (k+1) L) (B':=Vg L 19 ((L.take (k+1)).map d4)) az ⟨congrArg (fun l=>some (ba.row _ .str l)) (akD d4 b'),rfl,rfl,trivial⟩) (ab.aV 19 2002 rfl)⟩
 .have b':k=L.length:=by
    have: ¬k < L.length:=aw9
    omega
  subst b';exact⟨_,_,_,ab.d3 2002 rfl,rfl,(show(L.take L.length).map d4=L.map d4 by rw[as2]),az,rfl⟩
end
section
theorem DT:(Tryz.prog.info? 78).map (fun i=>(i.zero,i.size,i.bytes))=some (some (.agg #[.string ⟨#[]⟩,.string ⟨#[]⟩,.int .i64 0,.int .i64 0,.slice none 0 0]),5,72):=by kernel_rfl
set_option maxRecDepth 100000 in
theorem akP (v:Value) (n:Nat) (xs:List Value) (w:World) (aA:w.ownsRow 0 78 5 v n xs) (hn:n<=4294967296) (E: ∀u∈xs,u.oneCell'=true) (mm:0 < n):
  Calls Tryz.prog 142 #[v] w fun e w'=> ∃da,e= .returned da/\w'.ownsRow w.heap.size 78 5 da n xs/\Below w.heap.size w w':=by
 have hB:=fF.sm aA;obtain⟨b,o,c,rfl,-,-,-,-,-⟩:=hB.at_ mm;have akQ:=Lib.hid hB;have CI:=Lib.hid E;clear aA hB E;have yn:=Lib.run_eql_slice_nil (P:=Tryz.prog)
 go_enter Tryz.func142,Tryz.ntmps142
 go_wp2_with (at_builtin;refine Pa _ rfl (.tmp 5) (.tmp 6) _ rfl w.heap.size 78 _ 5 72 Tryz.underlying91 DT rfl aw0 (.slice (some ⟨w.heap.size,0,none⟩) 0 0) 0 [] rfl (by exact⟨aw2,.inr ⟨w.heap.size,0,#[],rfl,aq4 _,heap_alloc_new w _,aq4 _,aw1,rfl,rfl⟩⟩) _ (.slice (some ⟨b,o,none⟩) n c) n xs rfl (by exact akQ.out.below (ts _ _)) CI.out ay4 aw0 aw2 ?_;intro da d0 dC rY jL)
 go_wp2
 go_ret
 refine⟨da,rfl,by simpa using dC,?_⟩;exact(ts _ _).grown rY aw2 (fun k Z=>by simp[Value.ownBlock] at Z;omega)
theorem akR {P:Program} (w:World) (t ty e:TypeId) (aB:Value) (size bytes:Nat) (cn:P.underlying t=some (.slice e)) (ql:(P.info? e).map (fun i=>(i.zero,i.size,i.bytes))=some (some aB,size,bytes))
  (g k cap:Nat) (df:List Value) (aY:w.heap[g]? =some (.cells df.toArray e (0,0))) (D:Nat->Prop) (ik:Value) (m:Nat) (e2:List Value) (aC:fF D w size ik m e2) (E: ∀u∈e2,u.oneCell'=true)
  (B1:k+m<=cap) (lg:(k+m)*size<=df.length):
  ∃w',(Builtin.append_ #[t,t] ty #[.slice (some ⟨g,0,none⟩) k cap,ik]).run P w= .ok (.slice (some ⟨g,0,none⟩) (k+m) cap) w'/\w'.heap[g]? =some (.cells (splice df (k*size) e2).toArray e (0,0))/\w.grownBy w' (some g):=by
 obtain⟨i,aG,aR,zr,un⟩:=info_parts ql;subst zr;obtain⟨ap,A,c,rfl,_,_,al⟩:=aC;have akS:k*i.size+e2.length<=df.length:=by rw[ap,<-Nat.add_mul];exact lg
 rcases A with _ |ad
 .have aw:m=0:=by
   rcases Nat.eq_zero_or_pos m with av |av
   .exact av
   .obtain⟨b,o,h,_⟩:=al av
    cases h
  subst aw;have hn:e2=[]:=List.eq_nil_of_length_eq_zero az8;subst hn;refine⟨w,?_,by simpa[splice] using aY,World.grownBy.refl w _⟩;have akT:k<=cap:=aw8
  simp[Builtin.append_,run_underlying cn,sizeOf,typeInfo,aG,Builtin.lenOf,Builtin.firstCells,akT,storeCells]
 .have xm: ∀j u,e2[j]? =some u->w.cell? (ad.add j)=some u:=by
   intro j u a8;rcases Nat.eq_zero_or_pos m with av |av
   .subst av;have hn:e2=[]:=List.eq_nil_of_length_eq_zero az8;subst hn;simp at a8
   .obtain⟨b,o,h,_,_,J⟩:=al av;injection h with h
    subst h;rw[qk];exact J j u a8
  refine⟨_,run_append_room (P:=P) w t ty e i cn aG g k cap df.toArray aY ad m c e2 ap xm E B1 (by simpa using akS),?_,⟨rfl,rfl,rfl,by simp[World.setRow],fun d2 _ Z=>setRow_other w g d2 _ (fun e=>Z (by rw[e]))⟩⟩;rw[setRow_heap w g df.toArray _ e (0,0) aY];simp[splice]
theorem Vh {P:Program} (w:World) {dg:Array Oper} {o:Oper} {a:Act} {K:Act->World->Prop} {Q:Exit->Act->World->Prop} {uH:Prop} (uo:o.guard=none) (s x:Operand) (t:TypeId)
  (ag:o.op= .call {callee:=.builtin .append,args:= #[s,x],argTypes:= #[t,t]})
  (e:TypeId) (aB:Value) (size bytes:Nat) (cn:P.underlying t=some (.slice e)) (ql:(P.info? e).map (fun i=>(i.zero,i.size,i.bytes))=some (some aB,size,bytes))
  (g k cap:Nat) (ax:a.eval s= .slice (some ⟨g,0,none⟩) k cap) (df:List Value) (aY:w.heap[g]? =some (.cells df.toArray e (0,0))) (D:Nat->Prop) (ik:Value) (m:Nat) (e2:List Value) (hx:a.eval x=ik) (aC:fF D w size ik m e2) (E: ∀u∈e2,u.oneCell'=true)
  (B1:k+m<=cap) (lg:(k+m)*size<=df.length)
  (h: ∀w',w'.heap[g]? =some (.cells (splice df (k*size) e2).toArray e (0,0))->w.grownBy w' (some g)->K (a.put o.dst (.slice (some ⟨g,0,none⟩) (k+m) cap)) w'):
  if Region.wanted o (yielded dg a.tmps)=true then Oper.wp P o a w K Q else uH:=by
 have hw:Region.wanted o (yielded dg a.tmps)=true:=by simp[Region.wanted,uo]
 rw[if_pos hw];obtain⟨w',dW,G,al⟩:=akR (P:=P) w t o.type e aB size bytes cn ql g k cap df aY D ik m e2 aC E B1 lg;unfold Oper.wp execOp;simp only[ag,resolve,invoke,builtin,Sem.run_bind,Sem.run_pure,Result.andThen_ok,List.map_toArray,ar8,av4,ax,hx,dW];exact h w' G al
theorem akU {P:Program} (w:World) (t ty e:TypeId) (aB:Value) (size bytes:Nat) (cn:P.underlying t=some (.slice e)) (ql:(P.info? e).map (fun i=>(i.zero,i.size,i.bytes))=some (some aB,size,bytes)) (nT:aB.cells.size=size) (No: ∀u∈aB.cells.toList,u.oneCell'=true)
  (g o c:Nat) (df:List Value) (aY:w.heap[g]? =some (.cells df.toArray e (0,0))) (lg:o+size<=df.length):
  ∃w',(Builtin.clear_ #[t] ty #[.slice (some ⟨g,o,none⟩) 1 c]).run P w= .ok (.tuple #[]) w'/\w'.heap[g]? =some (.cells (splice df o aB.cells.toList).toArray e (0,0))/\w.grownBy w' (some g):=by
 obtain⟨i,aG,aR,zr,un⟩:=info_parts ql
 have v1:(Builtin.zeroCells aB.cells 1).toList=aB.cells.toList:=by
  have:Builtin.zeroCells aB.cells 1=aB.cells:=by
   apply Array.ext
   .simp[Builtin.zeroCells]
   .intro j E G;simp[Builtin.zeroCells,Nat.mod_eq_of_lt G,G]
  rw[this]
 have d':=run_storeCells_at P g o e aB.cells.toList 0 df.toArray w aY (by simp[nT];omega) No;simp only[Nat.add_zero] at d';refine⟨w.setRow g (List.take o df++aB.cells.toList++List.drop (o+aB.cells.toList.length) df).toArray,by simp[Builtin.clear_,run_underlying cn,zeroValue,typeInfo,aG,aR,v1,d'],?_,⟨rfl,rfl,rfl,by simp[World.setRow],fun d2 _ Z=>setRow_other w g d2 _ (fun e=>Z (by rw[e]))⟩⟩;rw[setRow_heap w g df.toArray _ e (0,0) aY];simp[splice]
theorem Vi {P:Program} (w:World) {dg:Array Oper} {rest:List Oper} {o:Oper} {a:Act} {Q:Exit->Act->World->Prop} (uo:o.guard=none) (x:Operand) (t:TypeId)
  (ag:o.op= .call {callee:=.builtin .clear,args:= #[x],argTypes:= #[t]})
  (e:TypeId) (aB:Value) (size bytes:Nat) (cn:P.underlying t=some (.slice e)) (ql:(P.info? e).map (fun i=>(i.zero,i.size,i.bytes))=some (some aB,size,bytes)) (nT:aB.cells.size=size) (No: ∀u∈aB.cells.toList,u.oneCell'=true)
  (g off c:Nat) (hx:a.eval x= .slice (some ⟨g,off,none⟩) 1 c) (df:List Value) (aY:w.heap[g]? =some (.cells df.toArray e (0,0))) (lg:off+size<=df.length)
  (h: ∀w',w'.heap[g]? =some (.cells (splice df off aB.cells.toList).toArray e (0,0))->w.grownBy w' (some g)->wpList P dg Q rest (a.put o.dst (.tuple #[])) w'):wpList P dg Q (o::rest) a w:=
 wpList_plain uo fun _ dq=>by
  obtain⟨w',dW,G,al⟩:=akU (P:=P) w t o.type e aB size bytes cn ql nT No g off c df aY lg;unfold Oper.wp execOp;simp only[ag,resolve,invoke,builtin,Sem.run_bind,Sem.run_pure,Result.andThen_ok,List.map_toArray,ar8,av4,hx,dW];exact dq _ _ (h w' G al)
theorem Vj {α:Type} (L:List α) (o:Nat):splice L o []=L:=by simp[splice]
theorem Vk {w w':World} {r:Option Nat} (h:w.drew.grownBy w' r):w.grownBy w' r:=⟨h.os,h.tape,h.output,h.size,h.block⟩
theorem Vl: ∀u∈(Value.agg #[.string ⟨#[]⟩,.string ⟨#[]⟩,.int .i64 0,.int .i64 0,.slice none 0 0]).cells.toList,u.oneCell'=true:=by simp[Value.cells,Value.oneCell']
theorem Vm {iy:World} {B g m cap:Nat} {df xs wx:List Value} (dy:B<=g) (bj:iy.heap[g]? =some (.cells (splice df (m*5) wx).toArray 78 (0,0))) (aw:m<=cap) (zO:cap<=maxLen) (J:df.length=cap*5) (aR:m*5+wx.length<=cap*5) (hx:df.take (m*5)=xs) (v6:xs.length=m*5):
  iy.ownsRow B 78 5 (.slice (some ⟨g,0,none⟩) m cap) m xs:=by
 refine⟨v6,.inr ⟨g,cap,_,rfl,dy,bj,aw,zO,?_,?_⟩⟩
 .simp only[List.size_toArray];rw[length_splice _ _ _ aw0,J]
 .simp only[splice];rw[List.take_append_of_le_length ax4,List.take_of_length_le ax4];exact hx
set_option maxRecDepth 100000 in
theorem akV (B g k:Nat) (xs:List Value) (w:World) (aA:w.ownsRow B 78 5 (.slice (some ⟨g,0,none⟩) (k+1) (k+1)) (k+1) xs):
  Calls Tryz.prog 141 #[.slice (some ⟨g,0,none⟩) (k+1) (k+1),.int .i64 k,.int .i64 (k+1)] w fun e w'=>e= .returned (.slice (some ⟨g,0,none⟩) k (k+1))/\
   w'.ownsRow B 78 5 (.slice (some ⟨g,0,none⟩) k (k+1)) k (xs.take (k*5))/\w.grownBy w' (some g):=by
 obtain⟨ap,G⟩:=aA;rcases G with⟨h,_⟩ |⟨hq,JS,df,U,dy,bj,EF,zO,f0,np⟩
 .cases h
 injection U with af ao bm
 injection af with af
 injection af with af
 subst af bm;clear ao;unfold maxLen at zO;have akW:(0:Int)<=(k:Int):=aw8
 have o2:(k:Int)<=(k:Int)+1:=aw8
 have Ar:((k:Int) == (k:Int)+1)=false:=ax4
 have qV:(0:Int)<=(k:Int)+1:=aw8
 have u6:(k:Int)+1<=((k+1:Nat):Int):=aw8
 have k5:k<=k+1:=aw8
 have Np:=Lib.hid bj;have vu:=Lib.hid (show df.toList.length=(k+1)*5 by rw[Array.length_toList,f0]);have DU:=Lib.hid ap;have Nq:=Lib.hid np;have Nr:=Lib.hid dy;have hE:fF (fun _=>True) w 5 (.slice (some ⟨g,0,none⟩) 0 0) 0 []:=⟨aw2,_,_,rfl,aw0,by simp only[maxLen];omega,fun h=>absurd h aw0⟩;have Ns:=Lib.hid hE;clear bj f0 ap np hE
 go_enter Tryz.func141,Tryz.ntmps141
 go_wp2
 go_region_law ((refine Vh _ aw4 (.tmp 22) (.tmp 25) _ aw4 78 _ 5 72 Tryz.underlying91 DT g k (k+1) aw4 df.toList (by exact Np.out) (fun _=>True) _ 0 [] aw4 (by exact Ns.out) (fun u a8=>by cases a8) aw0 (by rw[vu.out];omega) ?_;intro e7 Nt Nu))
 all_goals rw[Nat.add_zero]
 all_goals
  go_wp2_with (refine Vi _ rfl (.tmp 31) 91 rfl 78 _ 5 72 Tryz.underlying91 DT rfl Vl g (k*5) 1 rfl _ Nt (by rw[Vj,vu.out];omega) ?_;intro iy HQ Nv)
  go_ret
  refine⟨rfl,?_,(Vk Nu).trans Nv⟩;rw[Vj] at HQ;refine Vm Nr.out HQ aw0 ay4 vu.out (by simp[Value.cells];omega) ?_ (by rw[ar3,DU.out];omega);rw[<-Nq.out,List.take_take]
  congr 1
  omega
set_option maxRecDepth 100000 in
theorem akX (B g m cap k:Nat) (xs:List Value) (w:World) (aA:w.ownsRow B 78 5 (.slice (some ⟨g,0,none⟩) (m+1) cap) (m+1) xs) (Z:k<=m) (a6: ¬cap=k+1) (E: ∀u∈xs,u.oneCell'=true):
  Calls Tryz.prog 141 #[.slice (some ⟨g,0,none⟩) (m+1) cap,.int .i64 k,.int .i64 (k+1)] w fun e w'=>e= .returned (.slice (some ⟨g,0,none⟩) m cap)/\
   w'.ownsRow B 78 5 (.slice (some ⟨g,0,none⟩) m cap) m (xs.take (k*5)++xs.drop ((k+1)*5))/\w.grownBy w' (some g):=by
 obtain⟨ap,G⟩:=aA;rcases G with⟨h,_⟩ |⟨hq,JS,df,U,dy,bj,EF,zO,f0,np⟩
 .cases h
 injection U with af ao bm
 injection af with af
 injection af with af
 subst af bm;clear ao;unfold maxLen at zO;have akW:(0:Int)<=(k:Int):=aw8
 have o2:(k:Int)<=(k:Int)+1:=aw8
 have Ar:((k:Int) == (k:Int)+1)=false:=ax4
 have qV:(0:Int)<=(k:Int)+1:=aw8
 have o3:(k:Int)+1<=((m+1:Nat):Int):=aw8
 have aqC:(k:Int)+1<=(m:Int)+1:=aw8
 have u6:((m+1:Nat):Int)<=(cap:Int):=aw8
 have aqD:(m:Int)+1<=(cap:Int):=aw8
 have aqE:(k:Int)+1<=(cap:Int):=aw8
 have aqF: ¬cap=0:=aw8
 have i8: ¬cap=m:=aw8
 have k5:k<=cap:=aw8
 have w5:k+1<=m+1:=aw8
 have aqG:k+1<=cap:=aw8
 have aqH:m<=m+1:=aw8
 have aqI:m+1<=cap:=aw8
 have Np:=Lib.hid bj;have CI:=Lib.hid E;have vu:=Lib.hid (show df.toList.length=cap*5 by rw[Array.length_toList,f0]);have DU:=Lib.hid ap;have Nq:=Lib.hid np;have Nr:=Lib.hid dy;have bZ:(xs.drop ((k+1)*5)).length=(m+1 - (k+1))*5:=by rw[au3,ap];omega
 have DV:=Lib.hid bZ;have cu:=me bj
 have CN: ∀j u,(xs.drop ((k+1)*5))[j]? =some u->w.cell? ⟨g,(k+1)*5+j,none⟩=some u:=by
  intro j u V;rw[List.getElem?_drop,<-np,List.getElem?_take] at V
  split at V
  .simpa[World.cell?,bj] using V
  .cases V
 have hE: ∀q c,q=m+1 - (k+1)->q<=c->c<=maxLen->fF (fun _=>True) w 5 (.slice (some ⟨g,(k+1)*5,none⟩) q c) (m+1 - (k+1)) (xs.drop ((k+1)*5)):=fun q c aP G al=>by
  subst aP;exact⟨bZ,_,_,rfl,G,al,fun h=>⟨g,_,rfl,trivial,cu,CN⟩⟩
 have Ns:=Lib.hid hE;have Ag:k+(m+1 - (k+1))=m:=aw8
 have akY:=Lib.hid Ag;have akZ:=Lib.hid (show k+(m - k)=m by omega);clear bj E f0 ap np bZ CN hE Ag
 go_enter Tryz.func141,Tryz.ntmps141
 go_wp2
 go_region_law ((refine Vh _ aw4 (.tmp 22) (.tmp 25) _ aw4 78 _ 5 72 Tryz.underlying91 DT g k cap aw4 df.toList (by exact Np.out) (fun _=>True) _ (m+1 - (k+1)) (xs.drop ((k+1)*5)) aw4 (by exact Ns.out _ _ aw0 aw0 (by simp only[maxLen];omega)) (fun u a8=>CI.out u (List.mem_of_mem_drop a8)) aw0 (by rw[vu.out];omega) ?_;intro e7 Nt Nu))
 all_goals try (first |rw[akY.out] |rw[akZ.out])
 all_goals
  go_wp2_with (refine Vi _ rfl (.tmp 31) 91 rfl 78 _ 5 72 Tryz.underlying91 DT rfl Vl g (m*5) (cap - m) rfl _ Nt (by rw[length_splice _ _ _ (by rw[DV.out,vu.out];omega),vu.out];omega) ?_;intro iy HQ Nv)
  go_ret
  refine⟨rfl,?_,(Vk Nu).trans Nv⟩;refine Vm Nr.out HQ aw0 ay4 (by rw[length_splice _ _ _ (by rw[DV.out,vu.out];omega),vu.out]) (by simp[Value.cells];omega) ?_ (by rw[aq5,ar3,DV.out,DU.out];omega)
  have af:List.take (k*5) df.toList=xs.take (k*5):=by
   rw[<-Nq.out,List.take_take];congr 1;omega
  unfold splice;rw[af,<-au2,List.take_append_of_le_length (by rw[aq5,ar3,DV.out,DU.out];omega)];exact List.take_of_length_le (by rw[aq5,ar3,DV.out,DU.out];omega)
theorem ak0 (B g m cap k:Nat) (xs:List Value) (w:World) (aA:w.ownsRow B 78 5 (.slice (some ⟨g,0,none⟩) (m+1) cap) (m+1) xs) (Z:k<=m) (E: ∀u∈xs,u.oneCell'=true):
  Calls Tryz.prog 141 #[.slice (some ⟨g,0,none⟩) (m+1) cap,.int .i64 k,.int .i64 (k+1)] w fun e w'=>e= .returned (.slice (some ⟨g,0,none⟩) m cap)/\
   w'.ownsRow B 78 5 (.slice (some ⟨g,0,none⟩) m cap) m (xs.take (k*5)++xs.drop ((k+1)*5))/\w.grownBy w' (some g):=by
 by_cases J:cap=k+1
 .have ak1:m=k:=by
   rcases aA.2 with⟨h,_⟩ |⟨hq,JS,df,U,_,_,al,_⟩
   .cases h
   .injection U with _ _ bm
    omega
  subst ak1 J;refine(akV B g m xs w aA).mono fun e w' ⟨U,G,al⟩=>⟨U,?_,al⟩
  rw[List.drop_of_length_le (by have:=aA.1;omega),au0];exact G
 .exact akX B g m cap k xs w aA Z J E
end
section
theorem Vn {I:Nat->Prop} {w:World} {u:bA} {xs:List (aa u)} {cs:List Value} (aR:0 < aS u) (ap:cs.length=xs.length*aS u) (h:gX I w u xs cs): ∀v∈cs,v.oneCell'=true:=fun v aA=>by
 obtain⟨k,Z,rfl⟩:=List.getElem_of_mem aA;obtain⟨af,ao,bm⟩:=EI (show k < xs.length*aS u by omega);obtain⟨da,E,G⟩:=cq.one u _ _ (h (k/aS u) _ (oj af)) (k % aS u) ao;rw[bm,oj Z] at E;injection E with E
 rw[E];exact G
theorem cq.Vo {I:Nat->Prop} {w:World} {u:bA} {x:aa u} {c b7:Nat->Option Value} (h:cq I w u x c) (J: ∀j v,j < aS u->c j=some v->b7 j=some v):cq I w u x b7:=
 cq.mk u x b7 (cq.wf u x c h) fun j V=>by
  obtain⟨v,E,G⟩:=cq.cell u x c j h V;exact⟨v,J j v V E,G⟩
theorem ak2 {I:Nat->Prop} {w:World} {u:bA} {xs:List (aa u)} {cs:List Value} {k:Nat} (Z:k < xs.length) (ap:cs.length=xs.length*aS u) (h:gX I w u xs cs):gX I w u (xs.eraseIdx k) (cs.take (k*aS u)++cs.drop ((k+1)*aS u)):=fun i x aG=>by
 rw[List.getElem?_eraseIdx] at aG;have Hq:(k+1)*aS u<=xs.length*aS u:=Nat.mul_le_mul_right _ Z;have b':(k+1)*aS u=k*aS u+aS u:=Nat.succ_mul k (aS u);have bx:(cs.take (k*aS u)).length=k*aS u:=ax7
 split at aG
 .rename_i vk;have:(i+1)*aS u<=k*aS u:=Nat.mul_le_mul_right _ vk;rw[Nat.succ_mul] at this;refine(h i x aG).Vo fun j v V aA=>?_
  rw[as8 aw0,List.getElem?_take,if_pos aw0];exact aA
 .rename_i vk;have:k*aS u<=i*aS u:=Nat.mul_le_mul_right _ aw0;have af:(i+1)*aS u=i*aS u+aS u:=Nat.succ_mul i (aS u);refine(h (i+1) x aG).Vo fun j v V aA=>?_
  rw[at4 aw0,List.getElem?_drop,bx];rw[<-aA]
  congr 1
  omega
set_option maxRecDepth 100000 in
theorem ak3 (L:List bR) (av:0 < L.length) (cH:L.length<=4294967296):
  Fn Tryz.prog 142 [eX 1001] [(1001,.row 78 l5 L)] [1002] (eX 1002) [(1001,.row 78 l5 L),(1002,.row 78 l5 L)]:=by
 refine⟨aw3,?_⟩;intro ρ F I w bW a2 c0 bd eG bZ dx
 match bW,bZ with
 | [v],_=>
  obtain rfl:v=(ρ 1001).eK:=dx 0 _ v rfl rfl;have bj:=c0 1001 _ rfl;obtain⟨tR,li,cs,yJ,jZ⟩:=bj;refine(akP (ρ 1001).eK L.length cs w yJ cH (Vn aw1 yJ.1 jZ) av).mono ?_;rintro e w' ⟨da,rfl,dC,O⟩;rcases dC.2 with⟨_,hn⟩ |⟨g,cap,df,rfl,aY,s3,xC,aw,f0,np⟩
  .omega
  have C6:g < w'.heap.size:=(Array.getElem?_eq_some_iff.1 s3).1;have aZ:cj I w I w':=fun b fW=>⟨fW,O.block b (a2 b fW)⟩
  refine⟨_,dc ρ 1002 ⟨g,some ⟨g,0,none⟩,L.length,cap⟩,dc F 1002 (fun b=>b=g),rfl,cP.oR O,?_,I,aZ,?_,?_,?_,?_,?_⟩
  .intro c J;exact dm _ _ (fun e=>J (by simp[e]))
  .intro b fW;exact⟨Nat.lt_of_lt_of_le (a2 b fW) O.size,.inl fW⟩
  .intro c ch J;rw[cd] at J
   split at J
   .rename_i dX;subst dX;injection J with J;subst J
    rw[dm _ _ aw1,dm _ _ aw1];exact⟨tR,li,cs,Ph yJ (fun b gU=>O.block b ((bd 1001 _ rfl b ((tR b).2 gU)).1)),jZ.mono aZ⟩
   .rw[cd] at J
    split at J
    .rename_i dX;subst dX;injection J with J;subst J
     rw[dd,dd];exact⟨fun b=>⟨fun e=>by subst e;rfl,fun e=>by injection e with e;exact e.symm⟩,fun b e=>by injection e with e;exact e.symm,cs,⟨dC.1,.inr ⟨g,cap,df,rfl,aq9 _,s3,xC,aw,f0,np⟩⟩,jZ.mono aZ⟩
    .simp[aj] at J
  .intro c ch J b p';rw[cd] at J
   split at J
   .rename_i dX;subst dX;rw[dm _ _ aw1] at p';have:=bd 1001 _ rfl b p';exact⟨Nat.lt_of_lt_of_le this.1 O.size,this.2,.inl ⟨1001,_,rfl,p'⟩⟩
   .rw[cd] at J
    split at J
    .rename_i dX;subst dX;rw[dd] at p';subst p';exact⟨C6,fun fW=>by have:=a2 _ fW;omega,.inr aY⟩
    .simp[aj] at J
  .intro c b7 ch ch' b J cQ a6 gb gU;rw[cd] at J cQ;have key: ∀b,F 1001 b-> ¬b=g:=fun b gb e=>by have:=(bd 1001 _ rfl b gb).1;omega
   split at J
   .rename_i dX;subst dX;rw[dm _ _ aw1] at gb;rw[if_neg a6,cd] at cQ
    split at cQ
    .rename_i dX;subst dX;rw[dd] at gU;exact key b gb gU
    .simp[aj] at cQ
   .rw[cd] at J
    split at J
    .rename_i dX;subst dX;rw[dd] at gb
     split at cQ
     .rename_i dX;subst dX;rw[dm _ _ aw1] at gU;exact key b gU gb
     .rw[cd,if_neg a6] at cQ;simp[aj] at cQ
    .simp[aj] at J
  .show _=bo.eK (dc ρ 1002 _ 1002);rw[dd];rfl
set_option maxRecDepth 100000 in
theorem ak4 (L:List bR) (k:Nat) (Z:k < L.length):
  Fn Tryz.prog 141 [eX 1001,ac k,ac (k+1)] [(1001,.row 78 l5 L)] [1002] (eX 1002) [(1002,.row 78 l5 (L.eraseIdx k))]:=by
 refine⟨aw3,?_⟩;intro ρ F I w bW a2 c0 bd eG bZ dx
 match bW,bZ with
 | [v,kS,v2],_=>
  obtain rfl:v=(ρ 1001).eK:=dx 0 _ v rfl rfl;obtain rfl:kS= .int .i64 k:=dx 1 _ kS rfl rfl;obtain rfl:v2= .int .i64 (k+1):=dx 2 _ v2 rfl rfl;have bj:=c0 1001 _ rfl;obtain⟨tR,li,cs,yJ,jZ⟩:=bj;have ss:=Vn aw1 yJ.1 jZ;have Vp:=yJ;obtain⟨dF,G⟩:=yJ;rcases G with⟨_,hn⟩ |⟨g,cap,df,HR,aY,s3,xC,aw,f0,np⟩
  .omega
  have HS:F 1001 g:=(tR g).2 (by rw[HR];rfl);obtain⟨m,Hg⟩: ∃m,L.length=m+1:=⟨L.length - 1,aw0⟩;rw[HR,Hg] at Vp;rw[HR,Hg];have aqJ:g < w.heap.size:=(Array.getElem?_eq_some_iff.1 s3).1;refine(ak0 0 g m cap k cs w Vp aw0 ss).mono ?_;rintro e w' ⟨rfl,dC,rY⟩;have aZ:cj I w I w':=fun b fW=>⟨fW,rY.block b (a2 b fW) (fun e=>by injection e with e;subst e;exact(bd 1001 _ rfl _ HS).2 fW)⟩
  have fZ:(L.eraseIdx k).length=m:=by rw[List.length_eraseIdx_of_lt Z];omega
  have aqK: ∀b,F 1001 b↔b=g:=fun b=>by rw[tR,HR];exact⟨fun e=>by injection e with e;exact e.symm,fun e=>by subst e;rfl⟩
  have dI: ∀c ch,aj [(1002,ba.row 78 l5 (L.eraseIdx k))] c=some ch->c=1002/\ch=ba.row 78 l5 (L.eraseIdx k):=fun c ch J=>by
   rw[cd] at J
   split at J
   .rename_i dX;injection J with J;exact⟨dX.symm,J.symm⟩
   .simp[aj] at J
  refine⟨_,dc ρ 1002 ⟨g,some ⟨g,0,none⟩,m,cap⟩,dc F 1002 (fun b=>b=g),rfl,Pc rY (fun b e=>by injection e with e;subst e;exact⟨1001,_,rfl,HS⟩),?_,I,aZ,?_,?_,?_,?_,?_⟩
  .intro c J;exact dm _ _ (fun e=>J (by simp[e]))
  .intro b fW;exact⟨Nat.lt_of_lt_of_le (a2 b fW) rY.size,.inl fW⟩
  .intro c ch J;obtain⟨rfl,rfl⟩:=dI c ch J;rw[dd,dd];refine⟨fun b=>⟨fun e=>by subst e;rfl,fun e=>by injection e with e;exact e.symm⟩,fun b e=>by injection e with e;exact e.symm,_,?_,ak2 Z dF (jZ.mono aZ)⟩;rw[fZ];exact dC
  .intro c ch J b p';obtain⟨rfl,rfl⟩:=dI c ch J;rw[dd] at p';subst p';have:=bd 1001 _ rfl _ HS;exact⟨Nat.lt_of_lt_of_le this.1 rY.size,this.2,.inl ⟨1001,_,rfl,HS⟩⟩
  .intro c b7 ch ch' b J cQ a6;exact absurd ((dI c ch J).1.trans (dI b7 ch' cQ).1.symm) a6
  .show _=bo.eK (dc ρ 1002 _ 1002);rw[dd];rfl
end
section
def r9 (L:List bR) (nm:aA0):Int:=if ep L nm < 0 then 181 else if w4 L nm=true then 1 else 0
def qb (L:List bR) (nm:aA0):List bR:=if r9 L nm=0 then L.eraseIdx (ep L nm).toNat else L
theorem ak5 (L:List bR) (nm:aA0) (cH:L.length<=1000000):Fn Tryz.prog 85 [ah 1001,bQ nm] (kJ L) [1003] (ac (r9 L nm)) (U0 (qb L nm)):=by
 have yK:=HK nm L aw0;have HT:=akF 140 _ nm L aw0 fun b=>akE b nm
 rcases w1 (fun x=>decide (d4 x=nm)) L with⟨h,_⟩ |⟨k,x,h,hx,_⟩
 .have hf:ep L nm= -1:=h;have aZ:r9 L nm=181:=by unfold r9;rw[if_pos aw0]
  have cp:qb L nm=L:=by unfold qb;rw[if_neg aw0]
  rw[hf] at yK;rw[aZ,cp];refine aT [] Tryz.func85 ?_;exact⟨rfl,ak yK ⟨fun h=>⟨_,_,_,ab.aV 1002 1003 rfl,rfl,rfl,az,rfl⟩,fun h=>absurd h aw1⟩⟩
 .have hf:ep L nm=k:=h;have Z:k < L.length:=(ar1.1 hx).1;rw[hf] at yK;have aZ:r9 L nm=if w4 L nm=true then 1 else 0:=by unfold r9;rw[if_neg aw0]
  refine aT [] Tryz.func85 ?_;refine⟨rfl,ak yK ⟨fun h=>absurd (gd h) aw0,fun h=>ak (Fn.aV [(1001,3)] HT) ⟨fun G=>?_,fun G=>?_⟩⟩⟩
  .have ae:w4 L nm=true:=G;rw[ae,if_pos rfl] at aZ;have cp:qb L nm=L:=by unfold qb;rw[if_neg aw0]
   rw[aZ,cp];exact⟨_,_,_,ab.aV 1002 1003 rfl,rfl,rfl,az,rfl⟩
  .have ae:w4 L nm=false:=G;rw[ae,if_neg aw2] at aZ;have cp:qb L nm=L.eraseIdx k:=by unfold qb;rw[if_pos aZ,hf];rfl
   rw[aZ,cp];exact ak (Fn.aV [(1001,1002),(1002,2001)] (ak3 L aw0 aw0)) ⟨aw0,ak (Fn.aV [(1001,2001),(1002,2002)] (ak4 L k Z)) ⟨_,_,_,ab.aV 2002 1003 rfl,rfl,rfl,az,rfl⟩⟩
def Vq (L:List bR) (o:vt):List bR:=if decide (Va o=1)=true then qb (HP L o) (akJ o) else HP L o
end
section
end
section
end
section
end
section
theorem ak6 {α:Type} (p:α->Bool): ∀(L:List α),(if 0<=k4 p L then fz L (k4 p L).toNat else none)=L.find? p:=by
 intro L;rcases w1 p L with⟨h,hn⟩ |⟨k,x,h,hx,ae,bx⟩
 .rw[h,if_neg aw0];refine(List.find?_eq_none.2 fun x hx=>?_).symm;obtain⟨i,aG,rfl⟩:=List.getElem_of_mem hx;rw[hn i _ (oj aG)];simp
 .rw[h,if_pos aw0,Int.toNat_natCast];unfold fz;rw[hx];refine(List.find?_eq_some_iff_getElem.2 ⟨ae,k,(ar1.1 hx).1,(ar1.1 hx).2,fun j V=>?_⟩).symm;have:=bx j _ V (oj (by have:=(ar1.1 hx).1;omega));simpa using this
theorem Bd (L:List bR) (nm:aA0):l6 L (ep L nm)=L.find? (fun b=>decide (d4 b=nm)):=ak6 _ L
theorem Nw {α:Type} (p:α->Bool): ∀(L:List α) (k:Nat) (x:α),L[k]? =some x->p x=false->(L.eraseIdx k).find? p=L.find? p
 | [],k,x,h,_=>by simp at h
 |a::L,0,x,h,ae=>by
  simp only[ar9,aq8] at h;subst h;simp[List.find?_cons,ae]
 |a::L,k+1,x,h,ae=>by
  simp only[av7] at h;rw[List.eraseIdx_cons_succ,List.find?_cons,List.find?_cons,Nw p L k x h ae]
theorem HU (L:List bR) (nm:aA0):ep L nm < 0↔L.find? (fun b=>decide (d4 b=nm))=none:=by
 rw[<-Bd];unfold l6;constructor
 .intro h;rw[if_neg aw0]
 .intro h;rcases w1 (fun b=>decide (d4 b=nm)) L with⟨G,_⟩ |⟨k,x,G,hx,_⟩
  .unfold ep;omega
  .have G:ep L nm=k:=G;rw[if_pos aw0,G,Int.toNat_natCast] at h;unfold fz at h;rw[hx] at h
   cases h
end
section
theorem HV {L:List bR} {nm:aA0} (h:0<=ep L nm): ∃x,L.find? (fun y=>decide (d4 y=nm))=some x:=by
 cases hx:L.find? (fun y=>decide (d4 y=nm)) with
 |some x=>exact⟨x,rfl⟩
 |none=>have:=(HU L nm).2 hx;omega
theorem ak7 {L:List bR} (a2:lE L) {b:bR} (O:b∈L) (ae:di b≠[]):0<=ep L (di b):=by
 obtain⟨k,Z,rfl⟩:=List.getElem_of_mem O;exact(a2.DR k _ (oj Z) (by simpa using ae)).1
theorem ak8 {b:bR} (h:ht b=true):16<=e9 (c4 b)/\e9 (c4 b)<=128:=by
 obtain⟨E,G,_,_⟩:=DQ h;exact UW E G
theorem ak9 {b:bR} (h:ht b=true): ∀p,p∈cD b->0<=fD p/\fD p < eI b/\((jS p).length:Int)=e9 (c4 b):=fun p ae=>by
 simp only[ht,vj] at h;have:=Ni _ _ _ _ h.1.2 p ae;omega
end
section
theorem ak' {α:Type} (p:α->Bool) {L:List α} {q k:Nat} (aP:k4 p L=q) (a6:q≠k):k4 p (L.eraseIdx k)=((if q < k then q else q - 1:Nat):Int):=by
 rcases w1 p L with⟨h,_⟩ |⟨j,x,h,hx,ae,bx⟩
 .omega
 .obtain rfl:j=q:=aw8
  have aY: ∀i:Nat,(L.eraseIdx k)[i]? =if i < k then L[i]? else L[i+1]? :=fun i=>List.getElem?_eraseIdx ..
  have dM:(L.eraseIdx k)[if j < k then j else j - 1]? =some x:=by
   rw[aY]
   by_cases E:j < k
   .rw[if_pos E,if_pos E];exact hx
   .rw[if_neg E,if_neg aw0,show j - 1+1=j by omega];exact hx
  have Kk:=(ar1.1 dM).1;refine UT Kk (fun i b aG O=>?_) (by rw[(ar1.1 dM).2];exact ae);rw[aY] at O
  by_cases E:j < k
  .rw[if_pos E] at aG;rw[if_pos aw0] at O;exact bx i b aG O
  .rw[if_neg E] at aG
   split at O
   .exact bx i b aw0 O
   .exact bx (i+1) b aw0 O
theorem Vr {L:List bR} {nm:aA0} (h:w4 L nm=false) {b:bR} (O:b∈L):di b≠nm:=fun e=>by
 obtain⟨i,aG,rfl⟩:=List.getElem_of_mem O;rcases w1 (fun b=>decide (di b=nm)) L with⟨_,hn⟩ |⟨k,x,G,_⟩
 .have:=hn i _ (oj aG);simp[e] at this
 .have:w4 L nm=true:=by unfold w4;rw[G];simp
  rw[h] at this
  cases this
theorem Vs {L:List bR} {nm:aA0} (h:r9 L nm=0):0<=ep L nm/\w4 L nm=false:=by
 unfold r9 at h
 split at h
 .cases h
 split at h
 .cases h
 .rename_i E G;exact⟨aw0,by simpa using G⟩
theorem Nx {L:List bR} (a2:lE L) (nm:aA0):lE (qb L nm):=by
 unfold qb
 split
 .rename_i aZ;obtain⟨E,G⟩:=Vs aZ;obtain⟨k,Z⟩: ∃k:Nat,ep L nm=k:=⟨(ep L nm).toNat,aw0⟩;rw[Z,Int.toNat_natCast];refine⟨au4 (List.length_eraseIdx_le _ _) a2.len,fun b O=>a2.right b (List.mem_of_mem_eraseIdx O),fun d2 b O ae=>?_⟩;have ala:b∈L:=List.mem_of_mem_eraseIdx (List.mem_of_getElem? O);have a6:=Vr G ala;rw[List.getElem?_eraseIdx] at O
  obtain⟨j,V,lV⟩: ∃j,L[j]? =some b/\((d2 < k/\j=d2)\/(k<=d2/\j=d2+1)):=by
   split at O
   .exact⟨d2,O,.inl ⟨aw0,rfl⟩⟩
   .exact⟨d2+1,O,.inr ⟨aw0,rfl⟩⟩
  obtain⟨d6,cV⟩:=a2.DR j b V ae;obtain⟨q,aP⟩: ∃q:Nat,ep L (di b)=q:=⟨(ep L (di b)).toNat,aw0⟩
  have alb:q≠k:=fun e=>by
   subst e;have b0:=Bd L (di b);have ca:=Bd L nm;rw[aP] at b0;rw[Z] at ca;obtain⟨x,hx⟩:=HV (L:=L) (nm:=nm) aw0;rw[hx] at ca;rw[ca] at b0;have b1:=List.find?_some hx;have b2:=List.find?_some b0.symm;simp only[as1] at b1 b2;exact a6 (b2.symm.trans b1)
  have U:ep (L.eraseIdx k) (di b)=((if q < k then q else q - 1:Nat):Int):=ak' _ aP alb;rw[U]
  split <;>omega
 .exact a2
end
section
def s8 (n k:Nat):UInt8:=UInt8.ofNat (n/256 ^k % 256)
def eq (n:Nat):Nat->aA0
 |0=>[]
 |k+1=>s8 n k::eq n k
theorem qW (n:Nat): ∀k,(eq n k).length=k
 |0=>rfl
 |k+1=>by simp[eq,qW n k]
theorem Vt (n:Nat): ∀(k i:Nat),i < k->(eq n k)[i]? =some (s8 n (k - 1 - i))
 |0,i,h=>by omega
 |k+1,0,h=>by simp[eq]
 |k+1,i+1,h=>by
  simp only[eq,av7];rw[Vt n k i aw0]
  congr 2
  omega
theorem Vu (m k:Nat):UInt8.ofNat (((m:Nat):Int)/((2 ^(8*k):Nat):Int) % 256).toNat=s8 m k:=by
 unfold s8;have h:(2:Nat) ^(8*k)=256 ^k:=by rw[Nat.pow_mul]
 rw[h]
 congr 1
abbrev W (w:Nat):Prop:=w=1\/w=2\/w=4
theorem Ny (w:Nat) (hw:W w):Fn Tryz.prog 91 [ac (w:Nat)] [] [] (fk true) []:=by
 refine aT [] Tryz.func91 ?_;refine⟨fun h=>?_,fun E=>?_⟩
 .exact bc
 refine⟨fun h=>?_,fun G=>?_⟩
 .exact bc
 refine⟨fun h=>?_,fun al=>?_⟩
 .exact bc
 have E: ¬((w:Nat):Int)=1:=mu E;have G: ¬((w:Nat):Int)=2:=mu G;have al: ¬((w:Nat):Int)=4:=mu al;unfold W at hw;omega
theorem Vv (n w:Nat) (hw:W w) (hn:n < 256 ^w):Fn Tryz.prog 92 [ac (n:Nat),ac (w:Nat)] [] [] (fk true) []:=by
 have ae:(2 ^(8*((w:Nat):Int)).toNat:Nat)=256 ^w/\256 ^w<=4294967296:=by
  rcases hw with rfl |rfl |rfl <;>decide
 refine aT [] Tryz.func92 ?_;refine⟨fun h=>?_,fun E=>?_⟩
 .have h:((w:Nat):Int)=8:=gd h;unfold W at hw;omega
 refine⟨fun h=>?_,fun h=>absurd (show¬(0:Int)<=((n:Nat):Int) from mu h) aw0⟩;have nx:w<=4:=by unfold W at hw;omega
 refine⟨aw0,⟨aw0,aw0,aw0⟩,?_,?_⟩
 .rw[ae.1];omega
 refine⟨_,_,_,bq,rfl,ar6 ?_,trivial,rfl⟩;show((n:Nat):Int) < 1*((2 ^(8*((w:Nat):Int)).toNat:Nat):Int);rw[ae.1];omega
def eP (w:Nat) (l:aA1):aA0:=l.flatMap fun n=>eq n w
theorem nK (w:Nat) (l:aA1):(eP w l).length=l.length*w:=by
 induction l with
 |nil=>simp[eP]
 |cons n l bu=>
  simp only[eP,av1,aq5,au1,qW] at bu⊢;rw[bu,Nat.succ_mul];omega
theorem Vw (w:Nat) {l:aA1} {k:Nat} (h:k < l.length):eP w (l.take (k+1))=eP w (l.take k)++eq l[k] w:=by
 unfold eP;rw[<-vr h,List.flatMap_append];simp
def s9 (l:aA1):List Int:=l.map Int.ofNat
abbrev vv (l:aA1):List (aa oE):=s9 l
abbrev Vx (l:aA1) (w r k:Nat):aX:=[(0,eX r),(1,ac (w:Nat)),(2,bv oE (vv l)),(17,bv oE (vv l)),(18,ac (l.length:Nat)),(19,ac (k:Nat))]
abbrev Vy (l:aA1) (w r k:Nat):aX:=[(0,eX r),(1,ac (w:Nat)),(29,bv oE (vv l)),(30,ac (l.length:Nat)),(31,ac (k:Nat))]
abbrev HW (l:aA1) (w r k n i:Nat):aX:=[(0,eX r),(1,ac (w:Nat)),(11,ac (n:Nat)),(29,bv oE (vv l)),(30,ac (l.length:Nat)),(31,ac (k:Nat)),(35,ac (w:Nat)),(36,ac (i:Nat))]
abbrev qc (r:Nat) (l:aA0):ay:=[(r,.row 5 .u8 l)]
theorem HX {l:aA1} {k:Nat} (h:k < l.length):fz (vv l) k=some ((l[k]:Nat):Int):=by
 show(s9 l)[k]? =some _;unfold s9;rw[as6,oj h];rfl
theorem Vz (xs ys:aA0) (n i:Nat) (w:Nat) (aG:i < w):(xs++(eq n w).take i)++[s8 n (w - 1 - i)]=xs++(eq n w).take (i+1):=by
 have ap:=qW n w;rw[au2,<-vr (by omega:i < (eq n w).length)]
 congr 2
 have:=Vt n w i aG;rw[oj aw0] at this;injection this with this
 rw[this]
theorem yL (xs:aA0) (w:Nat) (l:aA1) (hw:W w) (hf: ∀n,n∈l->n < 256 ^w) (ap:l.length<=1000) (hx:xs.length<=1000000000):
  Fn Tryz.prog 48 [eX 1001,ac (w:Nat),bv oE (vv l)] (qc 1001 xs) [1002] (.cb [.one (.own 1002),.one (.d (.bool true))]) (qc 1002 (xs++eP w l)):=by
 have nx:w<=4:=by unfold W at hw;omega
 have wS:List.length (vv l)=l.length:=show(s9 l).length=_ by unfold s9;exact ar7 _
 refine aT [] Tryz.func48 ?_;refine ak (Ny w hw) <| cX <| dG [] (X:=Nat) (Vx l w 2001) (fun _=>qc 2001 xs) (fun k=>k<=l.length) (fun k=>l.length - k) 0 (aq9 _) ?_ ?_
 .exact ab.trans (ab.aV 1001 2001 rfl) (ab.sub ⟨rfl,rfl,rfl,rfl,congrArg Int.ofNat wS,rfl,trivial⟩ az)
 intro k Z;refine⟨fun h=>?_,fun h=>?_⟩
 .have b':k < l.length:=aw9
  exact⟨aw0,((l[k]:Nat):Int),HX b',ak (Vv l[k] w hw (hf _ (as3 b'))) <| cX ⟨aw0,k+1,b',aw0,ab.sub az az⟩⟩
 clear h Z;refine dG [] (X:=Nat) (Vy l w 2001) (fun k=>qc 2001 (xs++eP w (l.take k))) (fun k=>k<=l.length) (fun k=>l.length - k) 0 (aq9 _) ?_ ?_
 .exact ab.sub ⟨rfl,rfl,rfl,congrArg Int.ofNat wS,rfl,trivial⟩ ⟨congrArg (fun l=>some (ba.row _ .u8 l)) (au0 xs).symm,trivial⟩
 intro k Z;refine⟨fun h=>?_,fun h=>?_⟩
 .have b':k < l.length:=aw9
  have ax:=Vw w b';have hn:=hf _ (as3 b');have bZ:=nK w (l.take k);have PV:(l.take k).length*w<=1000*4:=Nat.mul_le_mul ax7 nx;refine⟨aw0,((l[k]:Nat):Int),HX b',?_⟩;generalize l[k]=n at*;generalize eP w (l.take k)=ys at*;have alc:n < 4294967296:=Nat.lt_of_lt_of_le hn (by rcases hw with rfl |rfl |rfl <;>decide);refine dG [] (X:=Nat) (HW l w 2001 k n) (fun i=>qc 2001 ((xs++ys)++(eq n w).take i)) (fun i=>i<=w) (fun i=>w - i) 0 (aq9 _) ?_ ?_
  .exact ab.sub az ⟨congrArg (fun l=>some (ba.row _ .u8 l)) (au0 (xs++ys)).symm,trivial⟩
  intro i aG;refine⟨fun h=>?_,fun h=>?_⟩
  .have dJ:i < w:=by
    have h:(i:Int) < (w:Int):=gd h;omega
   have af:(8*((w:Int) - 1 - (i:Int))).toNat=8*(w - 1 - i):=aw8
   have m1: -9223372036854775808<=(w:Int) - 1/\(w:Int) - 1<=9223372036854775807:=aw8
   have m2: -9223372036854775808<=(w:Int) - 1 - (i:Int)/\(w:Int) - 1 - (i:Int)<=9223372036854775807:=aw8
   have m3: -9223372036854775808<=8*((w:Int) - 1 - (i:Int))/\8*((w:Int) - 1 - (i:Int))<=9223372036854775807:=aw8
   have jt:0<=(n:Int)/\0<=8*((w:Int) - 1 - (i:Int))/\8*((w:Int) - 1 - (i:Int))<=64:=aw8
   refine⟨m1,m2,m3,jt,⟨Int.emod_nonneg _ aw1,Int.emod_lt_of_pos _ aw1⟩,?_,rfl,?_⟩
   .show((xs++ys)++(eq n w).take i).length+1<=4294967296;rw[aq5,aq5,ar3];omega
   refine⟨aw0,i+1,dJ,aw0,ab.trans (ab.sub (K':=HW l w 49 k n (i+1)) (B':=qc 49 ((xs++ys)++(eq n w).take (i+1))) az ⟨congrArg (fun l=>some (ba.row _ .u8 l)) ?_,trivial⟩) (ab.aV 49 2001 rfl)⟩;rw[<-Vz (xs++ys) [] n i w dJ,<-Vu,<-af];rfl
  .have dJ:i=w:=by
    have h: ¬(i:Int) < (w:Int):=mu h;omega
   subst dJ;refine⟨aw0,k+1,b',aw0,ab.sub az ⟨?_,trivial⟩⟩;rw[ax,List.take_of_length_le (by rw[qW];omega),au2];rfl
 have b':k=l.length:=by
     have: ¬k < l.length:=aw9
     omega
 subst b';rw[as2];exact⟨_,_,_,ab.aV 2001 1002 rfl,rfl,az,az,rfl⟩
theorem HY (w:Nat) (l:aA1) (hw:W w) (hf: ∀n,n∈l->n < 256 ^w) (ap:l.length<=1000):
  Fn Tryz.prog 48 [kS .dH,ac (w:Nat),bv oE (vv l)] [] [1002] (.cb [.one (.own 1002),.one (.d (.bool true))]) (qc 1002 (eP w l)):=by
 have nx:w<=4:=by unfold W at hw;omega
 have wS:List.length (vv l)=l.length:=show(s9 l).length=_ by unfold s9;exact ar7 _
 obtain⟨xs,sD⟩: ∃xs:aA0,xs=[]:=⟨_,rfl⟩;have hx:xs.length<=1000000000:=by rw[sD];decide
 rw[show eP w l=xs++eP w l by rw[sD];rfl];refine aT [] Tryz.func48 ?_;refine ak (Ny w hw) <| cX <| dG [] (X:=Nat) (Vx l w 2001) (fun _=>qc 2001 xs) (fun k=>k<=l.length) (fun k=>l.length - k) 0 (aq9 _) ?_ ?_
 .exact ab.trans (ab.nil 0 2001 5 .u8 rfl rfl) (ab.sub ⟨rfl,rfl,rfl,rfl,congrArg Int.ofNat wS,rfl,trivial⟩ ⟨congrArg (fun l=>some (ba.row _ .u8 l)) sD.symm,trivial⟩)
 intro k Z;refine⟨fun h=>?_,fun h=>?_⟩
 .have b':k < l.length:=aw9
  exact⟨aw0,((l[k]:Nat):Int),HX b',ak (Vv l[k] w hw (hf _ (as3 b'))) <| cX ⟨aw0,k+1,b',aw0,ab.sub az az⟩⟩
 clear h Z;refine dG [] (X:=Nat) (Vy l w 2001) (fun k=>qc 2001 (xs++eP w (l.take k))) (fun k=>k<=l.length) (fun k=>l.length - k) 0 (aq9 _) ?_ ?_
 .exact ab.sub ⟨rfl,rfl,rfl,congrArg Int.ofNat wS,rfl,trivial⟩ ⟨congrArg (fun l=>some (ba.row _ .u8 l)) (au0 xs).symm,trivial⟩
 intro k Z;refine⟨fun h=>?_,fun h=>?_⟩
 .have b':k < l.length:=aw9
  have ax:=Vw w b';have hn:=hf _ (as3 b');have bZ:=nK w (l.take k);have PV:(l.take k).length*w<=1000*4:=Nat.mul_le_mul ax7 nx;refine⟨aw0,((l[k]:Nat):Int),HX b',?_⟩;generalize l[k]=n at*;generalize eP w (l.take k)=ys at*;have alc:n < 4294967296:=Nat.lt_of_lt_of_le hn (by rcases hw with rfl |rfl |rfl <;>decide);refine dG [] (X:=Nat) (HW l w 2001 k n) (fun i=>qc 2001 ((xs++ys)++(eq n w).take i)) (fun i=>i<=w) (fun i=>w - i) 0 (aq9 _) ?_ ?_
  .exact ab.sub az ⟨congrArg (fun l=>some (ba.row _ .u8 l)) (au0 (xs++ys)).symm,trivial⟩
  intro i aG;refine⟨fun h=>?_,fun h=>?_⟩
  .have dJ:i < w:=by
    have h:(i:Int) < (w:Int):=gd h;omega
   have af:(8*((w:Int) - 1 - (i:Int))).toNat=8*(w - 1 - i):=aw8
   have m1: -9223372036854775808<=(w:Int) - 1/\(w:Int) - 1<=9223372036854775807:=aw8
   have m2: -9223372036854775808<=(w:Int) - 1 - (i:Int)/\(w:Int) - 1 - (i:Int)<=9223372036854775807:=aw8
   have m3: -9223372036854775808<=8*((w:Int) - 1 - (i:Int))/\8*((w:Int) - 1 - (i:Int))<=9223372036854775807:=aw8
   have jt:0<=(n:Int)/\0<=8*((w:Int) - 1 - (i:Int))/\8*((w:Int) - 1 - (i:Int))<=64:=aw8
   refine⟨m1,m2,m3,jt,⟨Int.emod_nonneg _ aw1,Int.emod_lt_of_pos _ aw1⟩,?_,rfl,?_⟩
   .show((xs++ys)++(eq n w).take i).length+1<=4294967296;rw[aq5,aq5,ar3];omega
   refine⟨aw0,i+1,dJ,aw0,ab.trans (ab.sub (K':=HW l w 49 k n (i+1)) (B':=qc 49 ((xs++ys)++(eq n w).take (i+1))) az ⟨congrArg (fun l=>some (ba.row _ .u8 l)) ?_,trivial⟩) (ab.aV 49 2001 rfl)⟩;rw[<-Vz (xs++ys) [] n i w dJ,<-Vu,<-af];rfl
  .have dJ:i=w:=by
    have h: ¬(i:Int) < (w:Int):=mu h;omega
   subst dJ;refine⟨aw0,k+1,b',aw0,ab.sub az ⟨?_,trivial⟩⟩;rw[ax,List.take_of_length_le (by rw[qW];omega),au2];rfl
 have b':k=l.length:=by
     have: ¬k < l.length:=aw9
     omega
 subst b';rw[as2];exact⟨_,_,_,ab.aV 2001 1002 rfl,rfl,az,az,rfl⟩
end
section
def gO (s:aA0) (w:Nat):aA0:=eq s.length w++s
theorem yM (s:aA0) (w:Nat):(gO s w).length=w+s.length:=by unfold gO;rw[aq5,qW]
theorem DW (xs s:aA0) (w:Nat) (hw:W w) (ax:s.length < 256 ^w) (ap:s.length<=1000000000) (hx:xs.length<=1000000000):
  Fn Tryz.prog 49 [eX 1001,bQ s,ac (w:Nat)] (qc 1001 xs) [1002] (.cb [.one (.own 1002),.one (.d (.bool true))]) (qc 1002 (xs++gO s w)):=by
 have nx:w<=4:=by unfold W at hw;omega
 have pr:=nK w [s.length];refine aT [] Tryz.func49 ?_;refine ak (Fn.aV [(1002,2002)] (yL xs w [s.length] hw (fun n hn=>by simp only[ar5] at hn;subst hn;exact ax) aw2 hx)) <| cX ⟨?_,rfl,?_⟩
 .show(xs++eP w [s.length]).length+s.length<=4294967296;rw[aq5,pr,List.length_singleton];omega
 refine⟨_,_,_,ab.aV 24 1002 rfl,rfl,az,⟨congrArg (fun l=>some (ba.row _ .u8 l)) ?_,trivial⟩,rfl⟩;show(xs++eP w [s.length])++s=xs++gO s w;unfold eP gO;simp
end
section
def kK (p:je):aA0:=eq (fD p).toNat 2++gO (jS p) 2
def kk (b:bR):aA0:=gO (d4 b) 1++gO (di b) 1++eq (c4 b).toNat 1++eq (eI b).toNat 2++eq (cD b).length 2++(cD b).flatMap kK
def iu (L:List bR):aA0:=eq L.length 1++L.flatMap kk
structure vw (b:bR):Prop where
 nm:(d4 b).length<=255
 pa:(di b).length<=255
 bits:0<=c4 b/\c4 b<=255
 aS:0<=eI b/\eI b<=65535
 VA:(cD b).length<=256
 VB: ∀p,p∈cD b->0<=fD p/\fD p<=65535/\(jS p).length<=128
theorem VC {b:bR} (h:vw b) {p:je} (ae:p∈cD b):(kK p).length<=132:=by
 have:=h.VB p ae;unfold kK;rw[aq5,qW,yM];omega
theorem yN {α:Type} (f:α->aA0) (n:Nat): ∀(l:List α),(∀x,x∈l->(f x).length<=n)->(l.flatMap f).length<=l.length*n
 | [],_=>by simp
 |x::l,h=>by
  have E:=h x ar4;have G:=yN f n l fun y aD=>h y (aq6 _ aD)
  simp only[av1,aq5,au1,Nat.succ_mul];omega
theorem VD {b:bR} (h:vw b):(kk b).length<=35000:=by
 have E:=yN kK 132 (cD b) fun p ae=>VC h ae
 have G:(cD b).length*132<=256*132:=Nat.mul_le_mul_right _ h.VA;have:=h.nm;have:=h.pa;unfold kk;simp only[aq5,qW,yM];omega
theorem Nz {α:Type} (f:α->aA0) {l:List α} {k:Nat} (h:k < l.length):(l.take (k+1)).flatMap f=(l.take k).flatMap f++f l[k]:=by
 rw[<-vr h,List.flatMap_append];simp
theorem DX {x:Int} (h:0<=x):([x]:List Int)=s9 [x.toNat]:=by
 show[x]=[((x.toNat:Nat):Int)];rw[show((x.toNat:Nat):Int)=x by omega]
abbrev VE (L:List bR) (r k:Nat):aX:=[(3,eX r),(22,eX 1002),(23,ac (L.length:Nat)),(24,ac (k:Nat))]
abbrev DY (L:List bR) (r:Nat) (l:aA0):ay:=(r,.row 5 .u8 l)::kJ L
abbrev NA (L:List bR) (b:bR) (r k j:Nat):aX:=[(3,eX r),(22,eX 1002),(23,ac (L.length:Nat)),(24,ac (k:Nat)),(62,bv oB (cD b)),(63,ac ((cD b).length:Nat)),(64,ac (j:Nat))]
theorem VF (L:List bR) (cH:L.length<=255) (hw: ∀b,b∈L->vw b):Fn Tryz.prog 21 [ah 1001] (kJ L) [] (bv .u8 (iu L)) (kJ L):=by
 refine aT [] Tryz.func21 ?_;refine ak (Fn.aV [(1002,2002)] (HY 1 [L.length] (.inl rfl) (fun n hn=>by simp only[ar5] at hn;omega) aw2)) <| dG [] (X:=Nat) (VE L 2001) (fun k=>DY L 2001 (eq L.length 1++(L.take k).flatMap kk)) (fun k=>k<=L.length) (fun k=>L.length - k) 0 (aq9 _) ?_ ?_
 .exact ab.trans (cw (VE L 2002 0) (DY L 2002 (eq L.length 1++(L.take 0).flatMap kk))) (ab.aV 2002 2001 rfl)
 intro k Z
 have LR:((L.take k).flatMap kk).length<=255*35000:=by
  refine au4 (yN kk 35000 _ fun b O=>VD (hw b (List.mem_of_mem_take O))) (Nat.mul_le_mul_right _ ?_);rw[ar3];omega
 refine⟨fun h=>?_,fun h=>?_⟩
 .have b':k < L.length:=aw9
  have ax:=Nz kk b';have O:=hw _ (as3 b');refine⟨⟨aw0,aw0⟩,L[k],qa rfl b',rfl,?_⟩;generalize L[k]=b at*;have E:=O.nm;have G:=O.pa;have al:=O.bits;have aW:=O.aS;have bG:=O.VA;have ald:=qW L.length 1;generalize d5:eq L.length 1++(L.take k).flatMap kk=A at*;have aqL:A.length<=9000000:=by rw[<-d5,aq5,ald];omega
  refine ak (Fn.aV [(1001,2001),(1002,2002)] (DW A (d4 b) 1 (.inl rfl) aw0 aw0 aw0)) ?_;have i4:=yM (d4 b) 1;refine ak (Fn.aV [(1001,2002),(1002,2003)] (DW (A++gO (d4 b) 1) (di b) 1 (.inl rfl) aw0 aw0 (by rw[aq5,i4];omega))) ?_;have gT:=yM (di b) 1;refine ak (Fn.arg (Fn.aV [(1001,2003),(1002,2004)] (yL (A++gO (d4 b) 1++gO (di b) 1) 1 [(c4 b).toNat] (.inl rfl) (fun n hn=>by simp only[ar5] at hn;omega) aw2 (by rw[aq5,aq5,i4,gT];omega))) ⟨rfl,rfl,DX al.1,trivial⟩) ?_;have pS:=nK 1 [(c4 b).toNat]
  have ao:([eI b,((cD b).length:Int)]:List Int)=s9 [(eI b).toNat,(cD b).length]:=by
   show _=[(((eI b).toNat:Nat):Int),(((cD b).length:Nat):Int)];rw[show(((eI b).toNat:Nat):Int)=eI b by omega]
  refine⟨_,_,_,_,Fn.arg (Fn.aV [(1001,2004),(1002,2005)] (yL (A++gO (d4 b) 1++gO (di b) 1++eP 1 [(c4 b).toNat]) 2 [(eI b).toNat,(cD b).length] (.inr (.inl rfl)) (fun n hn=>by
   simp only[aq7,List.not_mem_nil,or_false] at hn;rcases hn with rfl |rfl <;>omega) aw2 (by rw[aq5,aq5,aq5,i4,gT,pS];simp;omega))) ⟨rfl,rfl,ao,trivial⟩,az,rfl,?_⟩
  have uS:=nK 2 [(eI b).toNat,(cD b).length]
  have aZ:A++gO (d4 b) 1++gO (di b) 1++eP 1 [(c4 b).toNat]++eP 2 [(eI b).toNat,(cD b).length]++(cD b).flatMap kK=A++kk b:=by
   unfold kk eP;simp[au2]
  have aqM:(A++gO (d4 b) 1++gO (di b) 1++eP 1 [(c4 b).toNat]++eP 2 [(eI b).toNat,(cD b).length]).length<=9100000:=by
   rw[aq5,aq5,aq5,aq5,i4,gT,pS,uS];simp;omega
  generalize A++gO (d4 b) 1++gO (di b) 1++eP 1 [(c4 b).toNat]++eP 2 [(eI b).toNat,(cD b).length]=Be at*;refine dG [] (X:=Nat) (NA L b 2001 k) (fun j=>DY L 2001 (Be++((cD b).take j).flatMap kK)) (fun j=>j<=(cD b).length) (fun j=>(cD b).length - j) 0 (aq9 _) ?_ ?_
  .exact ab.trans (ab.sub (K':=NA L b 2005 k 0) (B':=DY L 2005 (Be++((cD b).take 0).flatMap kK)) az ⟨congrArg (fun l=>some (ba.row _ .u8 l)) (au0 Be).symm,rfl,rfl,trivial⟩) (ab.aV 2005 2001 rfl)
  intro j V;refine⟨fun h=>?_,fun h=>?_⟩
  .have eS:j < (cD b).length:=aw9
   have fR:=Nz kK eS;obtain⟨d6,cV,dN⟩:=O.VB _ (as3 eS)
   have hm:(((cD b).take j).flatMap kK).length<=256*132:=by
    refine au4 (yN kK 132 _ fun p ae=>VC O (List.mem_of_mem_take ae)) (Nat.mul_le_mul_right _ ?_);rw[ar3];omega
   refine⟨aw0,(cD b)[j],qa rfl eS,rfl,?_⟩;generalize(cD b)[j]=p at*;generalize((cD b).take j).flatMap kK=VG at*;refine ak (Fn.arg (Fn.aV [(1001,2001),(1002,2002)] (yL (Be++VG) 2 [(fD p).toNat] (.inr (.inl rfl)) (fun n hn=>by simp only[ar5] at hn;omega) aw2 (by rw[aq5];omega))) ⟨rfl,rfl,DX d6,trivial⟩) ?_;have ale:=nK 2 [(fD p).toNat];refine ak (Fn.aV [(1001,2002),(1002,2003)] (DW (Be++VG++eP 2 [(fD p).toNat]) (jS p) 2 (.inr (.inl rfl)) aw0 aw0 (by rw[aq5,aq5,ale];simp;omega))) ⟨aw0,j+1,eS,aw0,ab.trans (ab.sub (K':=NA L b 2003 k (j+1)) (B':=DY L 2003 (Be++((cD b).take (j+1)).flatMap kK)) az ⟨?_,rfl,rfl,trivial⟩) (ab.aV 2003 2001 rfl)⟩;rw[fR];refine congrArg (fun l=>some (ba.row _ .u8 l)) ?_;unfold kK eP;simp[au2];rfl
  .have eS:j=(cD b).length:=by
      have: ¬j < (cD b).length:=aw9
      omega
   subst eS;rw[as2];refine⟨aw0,k+1,b',aw0,ab.sub az ⟨?_,rfl,rfl,trivial⟩⟩;rw[ax,<-au2,d5,aZ];rfl
 .have b':k=L.length:=by
     have: ¬k < L.length:=aw9
     omega
  subst b';exact⟨_,_,_,ab.d3 2001 rfl,rfl,(show eq L.length 1++(L.take L.length).flatMap kk=iu L by rw[as2];rfl),az,rfl⟩
end
section
end
section
abbrev fS:Type:=aA0×Int
def mD (n:Nat) (st:fS):aA0:=if st.2≠0\/st.1.length < n then[] else st.1.take n
def nL (n:Nat) (st:fS):fS:=if st.2≠0 then st else if st.1.length < n then(st.1,10) else(st.1.drop n,0)
def oF (l:aA0):Nat:=l.foldl (fun a c=>a*256+c.toNat) 0
theorem NB (l:aA0) (c:UInt8):oF (l++[c])=oF l*256+c.toNat:=by simp[oF,av3]
theorem NC (l:aA0):oF l < 256 ^l.length:=by
 have: ∀(l:aA0),oF l.reverse < 256 ^l.length:=fun l=>by
  induction l with
  |nil=>simp[oF]
  |cons c l bu=>
   rw[List.reverse_cons,NB,au1,Nat.pow_succ];have:=c.toNat_lt;omega
 have h:=this l.reverse;simpa using h
theorem VH (n:Nat) (st:fS):(mD n st).length<=n:=by
 unfold mD
 split
 .simp
 .rw[ar3];omega
def fK (w:Nat) (st:fS):fS×Nat:=(nL w st,oF (mD w st))
def qX (w:Nat) (st:fS):fS×aA0:=(nL (fK w st).2 (fK w st).1,mD (fK w st).2 (fK w st).1)
abbrev k6 (st:fS):ay:=[(1001,.cells [.d (.cf .u8 st.1),.d (.int .i64 st.2)])]
theorem HZ (b:aA0) (O:b.length<=4294967296):Fn Tryz.prog 130 [bv .u8 b] [] [1001] (ah 1001) (k6 (b,0)):=by
 refine aT [] Tryz.func130 ?_;refine⟨rfl,?_,rfl,?_⟩
 .show 0+b.length<=4294967296;omega
 exact⟨rfl,_,_,_,ab.trans (ab.d3 5 rfl) (ab.aV 7 1001 rfl),rfl,rfl,az,rfl⟩
theorem alf (s:aA0) (e k:Int):Fn Tryz.prog 214 [ac k,ah 1002] [(1001,.cells [.d (.cf .u8 s),.d (.int .i64 e)]),(1002,.cells [.ptr 1001 0])] [] (bv .u8 []) [(1001,.cells [.d (.cf .u8 s),.d (.int .i64 (if e=0 then k else e))]),(1002,.cells [.ptr 1001 0])]:=by
 refine aT [] Tryz.func214 ?_;refine⟨fun h=>?_,fun h=>?_⟩
 .rw[if_pos (show e=0 from gd h)];exact bc
 .rw[if_neg (show¬e=0 from mu h)];exact bc
theorem VI (st:fS) (n:Nat):Fn Tryz.prog 180 [ah 1001,ac (n:Nat),fk false] (k6 st) [] (bv .u8 (mD n st)) (k6 (nL n st)):=by
 obtain⟨s,e⟩:=st;refine aT [] Tryz.func180 ?_;refine⟨rfl,fun h=>?_,fun E=>?_⟩
 .have h:(!decide (e=0))=true:=h;have U: ¬e=0:=aw9
  have hx:mD n (s,e)=[]:=by unfold mD;rw[if_pos (.inl U)]
  have ax:nL n (s,e)=(s,e):=by unfold nL;rw[if_pos U]
  rw[hx,ax];exact bc
 have E:(!decide (e=0))=false:=E;have U:e=0:=ay8
 subst U;refine cX ⟨fun h=>?_,fun h=>?_⟩
 .have h:(s.length:Int) < (n:Int):=gd h;have hx:mD n (s,0)=[]:=by unfold mD;rw[if_pos (.inr (by show s.length < n;omega))]
  have ax:nL n (s,0)=(s,10):=by unfold nL;rw[if_neg aw2,if_pos (by show s.length < n;omega)]
  rw[hx,ax];exact ak (Fn.aV [(1002,3)] (alf s 0 10)) bc
 .have h: ¬(s.length:Int) < (n:Int):=mu h
  have hx:mD n (s,0)=s.take n:=by
   unfold mD;rw[if_neg ax4]
  have ax:nL n (s,0)=(s.drop n,0):=by unfold nL;rw[if_neg aw2,if_neg (by show¬s.length < n;omega)]
  rw[hx,ax];have m1:0<=(n:Int)/\(n:Int)<=(s.length:Int):=aw8
  refine⟨m1,m1,rfl,_,_,_,bq,rfl,rfl,⟨congrArg (fun l:aA0=>some (ba.cells [bC.d (D.cf bA.u8 l),bC.d (D.int IntKind.i64 0)])) ?_,trivial⟩,rfl⟩;show(List.take s.length s).drop ((n:Int)).toNat=s.drop n;rw[as2];rfl
theorem alg (a:Nat) (c:UInt8):(a*256) ||| c.toNat=a*256+c.toNat:=by
 have h:c.toNat < 2 ^8:=c.toNat_lt;have:=Nat.shiftLeft_add_eq_or_of_lt h a;rw[Nat.shiftLeft_eq] at this;exact this.symm
theorem ps (st:fS) (w:Nat) (hw:W w):Fn Tryz.prog 131 [ah 1001,ac (w:Nat)] (k6 st) [] (ac ((fK w st).2:Nat)) (k6 (fK w st).1):=by
 have nx:w<=4:=by unfold W at hw;omega
 have ap:=VH w st;have cn:=VI st w;show Fn _ _ _ _ _ (ac ((oF (mD w st):Nat):Int)) (k6 (nL w st));generalize mD w st=x at*;generalize nL w st=alh at*;have aqN:oF x < 4294967296:=Nat.lt_of_lt_of_le (NC x) (au4 (Nat.pow_le_pow_right aw1 (show x.length<=4 by omega)) aw1);refine aT [] Tryz.func131 ?_;refine ak (Ny w hw) <| ak cn ⟨fun h=>absurd (show(x.length:Int)=8 from gd h) aw0,fun _=>dG [] (X:=Nat) (fun i=>[(5,ac ((oF (x.take i):Nat):Int)),(27,bv .u8 x),(28,ac (x.length:Nat)),(29,ac (i:Nat))]) (fun _=>k6 alh) (fun i=>i<=x.length) (fun i=>x.length - i) 0 (aq9 _) ?_ ?_⟩
 .exact ab.sub az az
 intro i aG;refine⟨fun h=>?_,fun h=>?_⟩
 .have dJ:i < x.length:=by
   have h:(i:Int) < (x.length:Int):=gd h;omega
  have ax:oF (x.take (i+1))=oF (x.take i)*256+(x[i]).toNat:=by rw[<-vr dJ,NB]
  have gU:=NC (x.take i);have yv:256 ^(x.take i).length<=256 ^3:=Nat.pow_le_pow_right aw1 ax7;have J:=(x[i]).toNat_lt;refine⟨aw0,x[i],qa rfl dJ,?_⟩;generalize x[i]=c at*;generalize oF (x.take i)=a at*;have ali:=alg a c
  have af:((a:Int)*((2 ^(8:Int).toNat:Nat):Int)).toNat=a*256:=by
   show((a:Int)*256).toNat=_;omega
  have m1:0<=(a:Int)/\(0:Int)<=8/\(8:Int)<=64:=aw8
  have m2: -9223372036854775808<=(a:Int)*((2 ^(8:Int).toNat:Nat):Int)/\(a:Int)*((2 ^(8:Int).toNat:Nat):Int)<=9223372036854775807:=by
   show -9223372036854775808<=(a:Int)*256/\(a:Int)*256<=9223372036854775807;omega
  have m3: -9223372036854775808<=(c.toNat:Int)/\(c.toNat:Int)<=9223372036854775807:=aw8
  have jt:0<=(a:Int)*((2 ^(8:Int).toNat:Nat):Int)/\(a:Int)*((2 ^(8:Int).toNat:Nat):Int)<=9223372036854775807/\0<=(c.toNat:Int)/\(c.toNat:Int)<=9223372036854775807:=by
   show 0<=(a:Int)*256/\(a:Int)*256<=9223372036854775807/\_;omega
  refine⟨m1,m2,m3,jt,aw0,i+1,dJ,aw0,ab.sub ⟨?_,rfl,rfl,rfl,trivial⟩ az⟩;show(((((a:Int)*((2 ^(8:Int).toNat:Nat):Int)).toNat ||| ((c.toNat:Int)).toNat:Nat)):Int)=((oF (x.take (i+1)):Nat):Int);rw[ax,af,Int.toNat_natCast,ali]
 .have dJ:i=x.length:=by
   have h: ¬(i:Int) < (x.length:Int):=mu h;omega
  subst dJ;exact ej bq rfl (show((oF (x.take x.length):Nat):Int)=_ by rw[as2])
theorem DZ (st:fS) (w:Nat) (hw:W w):Fn Tryz.prog 132 [ah 1001,ac (w:Nat)] (k6 st) [] (bQ (qX w st).2) (k6 (qX w st).1):=by
 have E:=ps st w hw;have G:=VI (fK w st).1 (fK w st).2;show Fn _ _ _ _ _ (bQ (mD (fK w st).2 (fK w st).1)) (k6 (nL (fK w st).2 (fK w st).1));generalize(fK w st).2=n at*;generalize(fK w st).1=VJ at*;generalize mD n VJ=x at*;generalize nL n VJ=aqO at*;refine aT [] Tryz.func132 ?_;exact ak E <| ak (Fn.arg G az) bc
theorem VK (st:fS):Fn Tryz.prog 138 [ah 1001] (k6 st) [] (ac st.2) (k6 st):=by
 refine aT [] Tryz.func138 ?_;exact bc
def qY (st:fS):Int:=if st.2=0/\0 < st.1.length then 11 else st.2
theorem ND (st:fS):Fn Tryz.prog 134 [ah 1001] (k6 st) [] (ac (qY st)) (k6 st):=by
 obtain⟨s,e⟩:=st;refine aT [] Tryz.func134 ?_;refine⟨fun h=>?_,fun h=>?_⟩
 .have U:e=0:=gd h;refine⟨fun h=>?_,fun h=>?_⟩
  .have h:(0:Int) < (s.length:Int):=gd h;have:qY (s,e)=11:=by unfold qY;rw[if_pos ⟨U,by show 0 < s.length;omega⟩]
   rw[this];exact bc
  .have h: ¬(0:Int) < (s.length:Int):=mu h;have:qY (s,e)=e:=by unfold qY;rw[if_neg (fun bj=>by have G:0 < s.length:=bj.2;omega)]
   rw[this];exact bc
 .have U: ¬e=0:=mu h;have:qY (s,e)=e:=by unfold qY;rw[if_neg (fun bj=>U bj.1)]
  rw[this];exact bc
end
section
end
section
theorem VL (n:Nat): ∀k,eq n (k+1)=eq (n/256) k++[s8 n 0]
 |0=>rfl
 |k+1=>by
  show s8 n (k+1)::eq n (k+1)=s8 (n/256) k::eq (n/256) k++[s8 n 0];rw[VL n k,List.cons_append]
  congr 1
  unfold s8;rw[Nat.div_div_eq_div_mul,Nat.pow_succ,Nat.mul_comm 256]
theorem alj (n:Nat): ∀k,n < 256 ^k->oF (eq n k)=n:=by
 intro k
 induction k generalizing n with
 |zero=>intro h;simp at h;subst h;rfl
 |succ k bu=>
  intro h;rw[VL,NB,bu (n/256) (by rw[Nat.pow_succ] at h;omega)];unfold s8;rw[Nat.pow_zero,Nat.div_one,UInt8.toNat_ofNat'];omega
theorem VM (x t:aA0):nL x.length (x++t,0)=(t,0)/\mD x.length (x++t,0)=x:=by
 unfold nL mD;rw[if_neg aw2,if_neg aw2,if_neg aw2];exact⟨aw2,aw2⟩
theorem pt {n w:Nat} (h:n < 256 ^w) (t:aA0):fK w (eq n w++t,0)=((t,0),n):=by
 have:=VM (eq n w) t;rw[qW] at this;unfold fK;rw[this.1,this.2,alj n w h]
theorem D0 {w:Nat} {x:aA0} (h:x.length < 256 ^w) (t:aA0):qX w (gO x w++t,0)=((t,0),x):=by
 have E:fK w (gO x w++t,0)=((x++t,0),x.length):=by
  unfold gO;rw[au2];exact pt h _
 have:=VM x t;unfold qX;rw[E];simp only;rw[this.1,this.2]
def vx (st:fS):fS×w3:=((qX 2 (fK 2 st).1).1,(((fK 2 st).2:Int),(qX 2 (fK 2 st).1).2))
def hg (st:fS):Nat->fS×List w3
 |0=>(st,[])
 |k+1=>((vx (hg st k).1).1,(hg st k).2++[(vx (hg st k).1).2])
def E (st:fS):=qX 1 st
def G (st:fS):=qX 1 (E st).1
def al (st:fS):=fK 1 (G st).1
def aW (st:fS):=fK 2 (al st).1
def bG (st:fS):=fK 2 (aW st).1
def VN (st:fS) (l:List w3):nc:=((E st).2,(G st).2,((al st).2:Int),((aW st).2:Int),l)
def j9 (st:fS):fS×nc:=((hg (bG st).1 (bG st).2).1,VN st (hg (bG st).1 (bG st).2).2)
def oG (l7:fS):Nat->Option (List nc×fS)
 |0=>some ([],l7)
 |k+1=>match oG l7 k with
  |none=>none
  |some (l,st)=>if(j9 st).1.2=0/\gn (l.map jf) (jf (j9 st).2)=0 then some (l++[(j9 st).2],(j9 st).1) else none
def yO (s:aA0):Option (List nc):=match oG (fK 1 (s,0)).1 (fK 1 (s,0)).2 with
 |none=>none
 |some (l,st)=>if qY st=0 then some l else none
theorem D1 {L:List bR} (a2:lE L) {b:bR} (O:b∈L):vw b:=by
 have nm: ∀x,x∈L->(d4 x).length<=15:=fun x hx=>by
  have:=a2.right x hx;simp only[ht,g4,vj,as1] at this;omega
 have aC:=a2.right b O;obtain⟨b0,ca,a3,a4⟩:=DQ aC;have a5:=ak8 aC;have gD:=U5 aC;refine⟨by have:=nm b O;omega,?_,aw0,aw0,gD,fun p ae=>?_⟩
 .by_cases ae:di b=[]
  .rw[ae];decide
  .obtain⟨x,hx⟩:=HV (ak7 a2 O ae);have E:=List.find?_some hx;simp only[as1] at E;have:=nm x (av2 hx);rw[E] at this;omega
 .have:=ak9 aC p ae;omega
end
section
theorem H0 (n:Nat) (st:fS):(nL n st).1.length<=st.1.length:=by
 unfold nL
 split
 .exact aq4 _
 .split
  .exact aq4 _
  .rw[au3];omega
theorem alk (n:Nat) (st:fS):(mD n st).length<=st.1.length:=by
 unfold mD
 split
 .simp
 .rw[ar3];omega
theorem D2 (w:Nat) (st:fS):(fK w st).1.1.length<=st.1.length:=H0 w st
theorem NE (w:Nat) (st:fS):(qX w st).1.1.length<=st.1.length/\(qX w st).2.length<=st.1.length:=
 ⟨au4 (H0 _ _) (H0 w st),au4 (alk _ _) (H0 w st)⟩
theorem H1 (w:Nat) (hw:w<=4) (st:fS):(fK w st).2 < 256 ^w:=
 Nat.lt_of_lt_of_le (NC _) (Nat.pow_le_pow_right aw1 (VH w st))
theorem VO (st:fS):(vx st).1.1.length<=st.1.length/\(DS (vx st).2).length<=st.1.length:=by
 have a:=D2 2 st;have b:=NE 2 (fK 2 st).1;exact⟨au4 b.1 a,au4 b.2 a⟩
theorem VP (st:fS): ∀k,(hg st k).1.1.length<=st.1.length/\(hg st k).2.length=k/\ ∀p,p∈(hg st k).2->(DS p).length<=st.1.length
 |0=>⟨aq4 _,rfl,fun p ae=>by cases ae⟩
 |k+1=>by
  obtain⟨b0,ca,a3⟩:=VP st k;obtain⟨b1,b2⟩:=VO (hg st k).1;refine⟨au4 b1 b0,by show((hg st k).2++[_]).length=_;rw[aq5,ca];rfl,fun p ae=>?_⟩;rcases as4.1 ae with ae |ae
  .exact a3 p ae
  .simp only[ar5] at ae;subst ae;exact au4 b2 b0
theorem alm (st:fS):(E st).1.1.length<=st.1.length/\(G st).1.1.length<=st.1.length/\(al st).1.1.length<=st.1.length/\(aW st).1.1.length<=st.1.length/\(bG st).1.1.length<=st.1.length/\(E st).2.length<=st.1.length/\(G st).2.length<=st.1.length:=by
 have a:=NE 1 st;have b:=NE 1 (E st).1;have c:=D2 1 (G st).1;have d:=D2 2 (al st).1;have e:=D2 2 (aW st).1;have b0:(E st).1.1.length<=st.1.length:=a.1;have b1:(G st).1.1.length<=(E st).1.1.length:=b.1;have cJ:(al st).1.1.length<=(G st).1.1.length:=c;have hM:(aW st).1.1.length<=(al st).1.1.length:=d;have af:(bG st).1.1.length<=(aW st).1.1.length:=e;refine⟨b0,aw0,aw0,aw0,aw0,a.2,?_⟩;have:(G st).2.length<=(E st).1.1.length:=b.2;omega
theorem aln {l7:fS} {k:Nat} (h:oG l7 k=none): ∀{m:Nat},k<=m->oG l7 m=none:=by
 intro m aw
 induction m with
 |zero=>
    obtain rfl:k=0:=aw8
    exact h
 |succ m bu=>
  rcases Nat.lt_or_ge k (m+1) with E |E
  .unfold oG;rw[bu aw0]
  .obtain rfl:k=m+1:=aw8
   exact h
theorem alo {s:aA0} {k:Nat} (Z:k<=(fK 1 (s,0)).2) (h:oG (fK 1 (s,0)).1 k=none):yO s=none:=by
 unfold yO;rw[aln h Z]
theorem VQ {l7:fS} {k:Nat} {l:List nc} {st:fS} (h:oG l7 k=some (l,st)) (bj: ¬((j9 st).1.2=0/\gn (l.map jf) (jf (j9 st).2)=0)):oG l7 (k+1)=none:=by
 unfold oG;rw[h];exact if_neg bj
theorem VR {l7:fS} {k:Nat} {l:List nc} {st:fS} (h:oG l7 k=some (l,st)) (E:(j9 st).1.2=0) (G:gn (l.map jf) (jf (j9 st).2)=0):oG l7 (k+1)=some (l++[(j9 st).2],(j9 st).1):=by
 conv=>lhs;unfold oG
 rw[h];exact if_pos ⟨E,G⟩
abbrev NF (st:fS):Nat×ba:=(2001,.cells [.d (.cf .u8 st.1),.d (.int .i64 st.2)])
abbrev VS (n k:Nat):aX:=[(4,ah 1001),(5,ah 2001),(11,ac (n:Nat)),(12,ac (k:Nat))]
abbrev alp (l:List nc) (st:fS):ay:=NF st::Nn 1002 (l.map jf)
abbrev NG (n k m j:Nat):aX:=[(4,ah 1001),(5,ah 2001),(6,ah 6),(11,ac (n:Nat)),(12,ac (k:Nat)),(24,ac (m:Nat)),(25,ac (j:Nat))]
abbrev GR (st:fS):List bC:=[.d (.str (E st).2),.d (.str (G st).2),.d (.int .i64 ((al st).2:Nat)),.d (.int .i64 ((aW st).2:Nat))]
abbrev NH (l:List nc) (l7 st:fS) (r:Nat) (bE:List je):ay:=(r,.row 96 oB bE)::(6,.cells [.d (.str (E l7).2),.d (.str (G l7).2),.d (.int .i64 ((al l7).2:Nat)),.d (.int .i64 ((aW l7).2:Nat)),.own r])::NF st::Nn 1002 (l.map jf)
def alq:aO:=.cb [.one (.bM (.pointer none)),.one (.d (.int .i64 180))]
def alr:aO:=.cb [.one (.ptr 1001 0),.one (.d (.int .i64 0))]
set_option maxRecDepth 100000 in
theorem VT (s:aA0) (ax:s.length<=100000000) (d:Option (List nc)) (H:yO s=d):
  match d with
  |some l=>Fn Tryz.prog 84 [bv .u8 s] [] [1001,1002] alr (kJ (l.map jf))
  |none=>Fn Tryz.prog 84 [bv .u8 s] [] [] alq []:=by
 cases d
 all_goals
  simp only;refine aT [10] Tryz.func84 ?_;refine ak Nd <| ak (Fn.aV [(1001,2001)] (HZ s aw0)) <| ak (Fn.aV [(1001,2001)] (ps (s,0) 1 (.inl rfl))) ?_;have pe:=D2 1 (s,0);have ke:=H1 1 aw1 (s,0);have Aj:=fun k h=>alo (s:=s) (k:=k) h
  have als: ∀l st,oG (fK 1 (s,0)).1 (fK 1 (s,0)).2=some (l,st)->yO s=if qY st=0 then some l else none:=fun l st h=>by unfold yO;rw[h]
  generalize(fK 1 (s,0)).2=n at*;generalize(fK 1 (s,0)).1=l7 at*;have pe:l7.1.length<=100000000:=au4 pe ax;have ke:n < 256:=by simpa using ke
  refine dG [10] (X:=Nat×List nc×fS) (fun x=>VS n x.1) (fun x=>alp x.2.1 x.2.2) (fun x=>x.1<=n/\oG l7 x.1=some (x.2.1,x.2.2)/\x.2.2.1.length<=100000000/\(x.2.1.map jf).length<=64) (fun x=>n - x.1) (0,[],l7) ⟨aq9 _,rfl,pe,aw2⟩ ?_ ?_
  .exact ab.sub az az
  rintro⟨k,l,st⟩ ⟨Z,j2,hB,lq⟩;simp only at Z j2 hB lq;refine⟨fun h=>?_,fun h=>?_⟩
  .have b':k < n:=by
    have h:(k:Int) < (n:Int):=gd h;omega
   obtain⟨b0,ca,a3,a4,a5,gD,zw⟩:=alm st;have aw:=H1 2 aw1 (aW st).1;have aw:(bG st).2 < 65536:=aw;have hP:=H1 1 aw1 (G st).1;have t2:=H1 2 aw1 (al st).1;refine ak (Fn.aV [(1001,2001)] (DZ st 1 (.inl rfl))) <| ak (Fn.aV [(1001,2001)] (DZ (E st).1 1 (.inl rfl))) <| ak (Fn.aV [(1001,2001)] (ps (G st).1 1 (.inl rfl))) <| ak (Fn.aV [(1001,2001)] (ps (al st).1 2 (.inr (.inl rfl)))) ⟨rfl,ak (Fn.aV [(1001,2001)] (ps (aW st).1 2 (.inr (.inl rfl)))) <| dG [10] (X:=Nat) (fun j=>NG n k (bG st).2 j) (fun j=>NH l st (hg (bG st).1 j).1 2002 ((hg (bG st).1 j).2.map s7)) (fun j=>j<=(bG st).2) (fun j=>(bG st).2 - j) 0 (aq9 _) ?_ ?_⟩
   .exact ab.trans (ab.wc 6 4 2002 96 oB rfl rfl rfl) (ab.sub az az)
   intro j V;obtain⟨b1,b2,b3⟩:=VP (bG st).1 j;refine⟨fun h=>?_,fun h=>?_⟩
   .have eS:j < (bG st).2:=by
     have h:(j:Int) < ((bG st).2:Int):=gd h;omega
    have bl:=VO (hg (bG st).1 j).1;have vm:(hg (bG st).1 (j+1)).1=(vx (hg (bG st).1 j).1).1:=rfl
    have alt:(hg (bG st).1 (j+1)).2.map s7=(hg (bG st).1 j).2.map s7++[s7 (vx (hg (bG st).1 j).1).2]:=by
     show((hg (bG st).1 j).2++[_]).map s7=_;rw[at9];rfl
    have gE:(qX 2 (fK 2 (hg (bG st).1 j).1).1).2.length<=4294967296:=by
     have:(DS (vx (hg (bG st).1 j).1).2).length<=(hg (bG st).1 j).1.1.length:=bl.2;have this:(qX 2 (fK 2 (hg (bG st).1 j).1).1).2.length<=(hg (bG st).1 j).1.1.length:=this;omega
    refine ak (Fn.aV [(1001,2001)] (ps (hg (bG st).1 j).1 2 (.inr (.inl rfl)))) <| ak (Fn.aV [(1001,2001)] (DZ (fK 2 (hg (bG st).1 j).1).1 2 (.inr (.inl rfl)))) ⟨gE,?_,rfl,rfl,?_⟩
    .show((hg (bG st).1 j).2.map s7).length+1<=4294967296;rw[ar7,b2];omega
    refine⟨aw0,j+1,eS,aw0,ab.trans (ab.sub (K':=NG n k (bG st).2 (j+1)) (B':=NH l st (hg (bG st).1 (j+1)).1 36 ((hg (bG st).1 (j+1)).2.map s7)) az ⟨?_,rfl,rfl,rfl,rfl,trivial⟩) (ab.aV 36 2002 rfl)⟩;rw[alt];rfl
   .have eS:j=(bG st).2:=by
     have h: ¬(j:Int) < ((bG st).2:Int):=mu h;omega
    subst eS;refine br [] (ab.trans (cw (NG n k (bG st).2 (bG st).2) (NH l st (hg (bG st).1 (bG st).2).1 2002 ((hg (bG st).1 (bG st).2).2.map s7))) (ab.d3 2002 rfl)) <| ak (Fn.aV [(1001,2001)] (VK (hg (bG st).1 (bG st).2).1)) ⟨fun h=>?_,fun h=>?_⟩
    .have h:(!decide ((j9 st).1.2=0))=true:=h;have yP:=Aj (k+1) b' (VQ j2 (fun bj=>by rw[bj.1] at h;cases h))
     first
      |(have HT:=H.symm.trans yP;contradiction)
      |exact bc
    have h:(!decide ((j9 st).1.2=0))=false:=h;have U:(j9 st).1.2=0:=aw9
    have qU:=Nh (l.map jf) (jf (j9 st).2) aw0 (show(E st).2.length<=4294967296 by omega) (by
     show((hg (bG st).1 (bG st).2).2.map s7).length<=1000000
     rw[ar7,b2];omega) (fun p ae=>by
     obtain⟨q,aP,rfl⟩:=as5.1 ae;have:=b3 q aP;show(DS q).length<=4294967296;omega)
    refine ak qU ⟨fun h=>?_,fun h=>?_⟩
    .have h:(!decide (gn (l.map jf) (jf (j9 st).2)=0))=true:=h;have yP:=Aj (k+1) b' (VQ j2 (fun bj=>by rw[bj.2] at h;cases h))
     first
      |(have HT:=H.symm.trans yP;contradiction)
      |exact bc
    .have h:(!decide (gn (l.map jf) (jf (j9 st).2)=0))=false:=h;have d5:gn (l.map jf) (jf (j9 st).2)=0:=aw9
     have alu:(l++[(j9 st).2]).map jf=fX (l.map jf) (jf (j9 st).2):=by
      unfold fX;rw[if_pos d5,at9];rfl
     refine⟨aw0,(k+1,l++[(j9 st).2],(j9 st).1),⟨b',VR j2 U d5,?_,?_⟩,?_,?_⟩
     .show(hg (bG st).1 (bG st).2).1.1.length<=100000000;omega
     .have:=(HO d5).2.2.1;simp only[ar7,aq5,List.length_singleton] at this⊢;omega
     .simp only;omega
     .refine ab.trans (ab.sub (K':=VS n (k+1)) (B':=NF (j9 st).1::Nn 1003 ((l++[(j9 st).2]).map jf)) az ⟨rfl,rfl,?_,trivial⟩) (ab.aV 1003 1002 rfl);rw[alu];rfl
  .have b':k=n:=by
    have h: ¬(k:Int) < (n:Int):=mu h;omega
   subst b';have aC:=als l st j2;refine ak (Fn.aV [(1001,2001)] (ND st)) ⟨fun h=>?_,fun h=>?_⟩
   .have h:(!decide (qY st=0))=true:=h;rw[if_neg aw9] at aC
    first
     |(have HT:=H.symm.trans aC;contradiction)
     |exact bc
   .have h:(!decide (qY st=0))=false:=h;rw[if_pos aw9] at aC
    first
     |(rw[H] at aC;injection aC with aC;subst aC;exact⟨_,_,_,bq,rfl,az,az,rfl⟩)
     |(rw[H] at aC;cases aC)
end
section
end
end Go.Proofs.YtkfbeijmgggkmaaGreat
