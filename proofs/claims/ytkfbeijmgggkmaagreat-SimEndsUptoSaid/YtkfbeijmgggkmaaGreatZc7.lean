/-
A part of the proof of this claim: lemmas, with no condition beyond what each says.
-/
import Derived.Test.YtkfbeijmgggkmaaGreatRows
import Derived.Test.YtkfbeijmgggkmaaGreatProg
import Derived.Deep.Slices
import Derived.Deep.Fields
import Derived.OpenShut
import Derived.WalkKit
import Derived.ProofKit
import Derived.JoinedCond
import Derived.Below
import Derived.Carry
import Derived.ChangeSame
import Derived.Test.YtkfbeijmgggkmaaGreatZc6
set_option linter.unusedVariables false
set_option linter.unusedSimpArgs false
set_option maxRecDepth 10000
set_option maxHeartbeats 4000000
namespace Go.Proofs.YtkfbeijmgggkmaaGreat
open Go.RowKit Go.Proofs
section
open Go.RowKit Go.ChangeShapes Go.WideShapes Go.Deep
noncomputable def eY:(u:bA)->aa u->Nat
 | .int _,_=>1
 | .u8,_=>1
 | .bool,_=>1
 | .str,s=>1+List.length s
 | .aL,_=>1
 | .dL,_=>1
 | .fn,_=>1
 | .b4 u,xs=>1+(List.map (eY u) xs).sum
 | .bK u v,p=>eY u p.1+eY v p.2
 | .arr _ u,xs=>(List.map (eY u) xs).sum
def rC:(u:bA)->aa u->Prop
 | .int k,n=>(Lit.int k n).wf=true
 | .b4 u,xs=> ∀x,EH (α:=aa u) x xs->rC u x
 | .bK u v,p=>rC u p.1/\rC v p.2
 | .arr _ u,xs=> ∀x,EH (α:=aa u) x xs->rC u x
 |_,_=>True
def qx (P:Program) (ty:bA->TypeId->Bool):bA->List Field->Nat->Bool
 |_,[],_=>false
 |u,[f],off=>Nat.beq f.offset off&&ty u f.type&&Nat.beq (P.cellsOf f.type) (aS u)
 | .bK u v,f::g::fs,off=>Nat.beq f.offset off&&ty u f.type&&Nat.beq (P.cellsOf f.type) (aS u)&&qx P ty v (g::fs) (off+aS u)
 |_,_::_::_,_=>false
def qy (P:Program):Nat->bA->TypeId->Bool
 |0,_,_=>false
 |n+1,u,t=>match P.underlying t,u with
  |some (.int k),.int d2=>mj k d2
  |some (.int k),.u8=>mj k .u8
  |some .bool,.bool=>true
  |some .string,.str=>true
  |some (.slice e),.b4 v=>qy P n v e&&Nat.beq (P.cellsOf e) (aS v)&&Nat.blt 0 (aS v)
  |some (.array m e),.arr gx v=>Nat.beq m gx&&qy P n v e&&Nat.beq (P.cellsOf e) (aS v)
  |some (.struct fs),u=>qx P (qy P n) u fs.toList 0
  |_,_=>false
section
variable {eu:Type} {enc:TypeId×Value->eu} {w:World} {base:Nat} {Kr:Nat->Bool} {held:Bool} {P:Program}
theorem Ks (d:DataW eu):1<=Rows.uptoBulk d:=by
 unfold Rows.uptoBulk
 split <;>omega
theorem QZ (l r:List (DataW eu)):Rows.uptoBulkAll (l++r)=Rows.uptoBulkAll l+Rows.uptoBulkAll r:=by
 induction l with
 |nil=>simp[Rows.uptoBulkAll]
 |cons x l bu=>simp only[List.cons_append,Rows.uptoBulkAll,bu];omega
def Q0 (w:World) (u:bA) (cs:List Value) (b:Nat):Prop:= ∃a:aa u,cq (fun b=>b < w.heap.size) w u a (fun j=>cs[j]?)/\eY u a<=b/\rC u a
theorem xS {I:Nat->Prop} {u:bA} {a:aa u} {c b7:Nat->Option Value} (h:cq I w u a c) (J: ∀j v,c j=some v->b7 j=some v):cq I w u a b7:=cq.mono (cj.refl I w) u a c b7 J h
theorem Kt {cs:List Value} {o k j:Nat} {v:Value} (h:((cs.drop o).take k)[j]? =some v):cs[o+j]? =some v:=by
 rw[List.getElem?_take] at h
 split at h
 .rwa[List.getElem?_drop] at h
 .cases h
theorem Q1 {ty:bA->TypeId->Bool} {n:Nat} (bu: ∀u t,ty u t=true-> ∀cs x,DataW.trod enc P w base Kr held n t cs=some x->Q0 w u cs (Rows.uptoBulk x.1)):
  ∀(fs:List Field) (u:bA) (off:Nat) (xs:List (DataW eu×List MemPlace)) (cs:List Value),qx P ty u fs off=true->xs.length=fs.length->
   (∀(i:Nat) (f:Field),fs[i]? =some f->DataW.trod enc P w base Kr held n f.type ((cs.drop f.offset).take (P.cellsOf f.type))=xs[i]?)->
   ∃a:aa u,cq (fun b=>b < w.heap.size) w u a (fun j=>cs[off+j]?)/\eY u a<=Rows.uptoBulkAll (xs.map (·.1))/\rC u a
 | [],u,off,xs,cs,h,_,_=>by simp[qx] at h
 | [f],u,off,xs,cs,h,ap,hf=>by
  simp only[qx,vj,Nat.beq_eq] at h;obtain⟨⟨E,G⟩,al⟩:=h
  match xs,ap with
  | [x],_=>
   obtain⟨a,cC,cF,dD⟩:=bu _ _ G _ _ (hf 0 f rfl);subst E;exact⟨a,xS cC fun j v aA=>Kt aA,by simpa[Rows.uptoBulkAll] using cF,dD⟩
 |f::g::fs,.bK u v,off,xs,cs,h,ap,hf=>by
  simp only[qx,vj,Nat.beq_eq] at h;obtain⟨⟨⟨E,G⟩,al⟩,aW⟩:=h
  match xs,ap with
  |x::xs,ap=>
   obtain⟨a,cC,cF,dD⟩:=bu _ _ G _ _ (hf 0 f rfl);obtain⟨b,r1,r2,fV⟩:=Q1 bu (g::fs) v (off+aS u) xs cs aW az8 (fun i f aG=>hf (i+1) f aG);subst E;refine⟨(a,b),⟨xS cC fun j v aA=>Kt aA,xS r1 fun j v aA=>by simpa only[Nat.add_assoc] using aA⟩,?_,dD,fV⟩;simp only[eY,ar8,Rows.uptoBulkAll];omega
 |_::_::_,.int _,_,_,_,h,_,_=>by simp[qx] at h
 |_::_::_,.u8,_,_,_,h,_,_=>by simp[qx] at h
 |_::_::_,.bool,_,_,_,h,_,_=>by simp[qx] at h
 |_::_::_,.str,_,_,_,h,_,_=>by simp[qx] at h
 |_::_::_,.aL,_,_,_,h,_,_=>by simp[qx] at h
 |_::_::_,.b4 _,_,_,_,h,_,_=>by simp[qx] at h
 |_::_::_,.arr _ _,_,_,_,h,_,_=>by simp[qx] at h
theorem Q2 {α:Type} {l:List α} {y x:α} {i:Nat} (h:fz (l++[y]) i=some x):(i < l.length/\fz l i=some x)\/(i=l.length/\x=y):=by
 unfold fz at*;rcases Nat.lt_trichotomy i l.length with E |E |E
 .rw[as8 E] at h;exact .inl ⟨E,h⟩
 .subst E;simp only[List.getElem?_concat_length,aq8] at h;exact .inr ⟨rfl,h.symm⟩
 .rw[au9 ax4] at h
  cases h
theorem FN: ∀(n:Nat) (u:bA) (t:TypeId),qy P n u t=true-> ∀(m:Nat) (cs:List Value) (x:DataW eu×List MemPlace),DataW.trod enc P w base Kr held m t cs=some x->Q0 w u cs (Rows.uptoBulk x.1)
 |0,u,t,h,_,_,_,_=>by simp[qy] at h
 |n+1,u,t,h,m,cs,x,hx=>by
  unfold qy at h
  split at h
  case h_1 k d2 a8=>
   obtain rfl:=nZ h;obtain⟨i,rfl,rfl,hw⟩:=DataW.trod_int a8 hx;exact⟨i,rfl,Ks _,hw⟩
  case h_2 k a8=>
   obtain rfl:=nZ h;obtain⟨i,rfl,rfl,hw⟩:=DataW.trod_int a8 hx
   have Z:0<=i/\i < 256:=by
    simp[Lit.wf,IntKind.min,IntKind.max,IntKind.bits,IntKind.signed] at hw;omega
   refine⟨(UInt8.ofNat i.toNat:UInt8),?_,Ks _,trivial⟩;show some (Value.int .u8 i)=some (Value.int .u8 _)
   congr 2
   rw[UInt8.toNat_ofNat'];omega
  case h_3 a8=>
   obtain⟨b,rfl,rfl⟩:=DataW.trod_bool a8 hx;exact⟨b,rfl,Ks _,trivial⟩
  case h_4 a8=>
   obtain⟨s,rfl,rfl,ax⟩:=DataW.trod_string a8 hx;refine⟨(s.data.toList:aA0),rfl,?_,trivial⟩;simp only[eY,Rows.uptoBulk];omega
  case h_5 e v a8=>
   simp only[vj,Nat.beq_eq] at h;obtain⟨⟨E,G⟩,al⟩:=h;have al:0 < aS v:=by simpa[Nat.blt_eq] using al
   rcases open_slice a8 hx with⟨rfl,rfl⟩ |⟨a,len,cap,gx,n',D,bo,rfl,gE,ap,aw,aaI,rfl,rD⟩
   .refine⟨([]:List (aa v)),⟨none,0,rfl,aq4 _,aq9 _,fun h=>absurd h (Nat.lt_irrefl 0)⟩,by simp[eY,Rows.uptoBulk],fun x hx=>by cases hx⟩
   .rw[G] at rD;have aqb:len<=gx:=by rw[aaI];split <;>omega
    have key: ∀k,k<=len-> ∃l:List (aa v),l.length=k/\(l.map (eY v)).sum<=Rows.uptoBulkAll ((List.range k).map D)/\(∀x,x∈l->rC v x)/\
      (∀i x,fz l i=some x->cq (fun b=>b < w.heap.size) w v x (fun j=>if j < aS v then w.cell? ((a.add (i*aS v)).add j) else none)):=by
     intro k
     induction k with
     |zero=>exact fun _=>⟨[],rfl,aw2,(fun x h=>by cases h),fun i x h=>by simp[fz] at h⟩
     |succ k aaJ=>
      intro Z;obtain⟨l,i4,gT,pS,uS⟩:=aaJ aw0;obtain⟨aaK,J,aaL⟩:=rD k aw0;obtain⟨y,uT,wi,Co⟩:=FN n v e E _ _ _ aaL;obtain⟨-,dF,oa⟩:=World.cells?_some J;refine⟨l++[y],by simp[i4],?_,?_,?_⟩
      .rw[List.range_succ,at9,at9,List.sum_append,QZ];have wi:eY v y<=Rows.uptoBulk (D k):=wi;simp only[Rows.uptoBulkAll,ar8,av4,List.sum_cons,List.sum_nil];omega
      .intro x hx;rcases as4.1 hx with hx |hx
       .exact pS x hx
       .simp at hx;subst hx;exact Co
      .intro i x aG;rcases Q2 aG with⟨_,aG⟩ |⟨rfl,rfl⟩
       .exact uS i x aG
       .rw[i4];refine xS uT fun j da aA=>?_
        have V:=(ar1.1 aA).1;rw[if_pos aw0,oa j aw0];exact aA
    obtain⟨l,i4,gT,pS,uS⟩:=key len (aq4 _);refine⟨l,⟨some a,cap,by rw[show List.length (α:=aa v) l=len from i4];rfl,by rw[show List.length (α:=aa v) l=len from i4];exact ap,aw,fun av=>?_⟩,?_,pS⟩
    .have av:0 < len:=by rw[<-i4];exact av
     obtain⟨aaK,J,_⟩:=rD 0 aw0;obtain⟨-,dF,oa⟩:=World.cells?_some J;have Cp:=oa 0 aw0;rw[oj aw0] at Cp;obtain⟨b,o,spot⟩:=a;have aaM:spot=none:=by simpa[Addr.add] using World.cell?_spot Cp
     subst aaM;have gE:=World.block_lt_of_cell? w _ Cp;refine⟨b,o,rfl,by simpa[Addr.add] using gE,fun i x aG=>xS (uS i x aG) fun j da aA=>?_⟩
     split at aA
     .rwa[add_plain,add_plain,Nat.add_assoc] at aA
     .cases aA
    .simp only[eY,Rows.uptoBulk];exact(show 1+(l.map (eY v)).sum<=_ by omega)
  case h_6 k e d2 v a8=>
   simp only[vj,Nat.beq_eq] at h;obtain⟨⟨av,E⟩,G⟩:=h;subst av;obtain⟨xs,gx,rfl,rfl,ap,v6,hf⟩:=DataW.trod_array a8 hx;rw[G] at hf
   have key: ∀q,q<=k-> ∃l:List (aa v),l.length=q/\(l.map (eY v)).sum<=Rows.uptoBulkAll ((xs.take q).map (·.1))/\(∀x,x∈l->rC v x)/\
     (∀i x,fz l i=some x->cq (fun b=>b < w.heap.size) w v x (fun j=>cs[i*aS v+j]?)):=by
    intro q
    induction q with
    |zero=>exact fun _=>⟨[],rfl,aw2,(fun x h=>by cases h),fun i x h=>by simp[fz] at h⟩
    |succ q aaN=>
     intro aP;obtain⟨l,i4,gT,pS,uS⟩:=aaN aw0;have Q3:=hf q aw0;rw[oj aw0] at Q3;obtain⟨y,uT,wi,Co⟩:=FN n v e E _ _ _ Q3;refine⟨l++[y],by simp[i4],?_,?_,?_⟩
     .rw[List.take_add_one,oj aw0,at9,at9,List.sum_append,QZ];simp only[Rows.uptoBulkAll,ar8,av4,List.sum_cons,List.sum_nil,Option.toList_some];omega
     .intro x hx;rcases as4.1 hx with hx |hx
      .exact pS x hx
      .simp at hx;subst hx;exact Co
     .intro i x aG;rcases Q2 aG with⟨_,aG⟩ |⟨rfl,rfl⟩
      .exact uS i x aG
      .rw[i4];exact xS uT fun j da aA=>Kt aA
   obtain⟨l,i4,gT,pS,uS⟩:=key k (aq4 _);refine⟨l,⟨i4,uS⟩,?_,pS⟩;rw[List.take_of_length_le aw0] at gT;simp only[eY,Rows.uptoBulk];exact(show(l.map (eY v)).sum<=_ by omega)
  case h_7 tv fs a8=>
   obtain⟨xs,gx,rfl,rfl,ap,v6,hf⟩:=DataW.trod_struct a8 hx;obtain⟨a,cC,cF,dD⟩:=Q1 (fun u t cn cs x h=>FN n u t cn _ cs x h) fs.toList _ 0 xs cs h (by simpa using v6) (fun i f aG=>hf i f (by simpa using aG));refine⟨a,xS cC fun j v aA=>by rw[Nat.zero_add] at aA;exact aA,?_,dD⟩;simp only[Rows.uptoBulk];omega
  case h_8=>cases h
end
end
section
namespace wj
def t3:b8:=⟨.int .i64,1,false,[.d (.int .i64 0)],[],some (.int .i64),8⟩
def t4:b8:=⟨.bool,1,false,[.d (.lit false)],[],some .bool,1⟩
def t5:b8:=⟨.int .u8,1,false,[.d (.int .u8 0)],[],some .u8,1⟩
def t9:b8:=⟨.str,1,false,[.d (.str [])],[],some .str,16⟩
def t20:b8:=⟨.other,1,false,[.bM .nilIface],[],none,16⟩
def aaO:b8:=⟨.int .i32,1,false,[.d (.int .i32 0)],[],some (.int .i32),4⟩
def t23:b8:=⟨.st,3,true,[.d (.int .i64 0),.d (.int .i64 0),.d (.int .i64 0)],[(0,1),(1,1),(2,1)],some (.bK (.int .i64) (.bK (.int .i64) (.int .i64))),24⟩
def t24:b8:=⟨.b4 34,1,false,[.dH],[],some (.b4 (.bK (.int .i64) (.bK (.int .i64) (.bK (.int .i64) (.bK (.b4 .u8) (.bK .str (.bK .str (.b4 (.bK .str (.b4 (.int .i64))))))))))),24⟩
def t25:b8:=⟨.ptr 82,1,false,[.bM (.pointer none)],[],some .aL,8⟩
def t26:b8:=⟨.int .i64,1,false,[.d (.int .i64 0)],[],some (.int .i64),8⟩
def aaP:b8:=⟨.b4 5,1,false,[.dH],[],some (.b4 .u8),24⟩
def t32:b8:=⟨.b4 85,1,false,[.dH],[],some (.b4 (.bK .str (.b4 (.int .i64)))),24⟩
def aaQ:b8:=⟨.st,7,true,[.d (.int .i64 0),.d (.int .i64 0),.d (.int .i64 0),.dH,.d (.str []),.d (.str []),.dH],[(0,1),(1,1),(2,1),(3,1),(4,1),(5,1),(6,1)],some (.bK (.int .i64) (.bK (.int .i64) (.bK (.int .i64) (.bK (.b4 .u8) (.bK .str (.bK .str (.b4 (.bK .str (.b4 (.int .i64)))))))))),104⟩
def t35:b8:=⟨.other,1,false,[.bM .nilFunc],[],some .fn,8⟩
def t36:b8:=⟨.b4 89,1,false,[.dH],[],some (.b4 (.bK .str (.b4 (.int .i64)))),24⟩
def aaR:b8:=⟨.st,7,true,[.d (.int .i64 0),.d (.int .i64 0),.d (.int .i64 0),.dH,.d (.str []),.d (.str []),.dH],[(0,1),(1,1),(2,1),(3,1),(4,1),(5,1),(6,1)],some (.bK (.int .i64) (.bK (.int .i64) (.bK (.int .i64) (.bK (.b4 .u8) (.bK .str (.bK .str (.b4 (.bK .str (.b4 (.int .i64)))))))))),104⟩
def aaS:b8:=⟨.b4 44,1,false,[.dH],[],some (.b4 (.bK .str .str)),24⟩
def t44:b8:=⟨.st,2,true,[.d (.str []),.d (.str [])],[(0,1),(1,1)],some (.bK .str .str),32⟩
def aaT:b8:=⟨.b4 9,1,false,[.dH],[],some (.b4 .str),24⟩
def t46:b8:=⟨.ptr 93,1,false,[.bM (.pointer none)],[],some .aL,8⟩
def aaU:b8:=⟨.ptr 44,1,false,[.bM (.pointer none)],[],some .aL,8⟩
def aaV:b8:=⟨.ptr 107,1,false,[.bM (.pointer none)],[],some .aL,8⟩
def aaW:b8:=⟨.ptr 161,1,false,[.bM (.pointer none)],[],some .aL,8⟩
def aaX:b8:=⟨.st,4,true,[.d (.str []),.d (.lit false),.d (.lit false),.bM (.pointer none)],[(0,1),(1,1),(2,1),(3,1)],some (.bK .str (.bK .bool (.bK .bool .aL))),32⟩
def aaY:b8:=⟨.ptr 117,1,false,[.bM (.pointer none)],[],some .aL,8⟩
def aaZ:b8:=⟨.ptr 125,1,false,[.bM (.pointer none)],[],some .aL,8⟩
def aa0:b8:=⟨.other,1,false,[.bM .nilIface],[],none,16⟩
def aa1:b8:=⟨.ptr 184,1,false,[.bM (.pointer none)],[],some .aL,8⟩
def aa2:b8:=⟨.ptr 192,1,false,[.bM (.pointer none)],[],some .aL,8⟩
def aa3:b8:=⟨.b4 96,1,false,[.dH],[],some (.b4 (.bK (.int .i64) (.b4 .u8))),24⟩
def aa4:b8:=⟨.st,5,true,[.d (.str []),.d (.str []),.d (.int .i64 0),.d (.int .i64 0),.dH],[(0,1),(1,1),(2,1),(3,1),(4,1)],some (.bK .str (.bK .str (.bK (.int .i64) (.bK (.int .i64) (.b4 (.bK (.int .i64) (.b4 .u8))))))),72⟩
def aa5:b8:=⟨.st,7,true,[.d (.str []),.d (.str []),.d (.int .i64 0),.d (.int .i64 0),.dH,.d (.str []),.bM (.pointer none)],[(0,5),(5,1),(6,1)],some (.bK (.bK .str (.bK .str (.bK (.int .i64) (.bK (.int .i64) (.b4 (.bK (.int .i64) (.b4 .u8))))))) (.bK .str .aL)),96⟩
def aa6:b8:=⟨.st,17,true,[.d (.int .i64 0),.d (.str []),.bM (.pointer none),.bM (.pointer none),.bM (.pointer none),.bM (.pointer none),.d (.int .i64 0),.bM .nilIface,.bM (.pointer none),.bM (.pointer none),.d (.str []),.d (.str []),.d (.int .i64 0),.d (.int .i64 0),.dH,.d (.str []),.bM (.pointer none)],[(0,1),(1,1),(2,1),(3,1),(4,1),(5,1),(6,1),(7,1),(8,1),(9,1),(10,7)],none,192⟩
def aa7:b8:=⟨.b4 3,1,false,[.dH],[],some (.b4 (.int .i64)),24⟩
def aa8:b8:=⟨.st,2,true,[.d (.str []),.dH],[(0,1),(1,1)],some (.bK .str (.b4 (.int .i64))),40⟩
def aa9:b8:=⟨.mp 3 35,1,false,[.bM (.map none)],[],none,8⟩
def aa':b8:=⟨.st,2,true,[.d (.str []),.dH],[(0,1),(1,1)],some (.bK .str (.b4 (.int .i64))),40⟩
def aba:b8:=⟨.b4 78,1,false,[.dH],[],some (.b4 (.bK .str (.bK .str (.bK (.int .i64) (.bK (.int .i64) (.b4 (.bK (.int .i64) (.b4 .u8)))))))),24⟩
def abb:b8:=⟨.st,1,true,[.dH],[(0,1)],some (.b4 (.bK .str (.bK .str (.bK (.int .i64) (.bK (.int .i64) (.b4 (.bK (.int .i64) (.b4 .u8)))))))),24⟩
def abc:b8:=⟨.st,2,true,[.d (.int .i64 0),.dH],[(0,1),(1,1)],some (.bK (.int .i64) (.b4 .u8)),32⟩
def abd:b8:=⟨.other,1,false,[.bM .nilFunc],[],some .fn,8⟩
def abe:b8:=⟨.other,1,false,[.bM .nilFunc],[],some .fn,8⟩
def abf:b8:=⟨.mp 9 105,1,false,[.bM (.map none)],[],none,8⟩
def abg:b8:=⟨.ptr 60,1,false,[.bM (.pointer none)],[],some .aL,8⟩
def abh:b8:=⟨.st,1,true,[.bM (.map none)],[(0,1)],none,8⟩
def abi:b8:=⟨.other,1,false,[.bM .nilFunc],[],some .fn,8⟩
def abj:b8:=⟨.ptr 172,1,false,[.bM (.pointer none)],[],some .aL,8⟩
def abk:b8:=⟨.mp 9 119,1,false,[.bM (.map none)],[],none,8⟩
def abl:b8:=⟨.st,3,true,[.d (.int .i64 0),.d (.int .i64 0),.bM (.map none)],[(0,1),(1,1),(2,1)],none,24⟩
def abm:b8:=⟨.other,1,false,[.bM .nilFunc],[],some .fn,8⟩
def abn:b8:=⟨.ptr 122,1,false,[.bM (.pointer none)],[],some .aL,8⟩
def abo:b8:=⟨.st,2,true,[.bM (.pointer none),.d (.str [])],[(0,1),(1,1)],some (.bK .aL .str),24⟩
def abp:b8:=⟨.mp 9 198,1,false,[.bM (.map none)],[],none,8⟩
def abq:b8:=⟨.st,2,true,[.d (.int .i64 0),.bM (.map none)],[(0,1),(1,1)],none,16⟩
def abr:b8:=⟨.other,1,false,[.bM .nilFunc],[],some .fn,8⟩
def abs:b8:=⟨.ptr 189,1,false,[.bM (.pointer none)],[],some .aL,8⟩
def abt:b8:=⟨.other,1,false,[.bM .nilFunc],[],some .fn,8⟩
def abu:b8:=⟨.other,1,false,[.bM .nilFunc],[],some .fn,8⟩
def abv:b8:=⟨.other,1,false,[.bM .nilFunc],[],some .fn,8⟩
def abw:b8:=⟨.mp 3 3,1,false,[.bM (.map none)],[],none,8⟩
def abx:b8:=⟨.st,3,true,[.d (.int .i64 0),.d (.int .i64 0),.bM (.map none)],[(0,1),(1,1),(2,1)],none,24⟩
def aby:b8:=⟨.ptr 229,1,false,[.bM (.pointer none)],[],some .aL,8⟩
def abz:b8:=⟨.ptr 231,1,false,[.bM (.pointer none)],[],some .aL,8⟩
def abA:b8:=⟨.mp 3 31,1,false,[.bM (.map none)],[],none,8⟩
def abB:b8:=⟨.b4 357,1,false,[.dH],[],some (.b4 (.bK .str .aL)),24⟩
def abC:b8:=⟨.st,5,true,[.d (.int .i64 0),.bM (.pointer none),.bM (.pointer none),.bM (.map none),.dH],[(0,1),(1,1),(2,1),(3,1),(4,1)],none,56⟩
def abD:b8:=⟨.other,1,false,[.bM .nilFunc],[],some .fn,8⟩
def abE:b8:=⟨.other,1,false,[.bM .nilFunc],[],some .fn,8⟩
def abF:b8:=⟨.st,5,true,[.bM (.pointer none),.d (.str []),.d (.str []),.bM (.map none),.d (.lit false)],[(0,1),(1,1),(2,1),(3,1),(4,1)],none,56⟩
def abG:b8:=⟨.st,4,true,[.bM (.pointer none),.d (.str []),.d (.str []),.d (.lit false)],[(0,1),(1,1),(2,1),(3,1)],some (.bK .aL (.bK .str (.bK .str .bool))),48⟩
def abH:b8:=⟨.st,9,true,[.bM (.pointer none),.d (.str []),.d (.int .i64 0),.d (.int .i64 0),.d (.int .i64 0),.bM (.map none),.bM (.map none),.d (.lit false),.d (.lit false)],[(0,1),(1,1),(2,1),(3,1),(4,1),(5,1),(6,1),(7,1),(8,1)],none,72⟩
def abI:b8:=⟨.ptr 255,1,false,[.bM (.pointer none)],[],some .aL,8⟩
def abJ:b8:=⟨.other,1,false,[.bM .nilFunc],[],some .fn,8⟩
def abK:b8:=⟨.ptr 262,1,false,[.bM (.pointer none)],[],some .aL,8⟩
def abL:b8:=⟨.other,1,false,[.bM .nilFunc],[],some .fn,8⟩
def abM:b8:=⟨.st,4,true,[.d (.int .i64 0),.d (.int .i64 0),.d (.int .i64 0),.d (.int .i64 0)],[(0,1),(1,1),(2,1),(3,1)],some (.bK (.int .i64) (.bK (.int .i64) (.bK (.int .i64) (.int .i64)))),32⟩
def abN:b8:=⟨.int .u64,1,false,[.d (.int .u64 0)],[],some (.int .u64),8⟩
def abO:b8:=⟨.mp 3 290,1,false,[.bM (.map none)],[],none,8⟩
def abP:b8:=⟨.st,2,true,[.d (.int .i64 0),.bM (.map none)],[(0,1),(1,1)],none,16⟩
def abQ:b8:=⟨.st,1,true,[.dH],[(0,1)],some (.b4 (.int .i64)),24⟩
def abR:b8:=⟨.other,1,false,[.bM .nilFunc],[],some .fn,8⟩
def abS:b8:=⟨.other,1,false,[.bM .nilFunc],[],some .fn,8⟩
def abT:b8:=⟨.other,1,false,[.bM .nilFunc],[],some .fn,8⟩
def abU:b8:=⟨.other,1,false,[.bM .nilFunc],[],some .fn,8⟩
def abV:b8:=⟨.other,1,false,[.bM .nilFunc],[],some .fn,8⟩
def abW:b8:=⟨.st,3,true,[.d (.int .i64 0),.d (.int .i64 0),.d (.lit false)],[(0,1),(1,1),(2,1)],some (.bK (.int .i64) (.bK (.int .i64) .bool)),24⟩
def abX:b8:=⟨.other,1,false,[.bM .nilFunc],[],some .fn,8⟩
def abY:b8:=⟨.b4 293,1,false,[.dH],[],some (.b4 (.bK (.int .i64) (.bK (.int .i64) (.int .i64)))),24⟩
def abZ:b8:=⟨.mp 3 257,1,false,[.bM (.map none)],[],none,8⟩
def ab0:b8:=⟨.b4 259,1,false,[.dH],[],some (.b4 (.bK (.int .i64) (.arr 16 .u8))),24⟩
def ab1:b8:=⟨.st,5,true,[.d (.int .i64 0),.d (.int .i64 0),.bM (.map none),.bM (.map none),.dH],[(0,1),(1,1),(2,1),(3,1),(4,1)],none,56⟩
def ab2:b8:=⟨.arr 16 5,16,true,[.d (.int .u8 0),.d (.int .u8 0),.d (.int .u8 0),.d (.int .u8 0),.d (.int .u8 0),.d (.int .u8 0),.d (.int .u8 0),.d (.int .u8 0),.d (.int .u8 0),.d (.int .u8 0),.d (.int .u8 0),.d (.int .u8 0),.d (.int .u8 0),.d (.int .u8 0),.d (.int .u8 0),.d (.int .u8 0)],[],some (.arr 16 .u8),16⟩
def ab3:b8:=⟨.st,17,true,[.d (.int .i64 0),.d (.int .u8 0),.d (.int .u8 0),.d (.int .u8 0),.d (.int .u8 0),.d (.int .u8 0),.d (.int .u8 0),.d (.int .u8 0),.d (.int .u8 0),.d (.int .u8 0),.d (.int .u8 0),.d (.int .u8 0),.d (.int .u8 0),.d (.int .u8 0),.d (.int .u8 0),.d (.int .u8 0),.d (.int .u8 0)],[(0,1),(1,16)],some (.bK (.int .i64) (.arr 16 .u8)),24⟩
def ab4:b8:=⟨.st,2,true,[.dH,.d (.int .i64 0)],[(0,1),(1,1)],some (.bK (.b4 .u8) (.int .i64)),32⟩
def ab5:b8:=⟨.int .i64,1,false,[.d (.int .i64 0)],[],some (.int .i64),8⟩
def ab6:b8:=⟨.int .u32,1,false,[.d (.int .u32 0)],[],some (.int .u32),4⟩
def ab7:b8:=⟨.int .u64,1,false,[.d (.int .u64 0)],[],some (.int .u64),8⟩
def ab8:b8:=⟨.arr 16 243,48,true,[.d (.int .i64 0),.d (.int .i64 0),.d (.lit false),.d (.int .i64 0),.d (.int .i64 0),.d (.lit false),.d (.int .i64 0),.d (.int .i64 0),.d (.lit false),.d (.int .i64 0),.d (.int .i64 0),.d (.lit false),.d (.int .i64 0),.d (.int .i64 0),.d (.lit false),.d (.int .i64 0),.d (.int .i64 0),.d (.lit false),.d (.int .i64 0),.d (.int .i64 0),.d (.lit false),.d (.int .i64 0),.d (.int .i64 0),.d (.lit false),.d (.int .i64 0),.d (.int .i64 0),.d (.lit false),.d (.int .i64 0),.d (.int .i64 0),.d (.lit false),.d (.int .i64 0),.d (.int .i64 0),.d (.lit false),.d (.int .i64 0),.d (.int .i64 0),.d (.lit false),.d (.int .i64 0),.d (.int .i64 0),.d (.lit false),.d (.int .i64 0),.d (.int .i64 0),.d (.lit false),.d (.int .i64 0),.d (.int .i64 0),.d (.lit false),.d (.int .i64 0),.d (.int .i64 0),.d (.lit false)],[],some (.arr 16 (.bK (.int .i64) (.bK (.int .i64) .bool))),384⟩
def ab9:b8:=⟨.st,3,true,[.d (.int .i64 0),.d (.int .i64 0),.d (.int .i64 0)],[(0,1),(1,1),(2,1)],some (.bK (.int .i64) (.bK (.int .i64) (.int .i64))),24⟩
def ab':b8:=⟨.other,1,false,[.bM .nilFunc],[],some .fn,8⟩
def aca:b8:=⟨.ptr 317,1,false,[.bM (.pointer none)],[],some .aL,8⟩
def acb:b8:=⟨.int .u64,1,false,[.d (.int .u64 0)],[],some (.int .u64),8⟩
def acd:b8:=⟨.ptr 3,1,false,[.bM (.pointer none)],[],some .aL,8⟩
def ace:b8:=⟨.b4 128,1,false,[.dH],[],some (.b4 .fn),24⟩
def acf:b8:=⟨.st,2,true,[.dH,.d (.int .i64 0)],[(0,1),(1,1)],some (.bK (.b4 .fn) (.int .i64)),32⟩
def acg:b8:=⟨.other,1,false,[.bM .nilFunc],[],some .fn,8⟩
def ach:b8:=⟨.ptr 302,1,false,[.bM (.pointer none)],[],some .aL,8⟩
def aci:b8:=⟨.b4 31,1,false,[.dH],[],some (.b4 (.b4 .u8)),24⟩
def acj:b8:=⟨.other,1,false,[.bM .nilFunc],[],some .fn,8⟩
def ack:b8:=⟨.mp 3 128,1,false,[.bM (.map none)],[],none,8⟩
def acl:b8:=⟨.other,1,false,[.bM .nilFunc],[],some .fn,8⟩
def acm:b8:=⟨.st,2,true,[.d (.str []),.bM (.pointer none)],[(0,1),(1,1)],some (.bK .str .aL),24⟩
def types:dl:=(.node (.node (.node (.node (.node (.node (.node .leaf 3 t3 .leaf) 4 t4 (.node .leaf 5 t5 .leaf)) 9 t9 (.node (.node .leaf 20 t20 .leaf) 21 aaO (.node .leaf 23 t23 .leaf))) 24 t24 (.node (.node (.node .leaf 25 t25 .leaf) 26 t26 (.node .leaf 31 aaP .leaf)) 32 t32 (.node (.node .leaf 34 aaQ .leaf) 35 t35 .leaf))) 36 t36 (.node (.node (.node (.node .leaf 38 aaR .leaf) 42 aaS (.node .leaf 44 t44 .leaf)) 45 aaT (.node (.node .leaf 46 t46 .leaf) 50 aaU .leaf)) 56 aaV (.node (.node (.node .leaf 58 aaW .leaf) 60 aaX (.node .leaf 65 aaY .leaf)) 69 aaZ (.node (.node .leaf 73 aa0 .leaf) 74 aa1 .leaf)))) 75 aa2 (.node (.node (.node (.node (.node .leaf 76 aa3 .leaf) 78 aa4 (.node .leaf 80 aa5 .leaf)) 82 aa6 (.node (.node .leaf 83 aa7 .leaf) 85 aa8 .leaf)) 87 aa9 (.node (.node (.node .leaf 89 aa' .leaf) 91 aba (.node .leaf 93 abb .leaf)) 96 abc (.node (.node .leaf 101 abd .leaf) 102 abe .leaf))) 104 abf (.node (.node (.node (.node .leaf 105 abg .leaf) 107 abh (.node .leaf 110 abi .leaf)) 112 abj (.node (.node .leaf 115 abk .leaf) 117 abl .leaf)) 118 abm (.node (.node (.node .leaf 119 abn .leaf) 122 abo (.node .leaf 123 abp .leaf)) 125 abq (.node (.node .leaf 128 abr .leaf) 136 abs .leaf))))) 155 abt (.node (.node (.node (.node (.node (.node .leaf 156 abu .leaf) 157 abv (.node .leaf 159 abw .leaf)) 161 abx (.node (.node .leaf 163 aby .leaf) 166 abz .leaf)) 169 abA (.node (.node (.node .leaf 170 abB .leaf) 172 abC (.node .leaf 176 abD .leaf)) 178 abE (.node (.node .leaf 184 abF .leaf) 189 abG .leaf))) 192 abH (.node (.node (.node (.node .leaf 198 abI .leaf) 200 abJ (.node .leaf 202 abK .leaf)) 215 abL (.node (.node .leaf 218 abM .leaf) 225 abN .leaf)) 227 abO (.node (.node (.node .leaf 229 abP .leaf) 231 abQ (.node .leaf 232 abR .leaf)) 234 abS (.node (.node .leaf 235 abT .leaf) 238 abU .leaf)))) 239 abV (.node (.node (.node (.node (.node .leaf 243 abW .leaf) 247 abX (.node .leaf 249 abY .leaf)) 252 abZ (.node (.node .leaf 253 ab0 .leaf) 255 ab1 .leaf)) 257 ab2 (.node (.node (.node .leaf 259 ab3 .leaf) 262 ab4 (.node .leaf 270 ab5 .leaf)) 279 ab6 (.node (.node .leaf 281 ab7 .leaf) 290 ab8 .leaf))) 293 ab9 (.node (.node (.node (.node .leaf 296 ab' .leaf) 299 aca (.node .leaf 302 acb .leaf)) 306 acd (.node (.node .leaf 315 ace .leaf) 317 acf .leaf)) 319 acg (.node (.node (.node .leaf 320 ach .leaf) 330 aci (.node .leaf 331 acj .leaf)) 352 ack (.node (.node .leaf 355 acl .leaf) 357 acm .leaf))))))
end wj
set_option maxRecDepth 100000 in
theorem ee:eh Tryz.prog wj.types:=eh.of aw3
theorem mixed:Tryz.prog.follows .mixedOrders=true:=by kernel_rfl
end
section
open Go.ChangeShapes Go.WideShapes Go.ChangeAt Go.RowKit
section
variable {eu:Type} {enc:TypeId×Value->eu} {P:Program}
theorem acn {f:Func} {s:ChangeSpec} {apart fresh handsOn again:Bool} {W iN:World} {args:Array Value} {v:Value} {ds gs:List (DataW eu)} {jo pa pv:List MemPlace}
  (cW:DataW.Whole enc P f.params.toList s.vars apart W args.toList ds gs jo)
  (jn: ∀(b:Nat) (sp:Nat->Bool) (H:Bool),DataW.TrodAll enc P iN b sp H f.resultTypes.toList (v.resultList f.resultTypes.size) (s.fn eu (ds++gs)).results [])
  (fG: ∀sp:Nat->Bool,(∀p∈jo,sp p.block=true)->DataW.TrodAll enc P iN 0 sp true f.params.toList args.toList (s.fn eu (ds++gs)).args pa)
  (Cq: ∀sp:Nat->Bool,(∀p∈jo,sp p.block=true)->DataW.TrodVars enc P iN sp s.vars (s.fn eu (ds++gs)).vars pv)
  (lM:jo=pa++pv) (O:Below W.heap.size W iN)
  (bz: ∀(j:Nat) (t:TypeId) (r:Value),f.resultTypes[j]? =some t->(v.resultList f.resultTypes.size)[j]? =some r->Value.okWide P iN .any 0 t r):
  s.post enc P f apart fresh handsOn again W args v iN:=by
 have bx: ∀p∈jo,p.block < W.heap.size:=fun p ae=>cW.lt p ae
 have mW: ∀p∈jo,(fun b=>decide (b < W.heap.size)) p.block=true:=fun p ae=>by simpa using bx p ae
 refine⟨ds,gs,jo,[],pa,pv,cW,jn _ _ _,fG _ mW,Cq _ mW,World.keptBut_mono (fun p ae=>⟨ae,?_⟩) (O.frame (· ∈jo)),fun _=>?_⟩
 .rw[lM,as4] at ae;exact Or.inr ae
 .obtain⟨_,_,_,_,_,aR,hn⟩:=cW;refine⟨bz,_,_,([]++pa)++pv,⟨[]++pa,pv,trodAll_append (fG _ (fun _ _=>rfl)) (jn _ _ _),Cq _ (fun _ _=>rfl),rfl,?_,?_⟩,?_⟩
  .intro b off ae;have eD:MemPlace.cell b off∈jo:=by rw[lM];simpa using ae
   rw[O.frozen (bx _ eD)];exact aR b off eD
  .intro ha;have:=hn ha;rw[lM] at this;simpa using this
  .intro p ae _;rw[lM];simpa using ae
end
def Q4:(u:bA)->aa u->aO
 | .bK u v,x=>.c (.agg (gr (.bK u v) x 0 (aS (.bK u v))))
 | .arr n u,x=>.c (.agg (gr (.arr n u) x 0 (aS (.arr n u))))
 | .int k,x=>.c (.one (.d (fM (.int k) x 0)))
 | .u8,x=>.c (.one (.d (fM .u8 x 0)))
 | .bool,x=>.c (.one (.d (fM .bool x 0)))
 | .str,x=>.c (.one (.d (fM .str x 0)))
 | .aL,x=>.c (.one (.d (fM .aL x 0)))
 | .dL,x=>.c (.one (.d (fM .dL x 0)))
 | .fn,x=>.c (.one (.d (fM .fn x 0)))
 | .b4 u,x=>.c (.one (.d (fM (.b4 u) x 0)))
def uU (P:Program) (t:TypeId):Bool:=match P.underlying t with
 |some (.struct _)=>false
 |some (.array _ _)=>false
 |some _=>true
 |none=>false
def FO (P:Program) (u:bA) (t:TypeId):Bool:=qy P 20 u t&&(nk u == uU P t)&&Nat.beq (P.cellsOf t) (aS u)&&P.readableRec t&&Nat.blt t P.types.size
section
variable {eu:Type} {enc:TypeId×Value->eu} {W:World} {P:Program} {ρ:Nat->bo} {I:Nat->Prop}
theorem Q5 {u:bA} {x:aa u} {cs:List Value} (H:cq I W u x (fun j=>cs[j]?)): ∀(n o:Nat),o+n<=aS u->o+n<=cs.length->cc ρ I W (gr u x o n) ((cs.drop o).take n)
 |0,o,_,_=>by simp[gr,cc]
 |n+1,o,h,ap=>by
  obtain⟨v,aA,uM⟩:=cq.cell u x _ o H aw0;refine⟨v,(cs.drop (o+1)).take n,?_,uM,Q5 H n (o+1) aw0 aw0⟩;have:=(ar1.1 aA).2;rw[List.drop_eq_getElem_cons (by omega:o < cs.length),List.take_succ_cons,this]
theorem aco {t:TypeId} {v:Value} {base:Nat} (E:uU P t=true) (h:Value.okWide P W .any base t v) {fuel:Nat} {sp:Nat->Bool} {u:bA} {n:Nat} {x:DataW eu×List MemPlace} (a8:qy P n u t=true) (G:nk u=true):v.cells.toList=[v]:=by
 cases n with
 |zero=>simp[qy] at a8
 |succ n=>
  unfold qy at a8
  split at a8
  case h_1 k d2 cn=>obtain⟨n,rfl⟩:=okWide_int cn h;rfl
  case h_2 k cn=>obtain⟨n,rfl⟩:=okWide_int cn h;rfl
  case h_3 cn=>obtain⟨n,rfl⟩:=okWide_bool cn h;rfl
  case h_4 cn=>obtain⟨n,rfl⟩:=okWide_string cn h;rfl
  case h_5 e v cn=>obtain⟨a,b,c,rfl⟩:=okWide_slice cn h;rfl
  case h_6=>simp[nk] at G
  case h_7 fs u cn=>simp[uU,cn] at E
  case h_8=>cases a8
theorem acp {t:TypeId} {v:Value} {base:Nat} (E:uU P t=false) (h:Value.okWide P W .any base t v) {n:Nat} {u:bA} (a8:qy P n u t=true): ∃cs,v= .agg cs/\cs.size=P.cellsOf t:=by
 cases n with
 |zero=>simp[qy] at a8
 |succ n=>
  unfold qy at a8;unfold Value.okWide at h
  split at a8
  case h_1 k d2 cn=>simp[uU,cn] at E
  case h_2 k cn=>simp[uU,cn] at E
  case h_3 cn=>simp[uU,cn] at E
  case h_4 cn=>simp[uU,cn] at E
  case h_5 e v cn=>simp[uU,cn] at E
  case h_6 k e d2 v cn=>rw[cn] at h;obtain⟨cs,E,G,_⟩:=h;exact⟨cs,E,G⟩
  case h_7 fs u cn=>rw[cn] at h;obtain⟨cs,E,G,_⟩:=h;exact⟨cs,E,G⟩
  case h_8=>cases a8
theorem acq {u:bA} {t:TypeId} {v:Value} {d:DataW eu} {bE:List MemPlace} {base:Nat} {sp:Nat->Bool} (h:FO P u t=true) (bz:Value.okWide P W .any base t v) (ci:DataW.Trod enc P W 0 sp true t v d bE):
  ∃a:aa u,cx ρ (fun b=>b < W.heap.size) W (Q4 u a) v/\eY u a<=Rows.uptoBulk d/\rC u a:=by
 simp only[FO,vj,Nat.beq_eq,beq_iff_eq] at h;obtain⟨⟨⟨⟨E,G⟩,al⟩,_⟩,_⟩:=h;obtain⟨n,hn⟩:=ci;obtain⟨a,cC,cF,dD⟩:=FN _ _ _ E _ _ _ hn;refine⟨a,?_,cF,dD⟩
 cases ag:nk u with
 |true=>
  rw[aco (x:=(d,bE)) (fuel:=n) (sp:=sp) (by rw[<-G,ag]) bz E ag] at cC;obtain⟨da,af,ao⟩:=cq.cell u a _ 0 cC (by rcases u with _ |_ |_ |_ |_ |_ |_ <;>simp[aS,nk] at*);simp only[ar9,aq8] at af;subst af
  cases u <;>first |exact ao |(simp[nk] at ag)
 |false=>
  obtain⟨cs,rfl,cu⟩:=acp (by rw[<-G,ag]) bz E;have ap:cs.toList.length=aS u:=by rw[Array.length_toList];omega
  have:=Q5 (ρ:=ρ) cC (aS u) 0 aw0 (by simpa[Value.cells] using(show 0+aS u<=cs.toList.length by omega));rw[List.drop_zero,List.take_of_length_le (by simp only[Value.cells];omega)] at this
  cases u <;>first |exact⟨_,rfl,this⟩ |(simp[nk] at ag)
def Ac:List bA->Type
 | []=>Unit
 |u::us=>aa u×Ac us
def wk:(us:List bA)->Ac us->List aO
 | [],_=>[]
 |u::us,x=>Q4 u x.1::wk us x.2
noncomputable def FP:(us:List bA)->Ac us->Nat
 | [],_=>0
 |u::us,x=>eY u x.1+FP us x.2
def Ku:(us:List bA)->Ac us->Prop
 | [],_=>True
 |u::us,x=>rC u x.1/\Ku us x.2
def tM (P:Program):List bA->List TypeId->Bool
 | [],[]=>true
 |u::us,t::cv=>FO P u t&&tM P us cv
 |_,_=>false
theorem Q6 {base:Nat} {sp:Nat->Bool}: ∀(us:List bA) (cv:List TypeId) (aE:List Value) (ds:List (DataW eu)) (bE:List MemPlace),tM P us cv=true->(∀(j:Nat) t v,cv[j]? =some t->aE[j]? =some v->Value.okWide P W .any base t v)->
  DataW.TrodAll enc P W 0 sp true cv aE ds bE-> ∃a:Ac us,aE.length=(wk us a).length/\(∀(i:Nat) (s:aO) (x:Value),(wk us a)[i]? =some s->aE[i]? =some x->cx ρ (fun b=>b < W.heap.size) W s x)/\FP us a<=Rows.uptoBulkAll ds/\Ku us a
 | [],[],aE,ds,bE,_,_,ci=>by
  obtain⟨rfl,rfl,rfl⟩:=trodAll_nil ci;exact⟨(),rfl,fun i s x h=>by simp[wk] at h,aq9 _,trivial⟩
 | [],_::_,_,_,_,h,_,_=>by simp[tM] at h
 |_::_,[],_,_,_,h,_,_=>by simp[tM] at h
 |u::us,t::cv,aE,ds,bE,h,bz,ci=>by
  simp only[tM,vj] at h;obtain⟨v,aE,d,ds,p,q,rfl,rfl,rfl,av,aC⟩:=trodAll_cons ci;obtain⟨a,b0,ca,a3⟩:=acq (ρ:=ρ) h.1 (bz 0 t v rfl rfl) av;obtain⟨b,b1,b2,b3,eA⟩:=Q6 us cv aE ds q h.2 (fun j t v E G=>bz (j+1) t v E G) aC;refine⟨(a,b),by simp[wk,b1],fun i s x E G=>?_,by simp only[FP,Rows.uptoBulkAll];omega,a3,eA⟩
  match i with
  |0=>simp only[wk,ar9,aq8] at E G;subst E G;exact b0
  |i+1=>exact b2 i s x (by simpa[wk] using E) (by simpa using G)
theorem Q7 (laid:laidOutB P=true) {iN:World} {Q8:Nat->Bool}: ∀(us:List bA) (cv:List TypeId) (aE:List Value) (ds:List (DataW eu)) (bE:List MemPlace),tM P us cv=true->
  DataW.TrodAll enc P W 0 (fun _=>true) true cv aE ds bE->Below W.heap.size W iN->(∀x∈bE,x.block < W.heap.size)->(∀x∈bE,Q8 x.block=true)->DataW.TrodAll enc P iN 0 Q8 true cv aE ds bE
 | [],[],aE,ds,bE,_,ci,_,_,_=>by
  obtain⟨rfl,rfl,rfl⟩:=trodAll_nil ci;exact trodAll_mk0
 | [],_::_,_,_,_,h,_,_,_,_=>by simp[tM] at h
 |_::_,[],_,_,_,h,_,_,_,_=>by simp[tM] at h
 |u::us,t::cv,aE,ds,bE,h,ci,O,bx,Cr=>by
  simp only[tM,vj] at h;obtain⟨v,aE,d,ds,p,q,rfl,rfl,rfl,av,aC⟩:=trodAll_cons ci;have E:=h.1;simp only[FO,vj,Nat.blt_eq] at E;exact trodAll_cons_mk (WideElems.Trod_stays laid E.1.2 E.2 av (fun x hx=>O.same (bx x (by simp[hx]))) (fun x hx=>Cr x (by simp[hx]))) (Q7 laid us cv aE ds q h.2 aC O (fun x hx=>bx x (by simp[hx])) (fun x hx=>Cr x (by simp[hx])))
theorem Fn.acr {f:FuncId} {args:List aO} (bd:Fn P f args [] [] (fk true) []) (bW:Array Value) (ap:bW.toList.length=args.length)
  (H: ∀(i:Nat) (s:aO) (x:Value),args[i]? =some s->bW.toList[i]? =some x->cx ρ (fun b=>b < W.heap.size) W s x):Calls P f bW W fun e iN=>e= .returned (.bool true)/\Below W.heap.size W iN:=by
 have h:=bd.2 ρ (fun _ _=>False) (fun b=>b < W.heap.size) W bW.toList (fun b h=>h) (fun c ch J=>by simp[aj] at J) (fun c ch J=>by simp[aj] at J) (fun c b7 ch ch' b J=>by simp[aj] at J) ap H;rw[Array.toArray_toList] at h;refine h.mono ?_;rintro e iN ⟨x,ρ',F',rfl,cE,-,I',-,-,-,-,-,hx⟩;rw[show x= .bool true from hx];exact⟨rfl,cE.below (aq4 _) (by rintro i _ ⟨c,ch,J,_⟩;simp[aj] at J)⟩
end
theorem FQ:ownKnob Tryz.prog.godebug=none:=by kernel_rfl
theorem acs:laidOutB Tryz.prog=true:=by kernel_rfl
set_option maxRecDepth 100000 in
theorem FR {eu:Type} {enc:TypeId×Value->eu} {W:World} {args:Array Value} {ds gs:List (DataW eu)} {jo:List MemPlace} {base:Nat} (f:FuncId) (fn:Func) (s:ChangeSpec) (us:List bA) (n:Nat)
  (jn:fn.resultTypes= #[4]) (Cq:s.vars=[]) (Q9:tM Tryz.prog us fn.params.toList=true)
  (jk: ∀ds:List (DataW eu),ds.length=fn.params.toList.length->(s.fn eu ds).results=[.lit (.bool true)]/\(s.fn eu ds).vars=[]/\(s.fn eu ds).args=ds)
  (lk: ∀(j:Nat) t v,fn.params[j]? =some t->args[j]? =some v->Value.okWide Tryz.prog W .any base t v)
  (cW:DataW.Whole enc Tryz.prog fn.params.toList s.vars false W args.toList ds gs jo) (Z:Rows.uptoBulkAll (ds++gs)<=n)
  (bd: ∀a:Ac us,FP us a<=n->Ku us a->Fn Tryz.prog f (wk us a) [] [] (fk true) []):
  Calls Tryz.prog f args W fun e iN=> ∃v,e= .returned v/\s.post enc Tryz.prog fn false true false false W args v iN:=by
 have Ra:=cW;have bx:=cW.lt;obtain⟨p,q,d5,Rb,rfl,aqc,dR⟩:=cW;rw[Cq] at Rb;obtain⟨rfl,rfl⟩:=trodVars_none Rb;simp only[au0] at Ra Z bx;obtain⟨a,b0,ca,a3,a4⟩:=Q6 (ρ:=fun _=>⟨0,none,0,0⟩) us fn.params.toList args.toList ds p Q9 (fun j t v E G=>lk j t v ay8 (by simpa using G)) d5
 have bZ:ds.length=fn.params.toList.length:=by
  have: ∀(cv:List TypeId) (aE:List Value) (ds:List (DataW eu)) (bE:List MemPlace),DataW.TrodAll enc Tryz.prog W 0 (fun _=>true) true cv aE ds bE->ds.length=cv.length:=fun cv=>by
   induction cv with
   |nil=>intro aE ds bE h;obtain⟨_,rfl,_⟩:=trodAll_nil h;rfl
   |cons t cv bu=>intro aE ds bE h;obtain⟨v,aE,d,ds,p,q,rfl,rfl,rfl,av,aC⟩:=trodAll_cons h;simp[bu _ _ _ aC]
  exact this _ _ _ _ d5
 obtain⟨r1,r2,fV⟩:=jk ds bZ;refine((bd a aw0 a4).acr args b0 ca).mono fun e iN ⟨U,O⟩=>?_
 subst U;refine⟨_,rfl,acn (pa:=p) (pv:=[]) Ra ?_ ?_ ?_ aw2 O ?_⟩
 .intro b sp H;rw[au0,r1,jn];exact trodAll_cons_mk (shut_bool Tryz.underlying4 _) trodAll_mk0
 .intro sp Cr;rw[au0,fV];exact Q7 acs us _ _ _ _ Q9 d5 O (fun x hx=>bx x az5) (fun x hx=>Cr x az5)
 .intro sp Cr;rw[au0,r2,Cq];rfl
 .exact Go.RowKit.ok_one jn rfl (okWide_bool_mk Tryz.underlying4 _)
end
section
set_option maxRecDepth 100000
open Go.ChangeShapes Go.WideShapes Go.ChangeAt Go.RowKit
theorem co {a b:Bool} (h:a=true) (k:b=true):(a&&b)=true:=by rw[h,k];rfl
def Kv:OpenClaim:={program:= "",sum:= "",func:= "",spec:= "" }
theorem fSz:laidOutB Tryz.prog=true:=by kernel_rfl
theorem FT:mapsRowed Tryz.prog=true:=by kernel_rfl
theorem FU:(Kv.plainKeys == Tryz.prog.plainKeys)=true:=by kernel_rfl
theorem FV:Tryz.prog.mayEnter=true:=by kernel_rfl
theorem FW:(Kv.lifted == Tryz.prog.liftsFinal)=true:=by kernel_rfl
theorem FX:(Tryz.prog.make == some Kv.make)=true:=by kernel_rfl
end
section
def Cs:aA1->aA1->aA1
 | [],r=>r
 |x::l,r=>match r.contains x with
  |true=>Cs l r
  |false=>Cs l (x::r)
theorem Kw {a:Nat}: ∀{l r:aA1},a∈Cs l r->a∈l\/a∈r
 | [],r,h=>.inr h
 |x::l,r,h=>by
  unfold Cs at h
  split at h
  .rcases Kw h with h |h
   .exact .inl (aq6 _ h)
   .exact .inr h
  .rcases Kw h with h |h
   .exact .inl (aq6 _ h)
   .rcases aq7.1 h with rfl |h
    .exact .inl (ar4 ..)
    .exact .inr h
def Kx (acc:List aA1):aA1->aA1
 | []=>[]
 |d::l=>Cs (d::acc.getD d []) (Kx acc l)
theorem Rc {acc:List aA1} {a:Nat}: ∀{l:aA1},a∈Kx acc l->a∈l\/ ∃d∈l,a∈acc.getD d []
 | [],h=>by cases h
 |d::l,h=>by
  rcases Kw h with h |h
  .rcases aq7.1 h with rfl |h
   .exact .inl (ar4 ..)
   .exact .inr ⟨d,ar4 ..,h⟩
  .rcases Rc h with h |⟨e,U,h⟩
   .exact .inl (aq6 _ h)
   .exact .inr ⟨e,aq6 _ U,h⟩
def FY:List Oper->List aA1->List aA1
 | [],acc=>acc
 |o::l,acc=>FY l (acc++[Kx acc (qo o)])
theorem Rd: ∀(l:List Oper) (acc Ct:List aA1),acc.length=Ct.length->(∀j a,a∈acc.getD j []->a∈Ct.getD j [])-> ∀j a,a∈(FY l acc).getD j []->a∈(zF l Ct).getD j []
 | [],acc,Ct,_,h=>h
 |o::l,acc,Ct,ap,h=>by
  unfold FY zF;refine Rd l _ _ (by simp[ap]) ?_;intro j a ha;rw[ar2] at ha⊢;rcases Nat.lt_trichotomy j acc.length with bx |sz |uF
  .rw[as8 bx,<-ar2] at ha;rw[as8 (ap▸bx),<-ar2];exact h j a ha
  .subst sz;rw[at4 (aq4 _)] at ha;rw[at4 (Nat.le_of_eq ap.symm)];simp only[Nat.sub_self,ar9,Option.getD_some] at ha;simp only[ap,Nat.sub_self,ar9,Option.getD_some,as4,List.mem_flatMap];rcases Rc ha with ha |⟨d,H,ha⟩
   .exact .inl ha
   .exact .inr ⟨d,H,h d a ha⟩
  .rw[au9 ax4] at ha;simp at ha
theorem Re {all:List Oper} {an Rf:List aA1} (h: ∀j a,a∈an.getD j []->a∈Rf.getD j []): ∀l:List (Oper×kU×Nat),uy all an l=true->uy all Rf l=true
 | [],_=>rfl
 |(o,n,i)::l,ae=>by
  simp only[uy,vj] at ae⊢;refine⟨as9.2 fun x hx=>?_,Re h l ae.2⟩;have:=as9.1 ae.1 x hx;obtain⟨p,m,j⟩:=x;simp only[Bool.or_eq_true,vj,at2] at this⊢;exact this.imp (fun g=>⟨h _ _ g.1,g.2⟩) id
def Rg (K:aX) (B:ay) (dg:List Oper) (gu:List kU):Bool:=
 let es:=gu.reverse
 (dg.zipIdx.all fun(o,i)=>(qo o).all fun d=>Nat.blt d i)&&(es.all fun n=>n.e.bb.all fun c=>ur c K&&kw c B)&&uy dg (FY dg []) ((dg.zip es).zipIdx.map fun((o,n),i)=>(o,n,i))
theorem eM {K:aX} {B:ay} {dg:List Oper} {gu:List kU} (h:Rg K B dg gu=true):vW K B dg gu=true:=by
 simp only[Rg,vj] at h;simp only[vW,vj];exact⟨h.1,Re (Rd dg [] [] rfl fun _ _ h=>h) _ h.2⟩
end
section
def cA (P:Program) (f:FuncId) (args:List aO) (aI:ay) (bb:aA1) {X:Type} (res:X->aO) (aN:X->ay):Prop:=
 jz P f=true/\ ∀(ρ:Nat->bo) (F:Nat->Nat->Prop) (I:Nat->Prop) (w:World) (bW:List Value),
  (∀b,I b->b < w.heap.size)->(∀c ch,aj aI c=some ch->Holds ρ I (F c) w (ρ c) ch)->(∀c ch,aj aI c=some ch-> ∀b,F c b->b < w.heap.size/\ ¬I b)->
  (∀c b7 ch ch' b,aj aI c=some ch->aj aI b7=some ch'->c≠b7->F c b-> ¬F b7 b)->
  bW.length=args.length->(∀(i:Nat) (v:aO) (x:Value),args[i]? =some v->bW[i]? =some x->cx ρ I w v x)->
  Calls P f bW.toArray w fun e w'=> ∃(g:X) (x:Value) (ρ':Nat->bo) (F':Nat->Nat->Prop),e= .returned x/\cP (fun b=> ∃c ch,aj aI c=some ch/\F c b) w w'/\(∀c,c∉bb->ρ' c=ρ c)/\
   ∃I':Nat->Prop,cj I w I' w'/\(∀b,I' b->b < w'.heap.size/\(I b\/(∃c ch,aj aI c=some ch/\F c b)\/w.heap.size<=b))/\
   (∀c ch,aj (aN g) c=some ch->Holds ρ' I' (F' c) w' (ρ' c) ch)/\
   (∀c ch,aj (aN g) c=some ch-> ∀b,F' c b->b < w'.heap.size/\ ¬I' b/\((∃hy cB,aj aI hy=some cB/\F hy b)\/w.heap.size<=b))/\
   (∀c b7 ch ch' b,aj (aN g) c=some ch->aj (aN g) b7=some ch'->c≠b7->F' c b-> ¬F' b7 b)/\cx ρ' I' w' (res g) x
theorem Fn.x {P:Program} {f:FuncId} {args:List aO} {aI:ay} {bb:aA1} {res:aO} {aN:ay} (h:Fn P f args aI bb res aN):cA P f args aI bb (fun _:Unit=>res) (fun _=>aN):=
 ⟨h.1,fun ρ F I w bW b0 ca a3 a4 a5 gD=>(h.2 ρ F I w bW b0 ca a3 a4 a5 gD).mono fun e w' q=>⟨(),q⟩⟩
section
variable {P:Program} {aU:dl} {N:Nat} {ids:aA1} {o:Oper} {K:aX} {B:ay}
theorem fa.back {aI:ay} {bb:aA1} {r:aO} {aN:ay} (h2:kT B aI) (Ky:sr ids K B bb=true) (n4:mQ aI bb aN=true) {C:fi} {a:Act} {w w':World} {ρ ρ':Nat->bo} {F F':Nat->Nat->Prop} {I':Nat->Prop} {x:Value} {dst:Option Nat}
  (hn:a.tmps.size=N) (H:a.defers=C.ds.map xo) (ar:Mem ids C B ρ F w) (au:ey K ρ (b5 C B F w) a w) (bx: ∀d,dst=some d->d < N)
  (cE:cP (fun b=> ∃c ch,aj aI c=some ch/\F c b) w w') (dr: ∀c,c∉bb->ρ' c=ρ c) (gL: ∀b,I' b->b < w'.heap.size/\(b5 C B F w b\/(∃c ch,aj aI c=some ch/\F c b)\/w.heap.size<=b))
  (c0: ∀c ch,aj aN c=some ch->Holds ρ' I' (F' c) w' (ρ' c) ch) (aq: ∀c ch,aj aN c=some ch-> ∀b,F' c b->b < w'.heap.size/\ ¬I' b/\((∃hy cB,aj aI hy=some cB/\F hy b)\/w.heap.size<=b))
  (ip: ∀c b7 ch ch' b,aj aN c=some ch->aj aN b7=some ch'->c≠b7->F' c b-> ¬F' b7 b) (dx:cx ρ' I' w' r x):fa N ids C (mO dst r K) (hl (iL aI aN) B) (a.put dst x) w':=by
 have e4: ∀{c ch},aj aI c=some ch->aj B c=some ch:=fun {c ch} J=>kz h2 J
 have o4: ∀c∈bb,(∀s,(dI K s).has c=false)/\aj B c=none/\(∀d ch,aj B d=some ch->ch.has c=false)/\c∉ids:=fun c J=>kV (Ft Ky c J)
 have B4: ∀c,aj (hl (iL aI aN) B) c=(match aj aN c with |some ch=>some ch |none=>if c∈cm aI then none else aj B c):=Fs aI aI bb aN B n4
 have pQ: ∀c ch,aj (hl (iL aI aN) B) c=some ch->aj aN c=some ch\/(aj aN c=none/\c∉cm aI/\aj B c=some ch):=fun c ch J=>by
  rw[B4] at J
  cases O:aj aN c with
  |some ch'=>rw[O] at J;exact .inl J
  |none=>
   rw[O] at J;simp only at J
   split at J
   .cases J
   .rename_i Z;exact .inr ⟨rfl,Z,J⟩
 let cN:Nat->Nat->Prop:=fun c=>if c∈cm aN then F' c else F c
 have i6: ∀c ch,aj aN c=some ch->cN c=F' c:=fun c ch J=>if_pos (gw.2 ⟨ch,J⟩)
 have B5: ∀c,aj aN c=none->cN c=F c:=fun c J=>if_neg (fun Z=>by
  obtain⟨ch,h⟩:=gw.1 Z;rw[J] at h;cases h)
 have kA: ∀c ch,aj aN c=some ch->c∈cm aI\/c∈bb:=fun c ch J=>J0 n4 (gw.2 ⟨ch,J⟩)
 have uK: ∀c ch,aj (hl (iL aI aN) B) c=some ch->(c∈cm aI\/c∈bb)->aj aN c=some ch:=fun c ch J bP=>by
  rcases pQ c ch J with h |⟨E,G,al⟩
  .exact h
  .rcases bP with h |h
   .exact absurd h G
   .rw[(o4 c h).2.1] at al;cases al
 have qt:cj I' w' (b5 C (hl (iL aI aN) B) cN w') w':=fun b O=>by
  obtain⟨af,ao⟩:=gL b O;refine⟨⟨af,?_,fun c ch J bd=>?_⟩,rfl⟩
  .rcases ao with ao |⟨c,ch,ao,bm⟩ |ao
   .exact ao.2.1
   .exact .inr ((ar.own c ch (e4 ao) b bm).2)
   .exact .inr (.inr (ar.fresh ao))
  .rcases pQ c ch J with h |⟨E,G,al⟩
   .rw[i6 c ch h] at bd;exact(aq c ch h b bd).2.1 O
   .rw[B5 c E] at bd;rcases ao with ao |⟨d,ch',ao,bm⟩ |ao
    .exact ao.2.2 c ch al bd
    .exact ar.fj d c ch' ch b (e4 ao) al (fun e=>G (e▸gw.2 ⟨ch',ao⟩)) bm bd
    .have:=(ar.own c ch al b bd).1;omega
 obtain⟨bP,aZ⟩:=ar.step (B':=hl (iL aI aN) B) (ρ':=ρ') (F':=cN) (w':=w') (fun c=>c∈cm aI\/c∈bb) (fun c=>c∈bb)
  (cE.mono fun b _ ⟨c,ch,E,G⟩=>⟨c,ch,e4 E,.inl (gw.2 ⟨ch,E⟩),G⟩)
  (fun c ch J hn=>by
   rcases pQ c ch J with h |⟨_,_,al⟩
   .exact absurd (kA c ch h) hn
   .exact al)
  dr
  (fun c hn=>by
   cases O:aj aN c with
   |none=>exact B5 c O
   |some ch=>exact absurd (kA c ch O) hn)
  (fun c J hn=>(o4 c hn).2.2.2 J) (fun c h=>.inr h)
  (fun c ch J _ d H hn=>by rw[(o4 d hn).2.2.1 c ch J] at H;cases H)
  (fun c ch J bP _=>by
   have O:=uK c ch J bP;rw[i6 c ch O];exact Holds.ck qt (fun _ _=>rfl) (aq4 _) ch (fun _ _=>rfl) (c0 c ch O))
  (fun c ch J bP b O=>by
   have xH:=uK c ch J bP;rw[i6 c ch xH] at O;obtain⟨af,_,bm⟩:=aq c ch xH b O;refine⟨af,bm.imp (fun⟨hy,cB,E,G⟩=>⟨hy,cB,e4 E,.inl (gw.2 ⟨cB,E⟩),G⟩) id⟩)
  (fun c b7 ch ch' b J cQ kA iY a6 O dt=>by
   have E:=uK c ch J kA;have G:=uK b7 ch' cQ iY;rw[i6 c ch E] at O;rw[i6 b7 ch' G] at dt;exact ip c b7 ch ch' b E G a6 O dt)
 refine⟨kq.trans hn,kr.trans H,ρ',cN,bP,(au.mono aZ fun s d H=>dr d fun hn=>by rw[(o4 d hn).1 s] at H;cases H).ku (fun e U=>by rw[hn];exact bx e U) (cx.mono qt _ _ (fun _ _=>rfl) dx)⟩
theorem acu {f:FuncId} {args:List aO}
  (uG: ∀(ρ:Nat->bo) (I:Nat->Prop) (a:Act) (w:World),ey K ρ I a w-> ∃bW:List Value,(jz P f=true->(execOp a.eval o).run P w= .ok (.enter f bW.toArray) w)/\bW.length=args.length/\ ∀(i:Nat) (v:aO) (x:Value),args[i]? =some v->bW[i]? =some x->cx ρ I w v x)
  {X:Type} {aI:ay} {bb:aA1} {res:X->aO} {aN:X->ay} (acv:cA P f args aI bb res aN) (h2:kT B aI) (Ky:sr ids K B bb=true) (bz: ∀g,(sr ids K B bb&&mQ aI bb (aN g))=true)
  {C:fi} {a:Act} {w:World} (ax:fa N ids C K B a w) (bx: ∀d,o.dst=some d->d < N) {fO:Act->World->Prop} {Q:Exit->Act->World->Prop} (dq: ∀g a' w',fa N ids C (mO o.dst (res g) K) (hl (iL aI (aN g)) B) a' w'->fO a' w'):o.wp P a w fO Q:=by
 obtain⟨f3,jk⟩:=acv;obtain⟨hn,H,ρ,F,ar,au⟩:=ax;have e4: ∀{c ch},aj aI c=some ch->aj B c=some ch:=fun {c ch} J=>kz h2 J
 obtain⟨bW,dW,ry,tI⟩:=uG ρ _ a w au
 have J:=jk ρ F (b5 C B F w) w bW (fun b O=>O.1) (fun c ch J=>ar.holds c ch (e4 J)) (fun c ch J b O=>⟨(ar.own c ch (e4 J) b O).1,fun a2=>a2.2.2 c ch (e4 J) O⟩)
  (fun c b7 ch ch' b E G=>ar.fj c b7 ch ch' b (e4 E) (e4 G)) ry tI
 unfold Oper.wp;rw[dW f3,Oper.upon_enter];refine J.mono ?_;rintro e w' ⟨g,x,ρ',F',rfl,cE,dr,I',jl,gL,c0,aq,ip,dx⟩;exact dq g _ _ (fa.back h2 Ky (vj _ _▸bz g).2 hn H ar au bx cE dr gL c0 aq ip dx)
theorem cA.of (bl:eh P aU) {f:FuncId} {fn:Func} {c:Code} (stops:aA1) (args:List aO) (aI:ay) (bb:aA1) {X:Type} (res:X->aO) (aN:X->ay) (hf:P.funcs[f]? =some fn) (O:fn.body=some c) (hn:fn.ntmps=N) (f3:jz P f=true) (J:jF P N c=true) (fG:Nat.ble args.length N=true) (cp:zT P aU N (cm aI)) {jm:List ResultVar} (xN:fn.results.toList=jm)
  (h:jA P aU N (cm aI) stops c (o5 0 args) aI (fun e K B=> ∃g,Fw aU (cm aI) bb jm (res g) (aN g) e K B)):cA P f args aI bb res aN:=by
 refine⟨f3,?_⟩;intro ρ F I w bW a2 c0 bd eG bZ dx;have fG:=Nat.le_of_ble_eq_true fG;refine Qq (r:=none) (n:=0) (callsIn_of_wp_marks hf O trivial ?_)
 let C:fi:=⟨w,I,fun b=> ∃c ch,aj aI c=some ch/\F c b,ρ,[]⟩
 have sE:cj I w (b5 C aI F w) w:=fun b O=>⟨⟨a2 b O,.inl O,fun c ch J qv=>(bd c ch J b qv).2 O⟩,rfl⟩
 have ar:Mem (cm aI) C aI ρ F w:=⟨cP.refl _ _,fun c ch J=>Holds.ck sE (fun _ _=>rfl) (aq4 _) ch (fun _ _=>rfl) (c0 c ch J),fun c ch J b O=>⟨(bd c ch J b O).1,.inl ⟨c,ch,J,O⟩⟩,eG,fun c _=>rfl,au7,fun b O=>O.elim (a2 b) fun⟨c,ch,J,Ce⟩=>(bd c ch J b Ce).1,fun D cp=>by cases cp⟩;refine zU bl cp stops c _ _ _ J h none (fun _=>rfl) C _ ?_ _ w ⟨by simp[bZ,hn];omega,rfl,ρ,F,ar,fun s=>?_⟩
 .intro e K' B' ds _ U a' w' eb;obtain⟨g,U⟩:=U
  cases e with
  |ex i=>exact U.elim
  |_=>
   obtain⟨Qz,jG,r,fZ,aC,ae,h2,pR⟩:=U;refine Qy eb fun w' eb=>?_
   obtain⟨hC,kX,ρ',F',bP,Cf⟩:=fZ N C _ w' eb;obtain⟨aE,dW,hD⟩: ∃aE:List Value,(jm.mapM (tK a'.tmps)).run P w'= .ok aE w'/\iX ρ' (b5 C jG F' w') w' r aE:=Fu bl bP Cf jm r aC
   have jn: ∃x,(results fn a'.tmps).run P w'= .ok x w'/\cx ρ' (b5 C jG F' w') w' (J8 r) x:=by
    have E:fn.results=jm.toArray:=by rw[<-xN]
    have G:(fn.results.mapM (tK a'.tmps)).run P w'= .ok (List.toArray aE) w':=by
     rw[E,List.mapM_toArray];simp[dW]
    have al:results fn a'.tmps=(do let aE<-fn.results.mapM (tK a'.tmps);pure (if h:aE.size=1 then aE[0] else .tuple aE)):=rfl;rw[al]
    match r,aE,hD,G with
    | [],_,e,G=>rw[show _=[] from e] at G;exact⟨.tuple #[],by simp[G],[],rfl,rfl⟩
    | [x],_,⟨v,s,e,aA,ax⟩,G=>
     have ax:s=[]:=ax;subst ax e;exact⟨v,by simp[G],aA⟩
    |x::y::r,_,⟨v,s,e,aA,v2,bF,ao,uM,fR⟩,G=>
     subst ao e;exact⟨.tuple (List.toArray (v::v2::bF)),by simp[G],_,rfl,v,_,rfl,aA,v2,bF,rfl,uM,fR⟩
   obtain⟨x,hx,sC⟩:=jn;have sC:=wa ae sC;simp only[vj] at pR
   let uN:Nat->bo:=fun c=>if c∈bb then ρ' c else ρ c
   have rA: ∀c,c∈cm aI++bb->uN c=ρ' c:=fun c J=>by
    show(if c∈bb then ρ' c else ρ c)=ρ' c
    split
    .rfl
    .rename_i hn;rcases as4.1 J with h |h
     .exact(bP.dZ c h).symm
     .exact absurd h hn
   refine⟨x,hx,g,x,uN,F',rfl,bP.fr,fun c J=>if_neg J,b5 C jG F' w',?_,fun b O=>⟨O.1,?_⟩,?_,?_,?_,?_⟩
   .intro b O;have wb: ¬C.qn b:=fun⟨c,ch,E,G⟩=>(bd c ch E b G).2 O
    refine⟨⟨Nat.lt_of_lt_of_le (a2 b O) bP.fr.size,.inl O,fun c ch J qv=>?_⟩,bP.fr.block b (a2 b O) wb⟩;rcases(bP.own c ch J b qv).2 with h |h
    .exact wb h
    .have:=a2 b O;exact absurd h.1 (Nat.not_le.2 this)
   .rcases O.2.1 with h |h |h
    .exact .inl h
    .exact .inr (.inl h)
    .exact .inr (.inr h.1)
   .intro c ch J
    have Z:c∈cm aI++bb:=by
     have:=as9.1 pR.2 c (gw.2 ⟨ch,J⟩);simpa only[at2] using this
    rw[rA c Z];exact Holds.ck (cj.refl _ _) (fun _ _=>rfl) (aq4 _) ch (fun d H=>rA d (ba.kB (xM pR.1.2 J) H)) (bP.holds c ch (kz h2 J))
   .intro c ch J b O;have cQ:=kz h2 J;exact⟨(bP.own c ch cQ b O).1,fun aG=>aG.2.2 c ch cQ O,(bP.own c ch cQ b O).2.imp id fun x=>x.1⟩
   .exact fun c b7 ch ch' b E G=>bP.fj c b7 ch ch' b (kz h2 E) (kz h2 G)
   .exact cx.mono (cj.refl _ _) (res g) x (fun c J=>rA c (aO.kB pR.1.1 J)) sC
 .rw[Cb];simp only[aq9,if_true,Nat.sub_zero]
  cases ax:args[s]? with
  |none=>trivial
  |some v=>
   have bx:s < bW.length:=by rw[bZ];exact(ar1.1 ax).1
   simp only[Option.getD_some];have hx:bW[s]? =some bW[s]:=oj bx;have:=cx.mono sE v _ (fun _ _=>rfl) (dx s v _ ax hx);simpa[Array.getElem?_append,bx,hx] using this
theorem Rh {ev:Operand->Value} {f:FuncId} {c:Call} {x:Operand} {xs:List Operand} {p:Value} {w:World} (hf:jz P f=true) (ag:o.op= .call c) (E:c.callee= .value x) (G:c.args.toList=xs) (uJ:ev x= .func (.func f) #[p] #[]):(execOp ev o).run P w= .ok (.enter f (p::xs.map ev).toArray) w:=by
 have fG:c.args=xs.toArray:=by rw[<-G]
 obtain⟨sA,args,cv⟩:=c;simp only at E fG;subst E fG;unfold jz at hf
 split at hf
 .rename_i fn jk;simp only[Bool.not_eq_true',Bool.or_eq_false_iff,beq_eq_false_iff_ne] at hf;have G: ¬fn.body=none:=fun e=>by rw[e] at hf;simp at hf
  simp[execOp,ag,resolve,invoke,uJ,Deferred.ofValue,callFunc,go_sem,jk];rw[if_neg hf.1,if_neg G]
 .cases hf
def Kz (K:aX) (o:Oper):Option (FuncId×List aO):=match o.op with
 | .call c=>match c.callee with
  | .value (.func f)=>some (f,c.args.toList.map (a7 K))
  | .value (.tmp t)=>match dI K t with
   | .c (.one (.cY f l))=>some (f,c.args.toList.map (a7 K)++oW l)
   | .c (.one (.bM (.func (.func f) bs cs)))=>match bs.toList,cs.toList with
    | [.pointer (some ⟨b,0,none⟩)],[]=>some (f,.c (.one (.d (.aL (some b))))::c.args.toList.map (a7 K))
    |_,_=>none
   |_=>none
  |_=>none
 |_=>none
def acw (P:Program) (f:FuncId) (args:List aO) (ids:aA1) (K:aX) (B:ay) (k:aO->fY->Prop):Prop:=
 ∃(X:Type) (aI:ay) (bb:aA1) (res:X->aO) (aN:X->ay),cA P f args aI bb res aN/\kT B aI/\sr ids K B bb=true/\(∀g,(sr ids K B bb&&mQ aI bb (aN g))=true)/\ ∀g,oV (res g) fun r=>k r ⟨cm aI,bb,iL aI (aN g)⟩
def xT (P:Program) (ids:aA1) (o:Oper) (K:aX) (B:ay) (S:aO->fY->Prop):Prop:=
 ∀(N:Nat) (C:fi) (a:Act) (w:World),fa N ids C K B a w->(∀d,o.dst=some d->d < N)-> ∀(fO:Act->World->Prop) (Q:Exit->Act->World->Prop),(∀v e a' w',S v e->fa N ids C (mO o.dst v K) (hl e.hL B) a' w'->fO a' w')->o.wp P a w fO Q
def acx (o:Oper):Bool:=match o.op with
 | .next _ _=>true
 | .binOp .eql _ _ (.const (.slice none 0 0)) _=>true
 | .call c=>match c.callee with
  | .builtin .delete=>true
  |_=>false
 |_=>false
def xU (P:Program) (l:Nat) (args:List aO) (aI:ay) {X:Type} (res:X->aO) (aN:X->ay):Prop:=
 ∀(ρ:Nat->bo) (F:Nat->Nat->Prop) (I:Nat->Prop) (w:World) (bW:List Value),
  (∀b,I b->b < w.heap.size)->(∀c ch,aj aI c=some ch->Holds ρ I (F c) w (ρ c) ch)->(∀c ch,aj aI c=some ch-> ∀b,F c b->b < w.heap.size/\ ¬I b)->
  (∀c b7 ch ch' b,aj aI c=some ch->aj aI b7=some ch'->c≠b7->F c b-> ¬F b7 b)->
  bW.length=args.length->(∀(i:Nat) (v:aO) (x:Value),args[i]? =some v->bW[i]? =some x->cx ρ I w v x)->
  ∃f tmps assign body,(Instr.yield l bW.toArray).run P w= .ok (.round l f tmps assign body) w/\RoundIn (oX none) 0 P l f tmps assign body w fun e w'=> ∃(g:X) (x:Value) (ρ':Nat->bo) (F':Nat->Nat->Prop),e= .returned x/\cP (fun b=> ∃c ch,aj aI c=some ch/\F c b) w w'/\(∀c,ρ' c=ρ c)/\
   ∃I':Nat->Prop,cj I w I' w'/\(∀b,I' b->b < w'.heap.size/\(I b\/(∃c ch,aj aI c=some ch/\F c b)\/w.heap.size<=b))/\
   (∀c ch,aj (aN g) c=some ch->Holds ρ' I' (F' c) w' (ρ' c) ch)/\
   (∀c ch,aj (aN g) c=some ch-> ∀b,F' c b->b < w'.heap.size/\ ¬I' b/\((∃hy cB,aj aI hy=some cB/\F hy b)\/w.heap.size<=b))/\
   (∀c b7 ch ch' b,aj (aN g) c=some ch->aj (aN g) b7=some ch'->c≠b7->F' c b-> ¬F' b7 b)/\cx ρ' I' w' (res g) x
def FZ (K:aX) (o:Oper):Option (Nat×List aO):=match o.op with
 | .call c=>match c.callee with
  | .value (.tmp t)=>match dI K t with
   | .c (.one (.bM (.func (.yield l) fs cs)))=>match fs.toList,cs.toList with
    | [],[]=>some (l,c.args.toList.map (a7 K))
    |_,_=>none
   |_=>none
  |_=>none
 |_=>none
def acy (P:Program) (l:Nat) (args:List aO) (B:ay) (k:aO->fY->Prop):Prop:=
 ∃(X:Type) (aI:ay) (res:X->aO) (aN:X->ay),xU P l args aI res aN/\kT B aI/\(∀g,mQ aI [] (aN g)=true)/\ ∀g,oV (res g) fun r=>k r ⟨cm aI,[],iL aI (aN g)⟩
theorem acz {ev:Operand->Value} {l:Nat} {c:Call} {x:Operand} {xs:List Operand} {w:World} (ag:o.op= .call c) (E:c.callee= .value x) (G:c.args.toList=xs) (uJ:ev x= .func (.yield l) #[] #[]):(execOp ev o).run P w=(Instr.yield l (xs.map ev).toArray).run P w:=by
 have fG:c.args=xs.toArray:=by rw[<-G]
 obtain⟨sA,args,cv⟩:=c;simp only at E fG;subst E fG;simp[execOp,ag,resolve,invoke,uJ,Deferred.ofValue]
theorem acA {l:Nat} {xs:List aO} (h:FZ K o=some (l,xs)) {ρ:Nat->bo} {I:Nat->Prop} {a:Act} {w:World} (au:ey K ρ I a w): ∃bW:List Value,(execOp a.eval o).run P w=(Instr.yield l bW.toArray).run P w/\(∀c,o.op≠ .defer c)/\bW.length=xs.length/\ ∀(i:Nat) (v:aO) (x:Value),xs[i]? =some v->bW[i]? =some x->cx ρ I w v x:=by
 unfold FZ at h
 split at h
 .rename_i c ag
  split at h
  .rename_i t J
   split at h
   .rename_i l' fs cs ap
    split at h
    .rename_i v7 f0;injection h with h
     injection h with E G
     subst E G;have v7:fs= #[]:=by rw[<-Array.toList_inj];exact v7
     have f0:cs= #[]:=by rw[<-Array.toList_inj];exact f0
     subst v7 f0;have aA:a.eval (.tmp t)= .func (.yield l') #[] #[]:=au.ev (x:=.tmp t) (s:=.c (.one (.bM (.func (.yield l') #[] #[])))) ap;have dR: ∀d,o.op≠ .defer d:=fun d e=>by rw[ag] at e;cases e
     refine⟨c.args.toList.map a.eval,?_,dR,aw2,fun i v x aA hx=>?_⟩
     .exact acz ag J rfl aA
     .rw[as6] at aA hx;obtain⟨aB,aR,rfl⟩:=at6.1 aA;rw[aR] at hx;simp only[au5,aq8] at hx;subst hx;exact au.get aB
    .cases h
   .cases h
  .cases h
 .cases h
theorem acB {l:Nat} {args:List aO} (ag:FZ K o=some (l,args)) {X:Type} {aI:ay} {res:X->aO} {aN:X->ay} (aD:xU P l args aI res aN) (h2:kT B aI) (bz: ∀g,mQ aI [] (aN g)=true)
  {C:fi} {a:Act} {w:World} (ax:fa N ids C K B a w) (bx: ∀d,o.dst=some d->d < N) {r:Option Nat} {fO:Act->World->Prop} {Q:Exit->Act->World->Prop} (dq: ∀g a' w',fa N ids C (mO o.dst (res g) K) (hl (iL aI (aN g)) B) a' w'->fO a' w'):o.wpIn (oX r) 0 P a w fO Q:=by
 obtain⟨hn,H,ρ,F,ar,au⟩:=ax;have e4: ∀{c ch},aj aI c=some ch->aj B c=some ch:=fun {c ch} J=>kz h2 J
 obtain⟨bW,dW,dR,ry,tI⟩:=acA (P:=P) (w:=w) ag au
 obtain⟨f,tmps,assign,body,uV,Cu⟩:=aD ρ F (b5 C B F w) w bW (fun b O=>O.1) (fun c ch J=>ar.holds c ch (e4 J)) (fun c ch J b O=>⟨(ar.own c ch (e4 J) b O).1,fun a2=>a2.2.2 c ch (e4 J) O⟩)
  (fun c b7 ch ch' b E G=>ar.fj c b7 ch ch' b (e4 E) (e4 G)) ry tI
 refine⟨fun _ _=>trivial,?_⟩;rw[Oper.semAt_eq _ _ _ dR,dW,uV,Oper.uponIn_round];refine⟨fun ax=>absurd ax aw2,RoundIn.mono (F:=oX r) (n:=0 - 1) Cu ?_⟩;rintro e w' ⟨g,x,ρ',F',rfl,cE,dr,I',jl,gL,c0,aq,ip,dx⟩;exact dq g _ _ (fa.back h2 rfl (bz g) hn H ar au bx cE (fun c _=>dr c) gL c0 aq ip dx)
def acC (K:aX) (o:Oper):Bool:=match o.op with
 | .mapUpdate _ _ _ v=>match a7 K v with
  | .c (.one (.ptr _ 0))=>true
  |_=>false
 |_=>false
def KA (P:Program) (aU:dl) (ids:aA1) (o:Oper) (K:aX) (B:ay) (k:aO->fY->Prop):Prop:=match Kz K o with
 |some (f,xs)=>acw P f xs ids K B k
 |none=>match FZ K o with
  |some (l,xs)=>acy P l xs B k
  |none=>match acx o||acC K o with
   |true=> ∃S:aO->fY->Prop,xT P ids o K B S/\ ∀v e,S v e->oV v fun v=>k v e
   |false=>E8 P aU ids o K B k
noncomputable def KB (P:Program) (aU:dl) (ids:aA1) (all:List Oper) (o:Oper) (l:List Oper) (bu:aX->ay->Prop) (K:aX) (B:ay):Prop:=
 match uw all K o.guard with
 |none=>False
 |some false=>match o.dst with
  |some d=>bu ((d,.undef)::K) B
  |none=>bu K B
 |some true=>KA P aU ids o K B fun v e=>match o.dst with
  |none=>xq e.hL B fun B=>bu K B
  |some d=>match E9 (all.length - l.length - 1) l,v with
   |true,.c (.one (.d (.bool b)))=>xq e.hL B fun B=>(b=true->bu ((d,.c (.one (.d (.lit true))))::K) B)/\(b=false->bu ((d,.c (.one (.d (.lit false))))::K) B)
   |_,v=>xq e.hL B fun B=>bu ((d,v)::K) B
noncomputable def F0 (P:Program) (aU:dl) (ids:aA1) (all l:List Oper) (K:aX) (B:ay) (k:aX->ay->Prop):Prop:=
 List.rec (motive:=fun _=>aX->ay->Prop) k (fun o l bu K B=>KB P aU ids all o l bu K B) l K B
theorem acD {all l:List Oper} {k:aX->ay->Prop}:F0 P aU ids all (o::l) K B k=KB P aU ids all o l (fun K B=>F0 P aU ids all l K B k) K B:=rfl
theorem acE {f:FuncId} {xs:List aO} (h:Kz K o=some (f,xs)) (ρ:Nat->bo) (I:Nat->Prop) (a:Act) (w:World) (au:ey K ρ I a w): ∃bW:List Value,(jz P f=true->(execOp a.eval o).run P w= .ok (.enter f bW.toArray) w)/\bW.length=xs.length/\ ∀(i:Nat) (v:aO) (x:Value),xs[i]? =some v->bW[i]? =some x->cx ρ I w v x:=by
 unfold Kz at h
 split at h
 .rename_i c ag
  split at h
  .rename_i tN J;injection h with h
   injection h with E G
   subst E G;refine⟨c.args.toList.map a.eval,fun f3=>Qg f3 ag J rfl rfl,aw2,fun i v x aA hx=>?_⟩;rw[as6] at aA hx;obtain⟨aB,aR,rfl⟩:=at6.1 aA;rw[aR] at hx;simp only[au5,aq8] at hx;subst hx;exact au.get aB
  .rename_i t J
   split at h
   .rename_i tN l ap;injection h with h
    injection h with E G
    subst E G;have aA:=au t;rw[ap] at aA;obtain⟨aE,e,xV⟩:=aA;obtain⟨cC,cF⟩:=hZ.bW l aE xV;refine⟨c.args.toList.map a.eval++aE,fun f3=>J1 f3 ag J rfl e,by simp[cC],fun i v x aA hx=>?_⟩
    by_cases aG:i < c.args.toList.length
    .rw[as8 (by simpa using aG)] at aA hx;rw[as6] at aA hx;obtain⟨aB,aR,rfl⟩:=at6.1 aA;rw[aR] at hx;simp only[au5,aq8] at hx;subst hx;exact au.get aB
    .rw[at4 (by simpa using aG)] at aA hx;simp only[ar7] at aA hx;exact cF _ v x aA hx
   .rename_i tN bs cs ap
    split at h
    .rename_i b O ei;injection h with h
     injection h with E G
     subst E G
     have aA:a.eval (.tmp t)= .func (.func tN) bs cs:=by
      have av:=au t;rw[ap] at av;exact av
     have af:bs= #[.pointer (some ⟨b,0,none⟩)]:=Array.toList_inj.1 O;have ao:cs= #[]:=Array.toList_inj.1 ei;subst af ao;refine⟨.pointer (some ⟨b,0,none⟩)::c.args.toList.map a.eval,fun f3=>Rh f3 ag J rfl aA,aw2,fun i v x aA hx=>?_⟩
     cases i with
     |zero=>
      simp only[ar9,aq8] at aA hx;subst aA hx;rfl
     |succ i=>
      rw[av7,as6] at aA hx;obtain⟨aB,aR,rfl⟩:=at6.1 aA;rw[aR] at hx;simp only[au5,aq8] at hx;subst hx;exact au.get aB
    .cases h
   .cases h
  .cases h
 .cases h
theorem acF (bl:eh P aU) (dR: ∀c,o.op≠ .defer c) (r:Option Nat) {k:aO->fY->Prop} (h:KA P aU ids o K B k) {C:fi} {a:Act} {w:World} (ax:fa N ids C K B a w) (bx: ∀d,o.dst=some d->d < N) {fO:Act->World->Prop} {Q:Exit->Act->World->Prop} (dq: ∀v e a' w',k v e->fa N ids C (mO o.dst v K) (hl e.hL B) a' w'->fO a' w'):o.wpIn (oX r) 0 P a w fO Q:=by
 unfold KA at h
 split at h
 .rename_i f xs J;obtain⟨X,aI,bb,res,aN,E,G,al,aW,bG⟩:=h;refine B9 dR (acu (acE J) E G al aW ax bx fun g a' w' eb=>?_);have bG:=bG g;rw[sq] at bG;exact dq _ _ _ _ bG eb
 .split at h
  .rename_i l xs J;obtain⟨X,aI,res,aN,E,G,al,aW⟩:=h;refine acB J E G al ax bx fun g a' w' eb=>?_
   have aW:=aW g;rw[sq] at aW;exact dq _ _ _ _ aW eb
  .split at h
   .obtain⟨S,au,h⟩:=h;refine B9 dR (au N C a w ax bx fO Q fun v e a' w' aA eb=>?_);have h:=h v e aA;rw[sq] at h;exact dq _ _ _ _ h eb
   .obtain⟨v,e,h,aq,hf⟩:=J3 bl h;exact B9 dR (aq K B (fun _ _=>rfl) (fun _ _=>rfl) hf C a w ax bx fO Q fun a' w' fR=>dq _ _ _ _ h fR)
theorem xW (bl:eh P aU) (all:List Oper): ∀(l:List Oper) (K:aX) (B:ay) (k:aX->ay->Prop),tJ N l=true->F0 P aU ids all l K B k-> ∀(C:fi) (a:Act) (w:World),fa N ids C K B a w->
  ∀(r:Option Nat) (Q:Exit->Act->World->Prop),(∀K' B',k K' B'-> ∀a' w',fa N ids C K' B' a' w'->Q .normal a' w')->wpListIn (oX r) 0 P all.toArray Q l a w
 | [],K,B,k,_,h,C,a,w,ax,r,Q,Z=>wpListIn_nil (Z K B h a w ax)
 |o::l,K,B,k,H,h,C,a,w,ax,r,Q,Z=>by
  simp only[tJ,vj] at H;obtain⟨⟨v8,dR⟩,dL⟩:=H;have dR:=J5 dR;have bx: ∀d,o.dst=some d->d < N:=fun d e=>by rw[e] at v8;simpa[Nat.blt_eq] using v8
  have eb:=ax;obtain⟨_,_,ρ,F,ar,au⟩:=eb;rw[acD] at h;unfold KB at h;simp only[I8] at h;refine wpListIn_step fun fO Ca=>?_
  split at h
  .exact h.elim
  .rename_i hw;rw[if_neg (by rw[zS hw au];simp)];refine⟨fun _ _=>trivial,Ca _ _ ?_⟩;have a8:=ax.undef o.dst bx
   split at h
   .rename_i d e;rw[e] at a8⊢;exact xW bl all l _ _ k dL h C _ w a8 r Q Z
   .rename_i e;rw[e] at a8⊢;exact xW bl all l _ _ k dL h C _ w a8 r Q Z
  .rename_i hw;rw[if_pos (zS hw au)];refine acF bl dR r h ax bx fun v e a' w' h fR=>Ca _ _ ?_
   split at h
   .rename_i ao;rw[ao] at fR;exact xW bl all l _ _ k dL h C _ w' fR r Q Z
   .rename_i d ao;rw[ao] at fR
    split at h
    .rename_i b aY
     cases b with
     |true=>exact xW bl all l _ _ k dL (h.1 rfl) C _ w' fR.lit r Q Z
     |false=>exact xW bl all l _ _ k dL (h.2 rfl) C _ w' fR.lit r Q Z
    .exact xW bl all l _ _ k dL h C _ w' fR r Q Z
theorem bk.gz (bl:eh P aU) {id:Nat} {dg:Array Oper} {Q:nY->aX->ay->Prop} (H:tJ N dg.toList=true) (h:F0 P aU ids dg.toList dg.toList K B (fun K B=>Q .g' K B)):bk P N ids (.region id dg false) K B Q:=by
 intro r aC C il aP a w ax;refine wpIn_region_list ?_;have:=xW bl dg.toList dg.toList K B _ H h C a w ax r il (fun K' B' Z a' w' eb=>aP .g' K' B' C.ds (fun _=>rfl) Z a' w' eb);simpa using this
def c5 (ids:aA1) (K:aX) (B:ay) {X:Type} (K':X->aX) (B':X->ay):Prop:= ∀(N:Nat) (C:fi) (a:Act) (w:World),fa N ids C K B a w-> ∃x,fa N ids C (K' x) (B' x) a w
theorem bk.eH {c:Code} {X:Type} {K':X->aX} {B':X->ay} {Q:nY->aX->ay->Prop} (h:c5 ids K B K' B') (cn: ∀x,bk P N ids c (K' x) (B' x) Q):bk P N ids c K B Q:=fun r aC C il aP a w ax=>by
 obtain⟨x,hx⟩:=h N C a w ax;exact cn x r aC C il aP a w hx
end
end
end Go.Proofs.YtkfbeijmgggkmaaGreat
