/-
A part of the proof of this claim: lemmas, with no condition beyond what each says.
-/
import Derived.Test.YtkfbeijmgggkmaaGreatRows
import Derived.Test.YtkfbeijmgggkmaaGreatProg
import Derived.Deep.Slices
import Derived.Deep.Fields
import Derived.OpenShut
import Derived.WalkKit
import Derived.ProofKit
import Derived.JoinedCond
import Derived.Below
import Derived.Carry
import Derived.ChangeSame
import Derived.Test.YtkfbeijmgggkmaaGreatZd6
set_option linter.unusedVariables false
set_option linter.unusedSimpArgs false
set_option maxRecDepth 10000
set_option maxHeartbeats 4000000
namespace Go.Proofs.YtkfbeijmgggkmaaGreat
open Go.RowKit Go.Proofs
section
open Go.RowKit Go.ChangeShapes Go.WideShapes Go.Deep
noncomputable def fV:(u:bz)->Z u->Nat
 | .int _,_=>1
 | .u8,_=>1
 | .bool,_=>1
 | .str,s=>1+List.length s
 | .aM,_=>1
 | .dm,_=>1
 | .fn,_=>1
 | .b' u,xs=>1+(List.map (fV u) xs).sum
 | .bP u v,p=>fV u p.1+fV v p.2
 | .arr _ u,xs=>(List.map (fV u) xs).sum
def rk:(u:bz)->Z u->Prop
 | .int k,n=>(Lit.int k n).wf=true
 | .b' u,xs=> ∀x,Ex (α:=Z u) x xs->rk u x
 | .bP u v,p=>rk u p.1/\rk v p.2
 | .arr _ u,xs=> ∀x,Ex (α:=Z u) x xs->rk u x
 |_,_=>True
def qn (P:Program) (ty:bz->TypeId->Bool):bz->List Field->Nat->Bool
 |_,[],_=>false
 |u,[f],off=>Nat.beq f.offset off&&ty u f.type&&Nat.beq (P.cellsOf f.type) (aQ u)
 | .bP u v,f::g::fs,off=>Nat.beq f.offset off&&ty u f.type&&Nat.beq (P.cellsOf f.type) (aQ u)&&qn P ty v (g::fs) (off+aQ u)
 |_,_::_::_,_=>false
def qo (P:Program):Nat->bz->TypeId->Bool
 |0,_,_=>false
 |n+1,u,t=>match P.underlying t,u with
  |some (.int k),.int dZ=>l7 k dZ
  |some (.int k),.u8=>l7 k .u8
  |some .bool,.bool=>true
  |some .string,.str=>true
  |some (.slice e),.b' v=>qo P n v e&&Nat.beq (P.cellsOf e) (aQ v)&&Nat.blt 0 (aQ v)
  |some (.array m e),.arr gw v=>Nat.beq m gw&&qo P n v e&&Nat.beq (P.cellsOf e) (aQ v)
  |some (.struct fs),u=>qn P (qo P n) u fs.toList 0
  |_,_=>false
section
variable {hM:Type} {enc:TypeId×Value->hM} {w:World} {base:Nat} {J8:Nat->Bool} {held:Bool} {P:Program}
theorem J9 (d:DataW hM):1<=Rows.uptoBulk d:=by
 unfold Rows.uptoBulk
 split <;>omega
theorem QS (l r:List (DataW hM)):Rows.uptoBulkAll (l++r)=Rows.uptoBulkAll l+Rows.uptoBulkAll r:=by
 induction l with
 |nil=>simp[Rows.uptoBulkAll]
 |cons x l bq=>simp only[List.cons_append,Rows.uptoBulkAll,bq];omega
def QT (w:World) (u:bz) (cs:List Value) (b:Nat):Prop:= ∃a:Z u,cu (fun b=>b < w.heap.size) w u a (fun j=>cs[j]?)/\fV u a<=b/\rk u a
theorem xM {I:Nat->Prop} {u:bz} {a:Z u} {c b9:Nat->Option Value} (h:cu I w u a c) (J: ∀j v,c j=some v->b9 j=some v):cu I w u a b9:=cu.mono (cm.refl I w) u a c b9 J h
theorem J' {cs:List Value} {o k j:Nat} {v:Value} (h:((cs.drop o).take k)[j]? =some v):cs[o+j]? =some v:=by
 rw[au6] at h
 split at h
 .rwa[List.getElem?_drop] at h
 .cases h
theorem QU {ty:bz->TypeId->Bool} {n:Nat} (bq: ∀u t,ty u t=true-> ∀cs x,DataW.trod enc P w base J8 held n t cs=some x->QT w u cs (Rows.uptoBulk x.1)):
  ∀(fs:List Field) (u:bz) (off:Nat) (xs:List (DataW hM×List MemPlace)) (cs:List Value),qn P ty u fs off=true->xs.length=fs.length->
   (∀(i:Nat) (f:Field),fs[i]? =some f->DataW.trod enc P w base J8 held n f.type ((cs.drop f.offset).take (P.cellsOf f.type))=xs[i]?)->
   ∃a:Z u,cu (fun b=>b < w.heap.size) w u a (fun j=>cs[off+j]?)/\fV u a<=Rows.uptoBulkAll (xs.map (·.1))/\rk u a
 | [],u,off,xs,cs,h,_,_=>by simp[qn] at h
 | [f],u,off,xs,cs,h,ak,hf=>by
  simp only[qn,vj,Nat.beq_eq] at h;obtain⟨⟨E,G⟩,af⟩:=h
  match xs,ak with
  | [x],_=>
   obtain⟨a,cA,cF,dF⟩:=bq _ _ G _ _ (hf 0 f rfl);subst E;exact⟨a,xM cA fun j v ay=>J' ay,by simpa[Rows.uptoBulkAll] using cF,dF⟩
 |f::g::fs,.bP u v,off,xs,cs,h,ak,hf=>by
  simp only[qn,vj,Nat.beq_eq] at h;obtain⟨⟨⟨E,G⟩,af⟩,aW⟩:=h
  match xs,ak with
  |x::xs,ak=>
   obtain⟨a,cA,cF,dF⟩:=bq _ _ G _ _ (hf 0 f rfl);obtain⟨b,r1,r2,gg⟩:=QU bq (g::fs) v (off+aQ u) xs cs aW aC1 (fun i f aF=>hf (i+1) f aF);subst E;refine⟨(a,b),⟨xM cA fun j v ay=>J' ay,xM r1 fun j v ay=>by simpa only[Nat.add_assoc] using ay⟩,?_,dF,gg⟩;simp only[fV,ar4,Rows.uptoBulkAll];omega
 |_::_::_,.int _,_,_,_,h,_,_=>by simp[qn] at h
 |_::_::_,.u8,_,_,_,h,_,_=>by simp[qn] at h
 |_::_::_,.bool,_,_,_,h,_,_=>by simp[qn] at h
 |_::_::_,.str,_,_,_,h,_,_=>by simp[qn] at h
 |_::_::_,.aM,_,_,_,h,_,_=>by simp[qn] at h
 |_::_::_,.b' _,_,_,_,h,_,_=>by simp[qn] at h
 |_::_::_,.arr _ _,_,_,_,h,_,_=>by simp[qn] at h
theorem QV {α:Type} {l:List α} {y x:α} {i:Nat} (h:fE (l++[y]) i=some x):(i < l.length/\fE l i=some x)\/(i=l.length/\x=y):=by
 unfold fE at*;rcases Nat.lt_trichotomy i l.length with E |E |E
 .rw[as6 E] at h;exact .inl ⟨E,h⟩
 .subst E;simp only[List.getElem?_concat_length,aq4] at h;exact .inr ⟨rfl,h.symm⟩
 .rw[ax1 az8] at h
  cases h
theorem FH: ∀(n:Nat) (u:bz) (t:TypeId),qo P n u t=true-> ∀(m:Nat) (cs:List Value) (x:DataW hM×List MemPlace),DataW.trod enc P w base J8 held m t cs=some x->QT w u cs (Rows.uptoBulk x.1)
 |0,u,t,h,_,_,_,_=>by simp[qo] at h
 |n+1,u,t,h,m,cs,x,hx=>by
  unfold qo at h
  split at h
  case h_1 k dZ a6=>
   obtain rfl:=nR h;obtain⟨i,rfl,rfl,hw⟩:=DataW.trod_int a6 hx;exact⟨i,rfl,J9 _,hw⟩
  case h_2 k a6=>
   obtain rfl:=nR h;obtain⟨i,rfl,rfl,hw⟩:=DataW.trod_int a6 hx
   have aa:0<=i/\i < 256:=by
    simp[Lit.wf,IntKind.min,IntKind.max,IntKind.bits,IntKind.signed] at hw;omega
   refine⟨(UInt8.ofNat i.toNat:UInt8),?_,J9 _,trivial⟩;show some (Value.int .u8 i)=some (Value.int .u8 _)
   congr 2
   rw[UInt8.toNat_ofNat'];omega
  case h_3 a6=>
   obtain⟨b,rfl,rfl⟩:=DataW.trod_bool a6 hx;exact⟨b,rfl,J9 _,trivial⟩
  case h_4 a6=>
   obtain⟨s,rfl,rfl,aw⟩:=DataW.trod_string a6 hx;refine⟨(s.data.toList:aC3),rfl,?_,trivial⟩;simp only[fV,Rows.uptoBulk];omega
  case h_5 e v a6=>
   simp only[vj,Nat.beq_eq] at h;obtain⟨⟨E,G⟩,af⟩:=h;have af:0 < aQ v:=by simpa[Nat.blt_eq] using af
   rcases open_slice a6 hx with⟨rfl,rfl⟩ |⟨a,len,cap,gw,n',D,bn,rfl,fR,ak,aA,aav,rfl,rl⟩
   .refine⟨([]:List (Z v)),⟨none,0,rfl,aq0 _,aq8 _,fun h=>absurd h (Nat.lt_irrefl 0)⟩,by simp[fV,Rows.uptoBulk],fun x hx=>by cases hx⟩
   .rw[G] at rl;have lo:len<=gw:=by rw[aav];split <;>omega
    have key: ∀k,k<=len-> ∃l:List (Z v),l.length=k/\(l.map (fV v)).sum<=Rows.uptoBulkAll ((List.range k).map D)/\(∀x,x∈l->rk v x)/\
      (∀i x,fE l i=some x->cu (fun b=>b < w.heap.size) w v x (fun j=>if j < aQ v then w.cell? ((a.add (i*aQ v)).add j) else none)):=by
     intro k
     induction k with
     |zero=>exact fun _=>⟨[],rfl,ay6,(fun x h=>by cases h),fun i x h=>by simp[fE] at h⟩
     |succ k aaw=>
      intro aa;obtain⟨l,i5,gU,pC,uI⟩:=aaw ay4;obtain⟨aax,J,aay⟩:=rl k ay4;obtain⟨y,uJ,wg,Ci⟩:=FH n v e E _ _ _ aay;obtain⟨-,dH,nY⟩:=World.cells?_some J;refine⟨l++[y],by simp[i5],?_,?_,?_⟩
      .rw[List.range_succ,au0,au0,List.sum_append,QS];have wg:fV v y<=Rows.uptoBulk (D k):=wg;simp only[Rows.uptoBulkAll,ar4,ax6,List.sum_cons,List.sum_nil];omega
      .intro x hx;rcases as1.1 hx with hx |hx
       .exact pC x hx
       .simp at hx;subst hx;exact Ci
      .intro i x aF;rcases QV aF with⟨_,aF⟩ |⟨rfl,rfl⟩
       .exact uI i x aF
       .rw[i5];refine xM uJ fun j df ay=>?_
        have V:=(aq7.1 ay).1;rw[if_pos ay4,nY j ay4];exact ay
    obtain⟨l,i5,gU,pC,uI⟩:=key len (aq0 _);refine⟨l,⟨some a,cap,by rw[show List.length (α:=Z v) l=len from i5];rfl,by rw[show List.length (α:=Z v) l=len from i5];exact ak,aA,fun au=>?_⟩,?_,pC⟩
    .have au:0 < len:=by rw[<-i5];exact au
     obtain⟨aax,J,_⟩:=rl 0 ay4;obtain⟨-,dH,nY⟩:=World.cells?_some J;have Cj:=nY 0 ay4;rw[oj ay4] at Cj;obtain⟨b,o,spot⟩:=a;have aaz:spot=none:=by simpa[Addr.add] using World.cell?_spot Cj
     subst aaz;have fR:=World.block_lt_of_cell? w _ Cj;refine⟨b,o,rfl,by simpa[Addr.add] using fR,fun i x aF=>xM (uI i x aF) fun j df ay=>?_⟩
     split at ay
     .rwa[add_plain,add_plain,Nat.add_assoc] at ay
     .cases ay
    .simp only[fV,Rows.uptoBulk];exact(show 1+(l.map (fV v)).sum<=_ by omega)
  case h_6 k e dZ v a6=>
   simp only[vj,Nat.beq_eq] at h;obtain⟨⟨au,E⟩,G⟩:=h;subst au;obtain⟨xs,gw,rfl,rfl,ak,vZ,hf⟩:=DataW.trod_array a6 hx;rw[G] at hf
   have key: ∀q,q<=k-> ∃l:List (Z v),l.length=q/\(l.map (fV v)).sum<=Rows.uptoBulkAll ((xs.take q).map (·.1))/\(∀x,x∈l->rk v x)/\
     (∀i x,fE l i=some x->cu (fun b=>b < w.heap.size) w v x (fun j=>cs[i*aQ v+j]?)):=by
    intro q
    induction q with
    |zero=>exact fun _=>⟨[],rfl,ay6,(fun x h=>by cases h),fun i x h=>by simp[fE] at h⟩
    |succ q aaA=>
     intro aT;obtain⟨l,i5,gU,pC,uI⟩:=aaA ay4;have QW:=hf q ay4;rw[oj ay4] at QW;obtain⟨y,uJ,wg,Ci⟩:=FH n v e E _ _ _ QW;refine⟨l++[y],by simp[i5],?_,?_,?_⟩
     .rw[List.take_add_one,oj ay4,au0,au0,List.sum_append,QS];simp only[Rows.uptoBulkAll,ar4,ax6,List.sum_cons,List.sum_nil,Option.toList_some];omega
     .intro x hx;rcases as1.1 hx with hx |hx
      .exact pC x hx
      .simp at hx;subst hx;exact Ci
     .intro i x aF;rcases QV aF with⟨_,aF⟩ |⟨rfl,rfl⟩
      .exact uI i x aF
      .rw[i5];exact xM uJ fun j df ay=>J' ay
   obtain⟨l,i5,gU,pC,uI⟩:=key k (aq0 _);refine⟨l,⟨i5,uI⟩,?_,pC⟩;rw[at2 ay4] at gU;simp only[fV,Rows.uptoBulk];exact(show(l.map (fV v)).sum<=_ by omega)
  case h_7 tf fs a6=>
   obtain⟨xs,gw,rfl,rfl,ak,vZ,hf⟩:=DataW.trod_struct a6 hx;obtain⟨a,cA,cF,dF⟩:=QU (fun u t cq cs x h=>FH n u t cq _ cs x h) fs.toList _ 0 xs cs h (by simpa using vZ) (fun i f aF=>hf i f (by simpa using aF));refine⟨a,xM cA fun j v ay=>by rw[au1] at ay;exact ay,?_,dF⟩;simp only[Rows.uptoBulk];omega
  case h_8=>cases h
end
end
section
namespace wh
def t3:ca:=⟨.int .i64,1,false,[.d (.int .i64 0)],[],some (.int .i64),8⟩
def t4:ca:=⟨.bool,1,false,[.d (.lit false)],[],some .bool,1⟩
def t5:ca:=⟨.int .u8,1,false,[.d (.int .u8 0)],[],some .u8,1⟩
def t9:ca:=⟨.str,1,false,[.d (.str [])],[],some .str,16⟩
def t20:ca:=⟨.other,1,false,[.bJ .nilIface],[],none,16⟩
def aaB:ca:=⟨.int .i32,1,false,[.d (.int .i32 0)],[],some (.int .i32),4⟩
def t23:ca:=⟨.st,3,true,[.d (.int .i64 0),.d (.int .i64 0),.d (.int .i64 0)],[(0,1),(1,1),(2,1)],some (.bP (.int .i64) (.bP (.int .i64) (.int .i64))),24⟩
def t24:ca:=⟨.b' 34,1,false,[.dK],[],some (.b' (.bP (.int .i64) (.bP (.int .i64) (.bP (.int .i64) (.bP (.b' .u8) (.bP .str (.bP .str (.b' (.bP .str (.b' (.int .i64))))))))))),24⟩
def t25:ca:=⟨.ptr 82,1,false,[.bJ (.pointer none)],[],some .aM,8⟩
def t26:ca:=⟨.int .i64,1,false,[.d (.int .i64 0)],[],some (.int .i64),8⟩
def aaC:ca:=⟨.b' 5,1,false,[.dK],[],some (.b' .u8),24⟩
def t32:ca:=⟨.b' 85,1,false,[.dK],[],some (.b' (.bP .str (.b' (.int .i64)))),24⟩
def aaD:ca:=⟨.st,7,true,[.d (.int .i64 0),.d (.int .i64 0),.d (.int .i64 0),.dK,.d (.str []),.d (.str []),.dK],[(0,1),(1,1),(2,1),(3,1),(4,1),(5,1),(6,1)],some (.bP (.int .i64) (.bP (.int .i64) (.bP (.int .i64) (.bP (.b' .u8) (.bP .str (.bP .str (.b' (.bP .str (.b' (.int .i64)))))))))),104⟩
def t35:ca:=⟨.other,1,false,[.bJ .nilFunc],[],some .fn,8⟩
def t36:ca:=⟨.b' 89,1,false,[.dK],[],some (.b' (.bP .str (.b' (.int .i64)))),24⟩
def aaE:ca:=⟨.st,7,true,[.d (.int .i64 0),.d (.int .i64 0),.d (.int .i64 0),.dK,.d (.str []),.d (.str []),.dK],[(0,1),(1,1),(2,1),(3,1),(4,1),(5,1),(6,1)],some (.bP (.int .i64) (.bP (.int .i64) (.bP (.int .i64) (.bP (.b' .u8) (.bP .str (.bP .str (.b' (.bP .str (.b' (.int .i64)))))))))),104⟩
def aaF:ca:=⟨.b' 44,1,false,[.dK],[],some (.b' (.bP .str .str)),24⟩
def t44:ca:=⟨.st,2,true,[.d (.str []),.d (.str [])],[(0,1),(1,1)],some (.bP .str .str),32⟩
def aaG:ca:=⟨.b' 9,1,false,[.dK],[],some (.b' .str),24⟩
def t46:ca:=⟨.ptr 93,1,false,[.bJ (.pointer none)],[],some .aM,8⟩
def aaH:ca:=⟨.ptr 44,1,false,[.bJ (.pointer none)],[],some .aM,8⟩
def aaI:ca:=⟨.ptr 107,1,false,[.bJ (.pointer none)],[],some .aM,8⟩
def aaJ:ca:=⟨.ptr 161,1,false,[.bJ (.pointer none)],[],some .aM,8⟩
def aaK:ca:=⟨.st,4,true,[.d (.str []),.d (.lit false),.d (.lit false),.bJ (.pointer none)],[(0,1),(1,1),(2,1),(3,1)],some (.bP .str (.bP .bool (.bP .bool .aM))),32⟩
def aaL:ca:=⟨.ptr 117,1,false,[.bJ (.pointer none)],[],some .aM,8⟩
def aaM:ca:=⟨.ptr 125,1,false,[.bJ (.pointer none)],[],some .aM,8⟩
def aaN:ca:=⟨.other,1,false,[.bJ .nilIface],[],none,16⟩
def aaO:ca:=⟨.ptr 184,1,false,[.bJ (.pointer none)],[],some .aM,8⟩
def aaP:ca:=⟨.ptr 192,1,false,[.bJ (.pointer none)],[],some .aM,8⟩
def aaQ:ca:=⟨.b' 96,1,false,[.dK],[],some (.b' (.bP (.int .i64) (.b' .u8))),24⟩
def aaR:ca:=⟨.st,5,true,[.d (.str []),.d (.str []),.d (.int .i64 0),.d (.int .i64 0),.dK],[(0,1),(1,1),(2,1),(3,1),(4,1)],some (.bP .str (.bP .str (.bP (.int .i64) (.bP (.int .i64) (.b' (.bP (.int .i64) (.b' .u8))))))),72⟩
def aaS:ca:=⟨.st,7,true,[.d (.str []),.d (.str []),.d (.int .i64 0),.d (.int .i64 0),.dK,.d (.str []),.bJ (.pointer none)],[(0,5),(5,1),(6,1)],some (.bP (.bP .str (.bP .str (.bP (.int .i64) (.bP (.int .i64) (.b' (.bP (.int .i64) (.b' .u8))))))) (.bP .str .aM)),96⟩
def aaT:ca:=⟨.st,17,true,[.d (.int .i64 0),.d (.str []),.bJ (.pointer none),.bJ (.pointer none),.bJ (.pointer none),.bJ (.pointer none),.d (.int .i64 0),.bJ .nilIface,.bJ (.pointer none),.bJ (.pointer none),.d (.str []),.d (.str []),.d (.int .i64 0),.d (.int .i64 0),.dK,.d (.str []),.bJ (.pointer none)],[(0,1),(1,1),(2,1),(3,1),(4,1),(5,1),(6,1),(7,1),(8,1),(9,1),(10,7)],none,192⟩
def aaU:ca:=⟨.b' 3,1,false,[.dK],[],some (.b' (.int .i64)),24⟩
def aaV:ca:=⟨.st,2,true,[.d (.str []),.dK],[(0,1),(1,1)],some (.bP .str (.b' (.int .i64))),40⟩
def aaW:ca:=⟨.mp 3 35,1,false,[.bJ (.map none)],[],none,8⟩
def aaX:ca:=⟨.st,2,true,[.d (.str []),.dK],[(0,1),(1,1)],some (.bP .str (.b' (.int .i64))),40⟩
def aaY:ca:=⟨.b' 78,1,false,[.dK],[],some (.b' (.bP .str (.bP .str (.bP (.int .i64) (.bP (.int .i64) (.b' (.bP (.int .i64) (.b' .u8)))))))),24⟩
def aaZ:ca:=⟨.st,1,true,[.dK],[(0,1)],some (.b' (.bP .str (.bP .str (.bP (.int .i64) (.bP (.int .i64) (.b' (.bP (.int .i64) (.b' .u8)))))))),24⟩
def aa0:ca:=⟨.st,2,true,[.d (.int .i64 0),.dK],[(0,1),(1,1)],some (.bP (.int .i64) (.b' .u8)),32⟩
def aa1:ca:=⟨.other,1,false,[.bJ .nilFunc],[],some .fn,8⟩
def aa2:ca:=⟨.other,1,false,[.bJ .nilFunc],[],some .fn,8⟩
def aa3:ca:=⟨.mp 9 105,1,false,[.bJ (.map none)],[],none,8⟩
def aa4:ca:=⟨.ptr 60,1,false,[.bJ (.pointer none)],[],some .aM,8⟩
def aa5:ca:=⟨.st,1,true,[.bJ (.map none)],[(0,1)],none,8⟩
def aa6:ca:=⟨.other,1,false,[.bJ .nilFunc],[],some .fn,8⟩
def aa7:ca:=⟨.ptr 172,1,false,[.bJ (.pointer none)],[],some .aM,8⟩
def aa8:ca:=⟨.mp 9 119,1,false,[.bJ (.map none)],[],none,8⟩
def aa9:ca:=⟨.st,3,true,[.d (.int .i64 0),.d (.int .i64 0),.bJ (.map none)],[(0,1),(1,1),(2,1)],none,24⟩
def aa':ca:=⟨.other,1,false,[.bJ .nilFunc],[],some .fn,8⟩
def aba:ca:=⟨.ptr 122,1,false,[.bJ (.pointer none)],[],some .aM,8⟩
def abb:ca:=⟨.st,2,true,[.bJ (.pointer none),.d (.str [])],[(0,1),(1,1)],some (.bP .aM .str),24⟩
def abc:ca:=⟨.mp 9 198,1,false,[.bJ (.map none)],[],none,8⟩
def abd:ca:=⟨.st,2,true,[.d (.int .i64 0),.bJ (.map none)],[(0,1),(1,1)],none,16⟩
def abe:ca:=⟨.other,1,false,[.bJ .nilFunc],[],some .fn,8⟩
def abf:ca:=⟨.ptr 189,1,false,[.bJ (.pointer none)],[],some .aM,8⟩
def abg:ca:=⟨.other,1,false,[.bJ .nilFunc],[],some .fn,8⟩
def abh:ca:=⟨.other,1,false,[.bJ .nilFunc],[],some .fn,8⟩
def abi:ca:=⟨.other,1,false,[.bJ .nilFunc],[],some .fn,8⟩
def abj:ca:=⟨.mp 3 3,1,false,[.bJ (.map none)],[],none,8⟩
def abk:ca:=⟨.st,3,true,[.d (.int .i64 0),.d (.int .i64 0),.bJ (.map none)],[(0,1),(1,1),(2,1)],none,24⟩
def abl:ca:=⟨.ptr 229,1,false,[.bJ (.pointer none)],[],some .aM,8⟩
def abm:ca:=⟨.ptr 231,1,false,[.bJ (.pointer none)],[],some .aM,8⟩
def abn:ca:=⟨.mp 3 31,1,false,[.bJ (.map none)],[],none,8⟩
def abo:ca:=⟨.b' 357,1,false,[.dK],[],some (.b' (.bP .str .aM)),24⟩
def abp:ca:=⟨.st,5,true,[.d (.int .i64 0),.bJ (.pointer none),.bJ (.pointer none),.bJ (.map none),.dK],[(0,1),(1,1),(2,1),(3,1),(4,1)],none,56⟩
def abq:ca:=⟨.other,1,false,[.bJ .nilFunc],[],some .fn,8⟩
def abr:ca:=⟨.other,1,false,[.bJ .nilFunc],[],some .fn,8⟩
def abs:ca:=⟨.st,5,true,[.bJ (.pointer none),.d (.str []),.d (.str []),.bJ (.map none),.d (.lit false)],[(0,1),(1,1),(2,1),(3,1),(4,1)],none,56⟩
def abt:ca:=⟨.st,4,true,[.bJ (.pointer none),.d (.str []),.d (.str []),.d (.lit false)],[(0,1),(1,1),(2,1),(3,1)],some (.bP .aM (.bP .str (.bP .str .bool))),48⟩
def abu:ca:=⟨.st,9,true,[.bJ (.pointer none),.d (.str []),.d (.int .i64 0),.d (.int .i64 0),.d (.int .i64 0),.bJ (.map none),.bJ (.map none),.d (.lit false),.d (.lit false)],[(0,1),(1,1),(2,1),(3,1),(4,1),(5,1),(6,1),(7,1),(8,1)],none,72⟩
def abv:ca:=⟨.ptr 255,1,false,[.bJ (.pointer none)],[],some .aM,8⟩
def abw:ca:=⟨.other,1,false,[.bJ .nilFunc],[],some .fn,8⟩
def abx:ca:=⟨.ptr 262,1,false,[.bJ (.pointer none)],[],some .aM,8⟩
def aby:ca:=⟨.other,1,false,[.bJ .nilFunc],[],some .fn,8⟩
def abz:ca:=⟨.st,4,true,[.d (.int .i64 0),.d (.int .i64 0),.d (.int .i64 0),.d (.int .i64 0)],[(0,1),(1,1),(2,1),(3,1)],some (.bP (.int .i64) (.bP (.int .i64) (.bP (.int .i64) (.int .i64)))),32⟩
def abA:ca:=⟨.int .u64,1,false,[.d (.int .u64 0)],[],some (.int .u64),8⟩
def abB:ca:=⟨.mp 3 290,1,false,[.bJ (.map none)],[],none,8⟩
def abC:ca:=⟨.st,2,true,[.d (.int .i64 0),.bJ (.map none)],[(0,1),(1,1)],none,16⟩
def abD:ca:=⟨.st,1,true,[.dK],[(0,1)],some (.b' (.int .i64)),24⟩
def abE:ca:=⟨.other,1,false,[.bJ .nilFunc],[],some .fn,8⟩
def abF:ca:=⟨.other,1,false,[.bJ .nilFunc],[],some .fn,8⟩
def abG:ca:=⟨.other,1,false,[.bJ .nilFunc],[],some .fn,8⟩
def abH:ca:=⟨.other,1,false,[.bJ .nilFunc],[],some .fn,8⟩
def abI:ca:=⟨.other,1,false,[.bJ .nilFunc],[],some .fn,8⟩
def abJ:ca:=⟨.st,3,true,[.d (.int .i64 0),.d (.int .i64 0),.d (.lit false)],[(0,1),(1,1),(2,1)],some (.bP (.int .i64) (.bP (.int .i64) .bool)),24⟩
def abK:ca:=⟨.other,1,false,[.bJ .nilFunc],[],some .fn,8⟩
def abL:ca:=⟨.b' 293,1,false,[.dK],[],some (.b' (.bP (.int .i64) (.bP (.int .i64) (.int .i64)))),24⟩
def abM:ca:=⟨.mp 3 257,1,false,[.bJ (.map none)],[],none,8⟩
def abN:ca:=⟨.b' 259,1,false,[.dK],[],some (.b' (.bP (.int .i64) (.arr 16 .u8))),24⟩
def abO:ca:=⟨.st,5,true,[.d (.int .i64 0),.d (.int .i64 0),.bJ (.map none),.bJ (.map none),.dK],[(0,1),(1,1),(2,1),(3,1),(4,1)],none,56⟩
def abP:ca:=⟨.arr 16 5,16,true,[.d (.int .u8 0),.d (.int .u8 0),.d (.int .u8 0),.d (.int .u8 0),.d (.int .u8 0),.d (.int .u8 0),.d (.int .u8 0),.d (.int .u8 0),.d (.int .u8 0),.d (.int .u8 0),.d (.int .u8 0),.d (.int .u8 0),.d (.int .u8 0),.d (.int .u8 0),.d (.int .u8 0),.d (.int .u8 0)],[],some (.arr 16 .u8),16⟩
def abQ:ca:=⟨.st,17,true,[.d (.int .i64 0),.d (.int .u8 0),.d (.int .u8 0),.d (.int .u8 0),.d (.int .u8 0),.d (.int .u8 0),.d (.int .u8 0),.d (.int .u8 0),.d (.int .u8 0),.d (.int .u8 0),.d (.int .u8 0),.d (.int .u8 0),.d (.int .u8 0),.d (.int .u8 0),.d (.int .u8 0),.d (.int .u8 0),.d (.int .u8 0)],[(0,1),(1,16)],some (.bP (.int .i64) (.arr 16 .u8)),24⟩
def abR:ca:=⟨.st,2,true,[.dK,.d (.int .i64 0)],[(0,1),(1,1)],some (.bP (.b' .u8) (.int .i64)),32⟩
def abS:ca:=⟨.int .i64,1,false,[.d (.int .i64 0)],[],some (.int .i64),8⟩
def abT:ca:=⟨.int .u32,1,false,[.d (.int .u32 0)],[],some (.int .u32),4⟩
def abU:ca:=⟨.int .u64,1,false,[.d (.int .u64 0)],[],some (.int .u64),8⟩
def abV:ca:=⟨.arr 16 243,48,true,[.d (.int .i64 0),.d (.int .i64 0),.d (.lit false),.d (.int .i64 0),.d (.int .i64 0),.d (.lit false),.d (.int .i64 0),.d (.int .i64 0),.d (.lit false),.d (.int .i64 0),.d (.int .i64 0),.d (.lit false),.d (.int .i64 0),.d (.int .i64 0),.d (.lit false),.d (.int .i64 0),.d (.int .i64 0),.d (.lit false),.d (.int .i64 0),.d (.int .i64 0),.d (.lit false),.d (.int .i64 0),.d (.int .i64 0),.d (.lit false),.d (.int .i64 0),.d (.int .i64 0),.d (.lit false),.d (.int .i64 0),.d (.int .i64 0),.d (.lit false),.d (.int .i64 0),.d (.int .i64 0),.d (.lit false),.d (.int .i64 0),.d (.int .i64 0),.d (.lit false),.d (.int .i64 0),.d (.int .i64 0),.d (.lit false),.d (.int .i64 0),.d (.int .i64 0),.d (.lit false),.d (.int .i64 0),.d (.int .i64 0),.d (.lit false),.d (.int .i64 0),.d (.int .i64 0),.d (.lit false)],[],some (.arr 16 (.bP (.int .i64) (.bP (.int .i64) .bool))),384⟩
def abW:ca:=⟨.st,3,true,[.d (.int .i64 0),.d (.int .i64 0),.d (.int .i64 0)],[(0,1),(1,1),(2,1)],some (.bP (.int .i64) (.bP (.int .i64) (.int .i64))),24⟩
def abX:ca:=⟨.other,1,false,[.bJ .nilFunc],[],some .fn,8⟩
def abY:ca:=⟨.ptr 317,1,false,[.bJ (.pointer none)],[],some .aM,8⟩
def abZ:ca:=⟨.int .u64,1,false,[.d (.int .u64 0)],[],some (.int .u64),8⟩
def ab0:ca:=⟨.ptr 3,1,false,[.bJ (.pointer none)],[],some .aM,8⟩
def ab1:ca:=⟨.b' 128,1,false,[.dK],[],some (.b' .fn),24⟩
def ab2:ca:=⟨.st,2,true,[.dK,.d (.int .i64 0)],[(0,1),(1,1)],some (.bP (.b' .fn) (.int .i64)),32⟩
def ab3:ca:=⟨.other,1,false,[.bJ .nilFunc],[],some .fn,8⟩
def ab4:ca:=⟨.ptr 302,1,false,[.bJ (.pointer none)],[],some .aM,8⟩
def ab5:ca:=⟨.b' 31,1,false,[.dK],[],some (.b' (.b' .u8)),24⟩
def ab6:ca:=⟨.other,1,false,[.bJ .nilFunc],[],some .fn,8⟩
def ab7:ca:=⟨.mp 3 128,1,false,[.bJ (.map none)],[],none,8⟩
def ab8:ca:=⟨.other,1,false,[.bJ .nilFunc],[],some .fn,8⟩
def ab9:ca:=⟨.st,2,true,[.d (.str []),.bJ (.pointer none)],[(0,1),(1,1)],some (.bP .str .aM),24⟩
def types:dg:=(.node (.node (.node (.node (.node (.node (.node .leaf 3 t3 .leaf) 4 t4 (.node .leaf 5 t5 .leaf)) 9 t9 (.node (.node .leaf 20 t20 .leaf) 21 aaB (.node .leaf 23 t23 .leaf))) 24 t24 (.node (.node (.node .leaf 25 t25 .leaf) 26 t26 (.node .leaf 31 aaC .leaf)) 32 t32 (.node (.node .leaf 34 aaD .leaf) 35 t35 .leaf))) 36 t36 (.node (.node (.node (.node .leaf 38 aaE .leaf) 42 aaF (.node .leaf 44 t44 .leaf)) 45 aaG (.node (.node .leaf 46 t46 .leaf) 50 aaH .leaf)) 56 aaI (.node (.node (.node .leaf 58 aaJ .leaf) 60 aaK (.node .leaf 65 aaL .leaf)) 69 aaM (.node (.node .leaf 73 aaN .leaf) 74 aaO .leaf)))) 75 aaP (.node (.node (.node (.node (.node .leaf 76 aaQ .leaf) 78 aaR (.node .leaf 80 aaS .leaf)) 82 aaT (.node (.node .leaf 83 aaU .leaf) 85 aaV .leaf)) 87 aaW (.node (.node (.node .leaf 89 aaX .leaf) 91 aaY (.node .leaf 93 aaZ .leaf)) 96 aa0 (.node (.node .leaf 101 aa1 .leaf) 102 aa2 .leaf))) 104 aa3 (.node (.node (.node (.node .leaf 105 aa4 .leaf) 107 aa5 (.node .leaf 110 aa6 .leaf)) 112 aa7 (.node (.node .leaf 115 aa8 .leaf) 117 aa9 .leaf)) 118 aa' (.node (.node (.node .leaf 119 aba .leaf) 122 abb (.node .leaf 123 abc .leaf)) 125 abd (.node (.node .leaf 128 abe .leaf) 136 abf .leaf))))) 155 abg (.node (.node (.node (.node (.node (.node .leaf 156 abh .leaf) 157 abi (.node .leaf 159 abj .leaf)) 161 abk (.node (.node .leaf 163 abl .leaf) 166 abm .leaf)) 169 abn (.node (.node (.node .leaf 170 abo .leaf) 172 abp (.node .leaf 176 abq .leaf)) 178 abr (.node (.node .leaf 184 abs .leaf) 189 abt .leaf))) 192 abu (.node (.node (.node (.node .leaf 198 abv .leaf) 200 abw (.node .leaf 202 abx .leaf)) 215 aby (.node (.node .leaf 218 abz .leaf) 225 abA .leaf)) 227 abB (.node (.node (.node .leaf 229 abC .leaf) 231 abD (.node .leaf 232 abE .leaf)) 234 abF (.node (.node .leaf 235 abG .leaf) 238 abH .leaf)))) 239 abI (.node (.node (.node (.node (.node .leaf 243 abJ .leaf) 247 abK (.node .leaf 249 abL .leaf)) 252 abM (.node (.node .leaf 253 abN .leaf) 255 abO .leaf)) 257 abP (.node (.node (.node .leaf 259 abQ .leaf) 262 abR (.node .leaf 270 abS .leaf)) 279 abT (.node (.node .leaf 281 abU .leaf) 290 abV .leaf))) 293 abW (.node (.node (.node (.node .leaf 296 abX .leaf) 299 abY (.node .leaf 302 abZ .leaf)) 306 ab0 (.node (.node .leaf 315 ab1 .leaf) 317 ab2 .leaf)) 319 ab3 (.node (.node (.node .leaf 320 ab4 .leaf) 330 ab5 (.node .leaf 331 ab6 .leaf)) 352 ab7 (.node (.node .leaf 355 ab8 .leaf) 357 ab9 .leaf))))))
end wh
set_option maxRecDepth 100000 in
theorem e3:ec Tryz.prog wh.types:=ec.of ay7
theorem mixed:Tryz.prog.follows .mixedOrders=true:=by kernel_rfl
end
section
open Go.ChangeShapes Go.WideShapes Go.ChangeAt Go.RowKit
section
variable {hM:Type} {enc:TypeId×Value->hM} {P:Program}
theorem ab' {f:Func} {s:ChangeSpec} {apart fresh handsOn again:Bool} {W nd:World} {args:Array Value} {v:Value} {ds gs:List (DataW hM)} {o0 pa pv:List MemPlace}
  (dc:DataW.Whole enc P f.params.toList s.vars apart W args.toList ds gs o0)
  (jm: ∀(b:Nat) (sp:Nat->Bool) (H:Bool),DataW.TrodAll enc P nd b sp H f.resultTypes.toList (v.resultList f.resultTypes.size) (s.fn hM (ds++gs)).results [])
  (e9: ∀sp:Nat->Bool,(∀p∈o0,sp p.block=true)->DataW.TrodAll enc P nd 0 sp true f.params.toList args.toList (s.fn hM (ds++gs)).args pa)
  (Ck: ∀sp:Nat->Bool,(∀p∈o0,sp p.block=true)->DataW.TrodVars enc P nd sp s.vars (s.fn hM (ds++gs)).vars pv)
  (lI:o0=pa++pv) (O:Below W.heap.size W nd)
  (bv: ∀(j:Nat) (t:TypeId) (r:Value),f.resultTypes[j]? =some t->(v.resultList f.resultTypes.size)[j]? =some r->Value.okWide P nd .any 0 t r):
  s.post enc P f apart fresh handsOn again W args v nd:=by
 have bt: ∀p∈o0,p.block < W.heap.size:=fun p ai=>dc.lt p ai
 have mM: ∀p∈o0,(fun b=>decide (b < W.heap.size)) p.block=true:=fun p ai=>by simpa using bt p ai
 refine⟨ds,gs,o0,[],pa,pv,dc,jm _ _ _,e9 _ mM,Ck _ mM,World.keptBut_mono (fun p ai=>⟨ai,?_⟩) (O.frame (· ∈o0)),fun _=>?_⟩
 .rw[lI,as1] at ai;exact Or.inr ai
 .obtain⟨_,_,_,_,_,aN,hn⟩:=dc;refine⟨bv,_,_,([]++pa)++pv,⟨[]++pa,pv,trodAll_append (e9 _ (fun _ _=>rfl)) (jm _ _ _),Ck _ (fun _ _=>rfl),rfl,?_,?_⟩,?_⟩
  .intro b off ai;have eb:MemPlace.cell b off∈o0:=by rw[lI];simpa using ai
   rw[O.frozen (bt _ eb)];exact aN b off eb
  .intro ha;have:=hn ha;rw[lI] at this;simpa using this
  .intro p ai _;rw[lI];simpa using ai
end
def QX:(u:bz)->Z u->aP
 | .bP u v,x=>.c (.agg (gq (.bP u v) x 0 (aQ (.bP u v))))
 | .arr n u,x=>.c (.agg (gq (.arr n u) x 0 (aQ (.arr n u))))
 | .int k,x=>.c (.one (.d (fD (.int k) x 0)))
 | .u8,x=>.c (.one (.d (fD .u8 x 0)))
 | .bool,x=>.c (.one (.d (fD .bool x 0)))
 | .str,x=>.c (.one (.d (fD .str x 0)))
 | .aM,x=>.c (.one (.d (fD .aM x 0)))
 | .dm,x=>.c (.one (.d (fD .dm x 0)))
 | .fn,x=>.c (.one (.d (fD .fn x 0)))
 | .b' u,x=>.c (.one (.d (fD (.b' u) x 0)))
def uK (P:Program) (t:TypeId):Bool:=match P.underlying t with
 |some (.struct _)=>false
 |some (.array _ _)=>false
 |some _=>true
 |none=>false
def FI (P:Program) (u:bz) (t:TypeId):Bool:=qo P 20 u t&&(m9 u == uK P t)&&Nat.beq (P.cellsOf t) (aQ u)&&P.readableRec t&&Nat.blt t P.types.size
section
variable {hM:Type} {enc:TypeId×Value->hM} {W:World} {P:Program} {ρ:Nat->bn} {I:Nat->Prop}
theorem QY {u:bz} {x:Z u} {cs:List Value} (H:cu I W u x (fun j=>cs[j]?)): ∀(n o:Nat),o+n<=aQ u->o+n<=cs.length->cc ρ I W (gq u x o n) ((cs.drop o).take n)
 |0,o,_,_=>by simp[gq,cc]
 |n+1,o,h,ak=>by
  obtain⟨v,ay,tw⟩:=cu.cell u x _ o H ay4;refine⟨v,(cs.drop (o+1)).take n,?_,tw,QY H n (o+1) ay4 ay4⟩;have:=(aq7.1 ay).2;rw[av6 (by omega:o < cs.length),List.take_succ_cons,this]
theorem aca {t:TypeId} {v:Value} {base:Nat} (E:uK P t=true) (h:Value.okWide P W .any base t v) {fuel:Nat} {sp:Nat->Bool} {u:bz} {n:Nat} {x:DataW hM×List MemPlace} (a6:qo P n u t=true) (G:m9 u=true):v.cells.toList=[v]:=by
 cases n with
 |zero=>simp[qo] at a6
 |succ n=>
  unfold qo at a6
  split at a6
  case h_1 k dZ cq=>obtain⟨n,rfl⟩:=okWide_int cq h;rfl
  case h_2 k cq=>obtain⟨n,rfl⟩:=okWide_int cq h;rfl
  case h_3 cq=>obtain⟨n,rfl⟩:=okWide_bool cq h;rfl
  case h_4 cq=>obtain⟨n,rfl⟩:=okWide_string cq h;rfl
  case h_5 e v cq=>obtain⟨a,b,c,rfl⟩:=okWide_slice cq h;rfl
  case h_6=>simp[m9] at G
  case h_7 fs u cq=>simp[uK,cq] at E
  case h_8=>cases a6
theorem acb {t:TypeId} {v:Value} {base:Nat} (E:uK P t=false) (h:Value.okWide P W .any base t v) {n:Nat} {u:bz} (a6:qo P n u t=true): ∃cs,v= .agg cs/\cs.size=P.cellsOf t:=by
 cases n with
 |zero=>simp[qo] at a6
 |succ n=>
  unfold qo at a6;unfold Value.okWide at h
  split at a6
  case h_1 k dZ cq=>simp[uK,cq] at E
  case h_2 k cq=>simp[uK,cq] at E
  case h_3 cq=>simp[uK,cq] at E
  case h_4 cq=>simp[uK,cq] at E
  case h_5 e v cq=>simp[uK,cq] at E
  case h_6 k e dZ v cq=>rw[cq] at h;obtain⟨cs,E,G,_⟩:=h;exact⟨cs,E,G⟩
  case h_7 fs u cq=>rw[cq] at h;obtain⟨cs,E,G,_⟩:=h;exact⟨cs,E,G⟩
  case h_8=>cases a6
theorem acd {u:bz} {t:TypeId} {v:Value} {d:DataW hM} {bD:List MemPlace} {base:Nat} {sp:Nat->Bool} (h:FI P u t=true) (bv:Value.okWide P W .any base t v) (b6:DataW.Trod enc P W 0 sp true t v d bD):
  ∃a:Z u,cw ρ (fun b=>b < W.heap.size) W (QX u a) v/\fV u a<=Rows.uptoBulk d/\rk u a:=by
 simp only[FI,vj,Nat.beq_eq,beq_iff_eq] at h;obtain⟨⟨⟨⟨E,G⟩,af⟩,_⟩,_⟩:=h;obtain⟨n,hn⟩:=b6;obtain⟨a,cA,cF,dF⟩:=FH _ _ _ E _ _ _ hn;refine⟨a,?_,cF,dF⟩
 cases ah:m9 u with
 |true=>
  rw[aca (x:=(d,bD)) (fuel:=n) (sp:=sp) (by rw[<-G,ah]) bv E ah] at cA;obtain⟨df,ae,ao⟩:=cu.cell u a _ 0 cA (by rcases u with _ |_ |_ |_ |_ |_ |_ <;>simp[aQ,m9] at*);simp only[ar3,aq4] at ae;subst ae
  cases u <;>first |exact ao |(simp[m9] at ah)
 |false=>
  obtain⟨cs,rfl,cC⟩:=acb (by rw[<-G,ah]) bv E;have ak:cs.toList.length=aQ u:=by rw[Array.length_toList];omega
  have:=QY (ρ:=ρ) cA (aQ u) 0 ay4 (by simpa[Value.cells] using(show 0+aQ u<=cs.toList.length by omega));rw[List.drop_zero,at2 (by simp only[Value.cells];omega)] at this
  cases u <;>first |exact⟨_,rfl,this⟩ |(simp[m9] at ah)
def zQ:List bz->Type
 | []=>Unit
 |u::us=>Z u×zQ us
def wi:(us:List bz)->zQ us->List aP
 | [],_=>[]
 |u::us,x=>QX u x.1::wi us x.2
noncomputable def FJ:(us:List bz)->zQ us->Nat
 | [],_=>0
 |u::us,x=>fV u x.1+FJ us x.2
def Ka:(us:List bz)->zQ us->Prop
 | [],_=>True
 |u::us,x=>rk u x.1/\Ka us x.2
def tx (P:Program):List bz->List TypeId->Bool
 | [],[]=>true
 |u::us,t::cv=>FI P u t&&tx P us cv
 |_,_=>false
theorem QZ {base:Nat} {sp:Nat->Bool}: ∀(us:List bz) (cv:List TypeId) (aE:List Value) (ds:List (DataW hM)) (bD:List MemPlace),tx P us cv=true->(∀(j:Nat) t v,cv[j]? =some t->aE[j]? =some v->Value.okWide P W .any base t v)->
  DataW.TrodAll enc P W 0 sp true cv aE ds bD-> ∃a:zQ us,aE.length=(wi us a).length/\(∀(i:Nat) (s:aP) (x:Value),(wi us a)[i]? =some s->aE[i]? =some x->cw ρ (fun b=>b < W.heap.size) W s x)/\FJ us a<=Rows.uptoBulkAll ds/\Ka us a
 | [],[],aE,ds,bD,_,_,b6=>by
  obtain⟨rfl,rfl,rfl⟩:=trodAll_nil b6;exact⟨(),rfl,fun i s x h=>by simp[wi] at h,aq8 _,trivial⟩
 | [],_::_,_,_,_,h,_,_=>by simp[tx] at h
 |_::_,[],_,_,_,h,_,_=>by simp[tx] at h
 |u::us,t::cv,aE,ds,bD,h,bv,b6=>by
  simp only[tx,vj] at h;obtain⟨v,aE,d,ds,p,q,rfl,rfl,rfl,au,ax⟩:=trodAll_cons b6;obtain⟨a,bZ,cg,a3⟩:=acd (ρ:=ρ) h.1 (bv 0 t v rfl rfl) au;obtain⟨b,b1,b2,b3,er⟩:=QZ us cv aE ds q h.2 (fun j t v E G=>bv (j+1) t v E G) ax;refine⟨(a,b),by simp[wi,b1],fun i s x E G=>?_,by simp only[FJ,Rows.uptoBulkAll];omega,a3,er⟩
  match i with
  |0=>simp only[wi,ar3,aq4] at E G;subst E G;exact bZ
  |i+1=>exact b2 i s x (by simpa[wi] using E) (by simpa using G)
theorem Q0 (laid:laidOutB P=true) {nd:World} {Q1:Nat->Bool}: ∀(us:List bz) (cv:List TypeId) (aE:List Value) (ds:List (DataW hM)) (bD:List MemPlace),tx P us cv=true->
  DataW.TrodAll enc P W 0 (fun _=>true) true cv aE ds bD->Below W.heap.size W nd->(∀x∈bD,x.block < W.heap.size)->(∀x∈bD,Q1 x.block=true)->DataW.TrodAll enc P nd 0 Q1 true cv aE ds bD
 | [],[],aE,ds,bD,_,b6,_,_,_=>by
  obtain⟨rfl,rfl,rfl⟩:=trodAll_nil b6;exact trodAll_mk0
 | [],_::_,_,_,_,h,_,_,_,_=>by simp[tx] at h
 |_::_,[],_,_,_,h,_,_,_,_=>by simp[tx] at h
 |u::us,t::cv,aE,ds,bD,h,b6,O,bt,Cl=>by
  simp only[tx,vj] at h;obtain⟨v,aE,d,ds,p,q,rfl,rfl,rfl,au,ax⟩:=trodAll_cons b6;have E:=h.1;simp only[FI,vj,Nat.blt_eq] at E;exact trodAll_cons_mk (WideElems.Trod_stays laid E.1.2 E.2 au (fun x hx=>O.same (bt x (by simp[hx]))) (fun x hx=>Cl x (by simp[hx]))) (Q0 laid us cv aE ds q h.2 ax O (fun x hx=>bt x (by simp[hx])) (fun x hx=>Cl x (by simp[hx])))
theorem Fn.ace {f:FuncId} {args:List aP} (bh:Fn P f args [] [] (fI true) []) (bU:Array Value) (ak:bU.toList.length=args.length)
  (H: ∀(i:Nat) (s:aP) (x:Value),args[i]? =some s->bU.toList[i]? =some x->cw ρ (fun b=>b < W.heap.size) W s x):Calls P f bU W fun e nd=>e= .returned (.bool true)/\Below W.heap.size W nd:=by
 have h:=bh.2 ρ (fun _ _=>False) (fun b=>b < W.heap.size) W bU.toList (fun b h=>h) (fun c ch J=>by simp[ag] at J) (fun c ch J=>by simp[ag] at J) (fun c b9 ch ch' b J=>by simp[ag] at J) ak H;rw[Array.toArray_toList] at h;refine h.mono ?_;rintro e nd ⟨x,ρ',F',rfl,cy,-,I',-,-,-,-,-,hx⟩;rw[show x= .bool true from hx];exact⟨rfl,cy.below (aq0 _) (by rintro i _ ⟨c,ch,J,_⟩;simp[ag] at J)⟩
end
theorem acf:ownKnob Tryz.prog.godebug=none:=by kernel_rfl
theorem acg:laidOutB Tryz.prog=true:=by kernel_rfl
set_option maxRecDepth 100000 in
theorem ach {hM:Type} {enc:TypeId×Value->hM} {W:World} {args:Array Value} {ds gs:List (DataW hM)} {o0:List MemPlace} {base:Nat} (f:FuncId) (fn:Func) (s:ChangeSpec) (us:List bz) (n:Nat)
  (jm:fn.resultTypes= #[4]) (Ck:s.vars=[]) (Q2:tx Tryz.prog us fn.params.toList=true)
  (ko: ∀ds:List (DataW hM),ds.length=fn.params.toList.length->(s.fn hM ds).results=[.lit (.bool true)]/\(s.fn hM ds).vars=[]/\(s.fn hM ds).args=ds)
  (uL: ∀(j:Nat) t v,fn.params[j]? =some t->args[j]? =some v->Value.okWide Tryz.prog W .any base t v)
  (dc:DataW.Whole enc Tryz.prog fn.params.toList s.vars false W args.toList ds gs o0) (aa:Rows.uptoBulkAll (ds++gs)<=n)
  (bh: ∀a:zQ us,FJ us a<=n->Ka us a->Fn Tryz.prog f (wi us a) [] [] (fI true) []):
  Calls Tryz.prog f args W fun e nd=> ∃v,e= .returned v/\s.post enc Tryz.prog fn false true false false W args v nd:=by
 have Q3:=dc;have bt:=dc.lt;obtain⟨p,q,eQ,xN,rfl,ap6,dC⟩:=dc;rw[Ck] at xN;obtain⟨rfl,rfl⟩:=trodVars_none xN;simp only[at6] at Q3 aa bt;obtain⟨a,bZ,cg,a3,a4⟩:=QZ (ρ:=fun _=>⟨0,none,0,0⟩) us fn.params.toList args.toList ds p Q2 (fun j t v E G=>uL j t v aC0 (by simpa using G)) eQ
 have bV:ds.length=fn.params.toList.length:=by
  have: ∀(cv:List TypeId) (aE:List Value) (ds:List (DataW hM)) (bD:List MemPlace),DataW.TrodAll enc Tryz.prog W 0 (fun _=>true) true cv aE ds bD->ds.length=cv.length:=fun cv=>by
   induction cv with
   |nil=>intro aE ds bD h;obtain⟨_,rfl,_⟩:=trodAll_nil h;rfl
   |cons t cv bq=>intro aE ds bD h;obtain⟨v,aE,d,ds,p,q,rfl,rfl,rfl,au,ax⟩:=trodAll_cons h;simp[bq _ _ _ ax]
  exact this _ _ _ _ eQ
 obtain⟨r1,r2,gg⟩:=ko ds bV;refine((bh a ay4 a4).ace args bZ cg).mono fun e nd ⟨U,O⟩=>?_
 subst U;refine⟨_,rfl,ab' (pa:=p) (pv:=[]) Q3 ?_ ?_ ?_ ay6 O ?_⟩
 .intro b sp H;rw[at6,r1,jm];exact trodAll_cons_mk (shut_bool Tryz.underlying4 _) trodAll_mk0
 .intro sp Cl;rw[at6,gg];exact Q0 acg us _ _ _ _ Q2 eQ O (fun x hx=>bt x aB9) (fun x hx=>Cl x aB9)
 .intro sp Cl;rw[at6,r2,Ck];rfl
 .exact Go.RowKit.ok_one jm rfl (okWide_bool_mk Tryz.underlying4 _)
end
section
set_option maxRecDepth 100000
open Go.ChangeShapes Go.WideShapes Go.ChangeAt Go.RowKit
theorem iv {a b:Bool} (h:a=true) (k:b=true):(a&&b)=true:=by rw[h,k];rfl
def Kb:OpenClaim:={program:= "",sum:= "",func:= "",spec:= "" }
theorem aci:laidOutB Tryz.prog=true:=by kernel_rfl
theorem acj:mapsRowed Tryz.prog=true:=by kernel_rfl
theorem ack:(Kb.plainKeys == Tryz.prog.plainKeys)=true:=by kernel_rfl
theorem acl:Tryz.prog.mayEnter=true:=by kernel_rfl
theorem acm:(Kb.lifted == Tryz.prog.liftsFinal)=true:=by kernel_rfl
theorem acn:(Tryz.prog.make == some Kb.make)=true:=by kernel_rfl
end
section
def Cm:aC4->aC4->aC4
 | [],r=>r
 |x::l,r=>match r.contains x with
  |true=>Cm l r
  |false=>Cm l (x::r)
theorem Kc {a:Nat}: ∀{l r:aC4},a∈Cm l r->a∈l\/a∈r
 | [],r,h=>.inr h
 |x::l,r,h=>by
  unfold Cm at h
  split at h
  .rcases Kc h with h |h
   .exact .inl (aq2 _ h)
   .exact .inr h
  .rcases Kc h with h |h
   .exact .inl (aq2 _ h)
   .rcases aq5.1 h with rfl |h
    .exact .inl (ar2 ..)
    .exact .inr h
def Kd (acc:List aC4):aC4->aC4
 | []=>[]
 |d::l=>Cm (d::acc.getD d []) (Kd acc l)
theorem Q4 {acc:List aC4} {a:Nat}: ∀{l:aC4},a∈Kd acc l->a∈l\/ ∃d∈l,a∈acc.getD d []
 | [],h=>by cases h
 |d::l,h=>by
  rcases Kc h with h |h
  .rcases aq5.1 h with rfl |h
   .exact .inl (ar2 ..)
   .exact .inr ⟨d,ar2 ..,h⟩
  .rcases Q4 h with h |⟨e,U,h⟩
   .exact .inl (aq2 _ h)
   .exact .inr ⟨e,aq2 _ U,h⟩
def FK:List Oper->List aC4->List aC4
 | [],acc=>acc
 |o::l,acc=>FK l (acc++[Kd acc (qe o)])
theorem Q5: ∀(l:List Oper) (acc Cn:List aC4),acc.length=Cn.length->(∀j a,a∈acc.getD j []->a∈Cn.getD j [])-> ∀j a,a∈(FK l acc).getD j []->a∈(zn l Cn).getD j []
 | [],acc,Cn,_,h=>h
 |o::l,acc,Cn,ak,h=>by
  unfold FK zn;refine Q5 l _ _ (by simp[ak]) ?_;intro j a ha;rw[aq3] at ha⊢;rcases Nat.lt_trichotomy j acc.length with bt |sk |uw
  .rw[as6 bt,<-aq3] at ha;rw[as6 (ak▸bt),<-aq3];exact h j a ha
  .subst sk;rw[at1 (aq0 _)] at ha;rw[at1 (Nat.le_of_eq ak.symm)];simp only[Nat.sub_self,ar3,av9] at ha;simp only[ak,Nat.sub_self,ar3,av9,as1,List.mem_flatMap];rcases Q4 ha with ha |⟨d,H,ha⟩
   .exact .inl ha
   .exact .inr ⟨d,H,h d a ha⟩
  .rw[ax1 az8] at ha;simp at ha
theorem Q6 {all:List Oper} {an Q7:List aC4} (h: ∀j a,a∈an.getD j []->a∈Q7.getD j []): ∀l:List (Oper×k3×Nat),uo all an l=true->uo all Q7 l=true
 | [],_=>rfl
 |(o,n,i)::l,ai=>by
  simp only[uo,vj] at ai⊢;refine⟨as4.2 fun x hx=>?_,Q6 h l ai.2⟩;have:=as4.1 ai.1 x hx;obtain⟨p,m,j⟩:=x;simp only[av5,vj,as7] at this⊢;exact this.imp (fun g=>⟨h _ _ g.1,g.2⟩) id
def Q8 (K:aY) (B:az) (c':List Oper) (gr:List k3):Bool:=
 let es:=gr.reverse
 (c'.zipIdx.all fun(o,i)=>(qe o).all fun d=>Nat.blt d i)&&(es.all fun n=>n.e.bb.all fun c=>ui c K&&kF c B)&&uo c' (FK c' []) ((c'.zip es).zipIdx.map fun((o,n),i)=>(o,n,i))
theorem eF {K:aY} {B:az} {c':List Oper} {gr:List k3} (h:Q8 K B c' gr=true):vT K B c' gr=true:=by
 simp only[Q8,vj] at h;simp only[vT,vj];exact⟨h.1,Q6 (Q5 c' [] [] rfl fun _ _ h=>h) _ h.2⟩
end
section
def cx (P:Program) (f:FuncId) (args:List aP) (aJ:az) (bb:aC4) {X:Type} (res:X->aP) (aO:X->az):Prop:=
 jA P f=true/\ ∀(ρ:Nat->bn) (F:Nat->Nat->Prop) (I:Nat->Prop) (w:World) (bU:List Value),
  (∀b,I b->b < w.heap.size)->(∀c ch,ag aJ c=some ch->Holds ρ I (F c) w (ρ c) ch)->(∀c ch,ag aJ c=some ch-> ∀b,F c b->b < w.heap.size/\ ¬I b)->
  (∀c b9 ch ch' b,ag aJ c=some ch->ag aJ b9=some ch'->c≠b9->F c b-> ¬F b9 b)->
  bU.length=args.length->(∀(i:Nat) (v:aP) (x:Value),args[i]? =some v->bU[i]? =some x->cw ρ I w v x)->
  Calls P f bU.toArray w fun e w'=> ∃(g:X) (x:Value) (ρ':Nat->bn) (F':Nat->Nat->Prop),e= .returned x/\cS (fun b=> ∃c ch,ag aJ c=some ch/\F c b) w w'/\(∀c,c∉bb->ρ' c=ρ c)/\
   ∃I':Nat->Prop,cm I w I' w'/\(∀b,I' b->b < w'.heap.size/\(I b\/(∃c ch,ag aJ c=some ch/\F c b)\/w.heap.size<=b))/\
   (∀c ch,ag (aO g) c=some ch->Holds ρ' I' (F' c) w' (ρ' c) ch)/\
   (∀c ch,ag (aO g) c=some ch-> ∀b,F' c b->b < w'.heap.size/\ ¬I' b/\((∃gT cz,ag aJ gT=some cz/\F gT b)\/w.heap.size<=b))/\
   (∀c b9 ch ch' b,ag (aO g) c=some ch->ag (aO g) b9=some ch'->c≠b9->F' c b-> ¬F' b9 b)/\cw ρ' I' w' (res g) x
theorem Fn.x {P:Program} {f:FuncId} {args:List aP} {aJ:az} {bb:aC4} {res:aP} {aO:az} (h:Fn P f args aJ bb res aO):cx P f args aJ bb (fun _:Unit=>res) (fun _=>aO):=
 ⟨h.1,fun ρ F I w bU bZ cg a3 a4 a5 gB=>(h.2 ρ F I w bU bZ cg a3 a4 a5 gB).mono fun e w' q=>⟨(),q⟩⟩
section
variable {P:Program} {aS:dg} {N:Nat} {ids:aC4} {o:Oper} {K:aY} {B:az}
theorem e2.back {aJ:az} {bb:aC4} {r:aP} {aO:az} (hZ:k2 B aJ) (Ke:se ids K B bb=true) (nW:mF aJ bb aO=true) {C:fg} {a:Act} {w w':World} {ρ ρ':Nat->bn} {F F':Nat->Nat->Prop} {I':Nat->Prop} {x:Value} {dst:Option Nat}
  (hn:a.tmps.size=N) (H:a.defers=C.ds.map xi) (aj:Mem ids C B ρ F w) (ar:eq K ρ (bX C B F w) a w) (bt: ∀d,dst=some d->d < N)
  (cy:cS (fun b=> ∃c ch,ag aJ c=some ch/\F c b) w w') (dn: ∀c,c∉bb->ρ' c=ρ c) (gE: ∀b,I' b->b < w'.heap.size/\(bX C B F w b\/(∃c ch,ag aJ c=some ch/\F c b)\/w.heap.size<=b))
  (cZ: ∀c ch,ag aO c=some ch->Holds ρ' I' (F' c) w' (ρ' c) ch) (ap: ∀c ch,ag aO c=some ch-> ∀b,F' c b->b < w'.heap.size/\ ¬I' b/\((∃gT cz,ag aJ gT=some cz/\F gT b)\/w.heap.size<=b))
  (ic: ∀c b9 ch ch' b,ag aO c=some ch->ag aO b9=some ch'->c≠b9->F' c b-> ¬F' b9 b) (dy:cw ρ' I' w' r x):e2 N ids C (mD dst r K) (hk (iI aJ aO) B) (a.put dst x) w':=by
 have e1: ∀{c ch},ag aJ c=some ch->ag B c=some ch:=fun {c ch} J=>kI hZ J
 have oX: ∀c∈bb,(∀s,(dI K s).has c=false)/\ag B c=none/\(∀d ch,ag B d=some ch->ch.has c=false)/\c∉ids:=fun c J=>k4 (Fk Ke c J)
 have BY: ∀c,ag (hk (iI aJ aO) B) c=(match ag aO c with |some ch=>some ch |none=>if c∈cr aJ then none else ag B c):=Fj aJ aJ bb aO B nW
 have pA: ∀c ch,ag (hk (iI aJ aO) B) c=some ch->ag aO c=some ch\/(ag aO c=none/\c∉cr aJ/\ag B c=some ch):=fun c ch J=>by
  rw[BY] at J
  cases O:ag aO c with
  |some ch'=>rw[O] at J;exact .inl J
  |none=>
   rw[O] at J;simp only at J
   split at J
   .cases J
   .rename_i aa;exact .inr ⟨rfl,aa,J⟩
 let cN:Nat->Nat->Prop:=fun c=>if c∈cr aO then F' c else F c
 have j1: ∀c ch,ag aO c=some ch->cN c=F' c:=fun c ch J=>if_pos (gv.2 ⟨ch,J⟩)
 have BZ: ∀c,ag aO c=none->cN c=F c:=fun c J=>if_neg (fun aa=>by
  obtain⟨ch,h⟩:=gv.1 aa;rw[J] at h;cases h)
 have kJ: ∀c ch,ag aO c=some ch->c∈cr aJ\/c∈bb:=fun c ch J=>JH nW (gv.2 ⟨ch,J⟩)
 have uB: ∀c ch,ag (hk (iI aJ aO) B) c=some ch->(c∈cr aJ\/c∈bb)->ag aO c=some ch:=fun c ch J bI=>by
  rcases pA c ch J with h |⟨E,G,af⟩
  .exact h
  .rcases bI with h |h
   .exact absurd h G
   .rw[(oX c h).2.1] at af;cases af
 have so:cm I' w' (bX C (hk (iI aJ aO) B) cN w') w':=fun b O=>by
  obtain⟨ae,ao⟩:=gE b O;refine⟨⟨ae,?_,fun c ch J bh=>?_⟩,rfl⟩
  .rcases ao with ao |⟨c,ch,ao,bm⟩ |ao
   .exact ao.2.1
   .exact .inr ((aj.own c ch (e1 ao) b bm).2)
   .exact .inr (.inr (aj.fresh ao))
  .rcases pA c ch J with h |⟨E,G,af⟩
   .rw[j1 c ch h] at bh;exact(ap c ch h b bh).2.1 O
   .rw[BZ c E] at bh;rcases ao with ao |⟨d,ch',ao,bm⟩ |ao
    .exact ao.2.2 c ch af bh
    .exact aj.fh d c ch' ch b (e1 ao) af (fun e=>G (e▸gv.2 ⟨ch',ao⟩)) bm bh
    .have:=(aj.own c ch af b bh).1;omega
 obtain⟨bI,a1⟩:=aj.step (B':=hk (iI aJ aO) B) (ρ':=ρ') (F':=cN) (w':=w') (fun c=>c∈cr aJ\/c∈bb) (fun c=>c∈bb)
  (cy.mono fun b _ ⟨c,ch,E,G⟩=>⟨c,ch,e1 E,.inl (gv.2 ⟨ch,E⟩),G⟩)
  (fun c ch J hn=>by
   rcases pA c ch J with h |⟨_,_,af⟩
   .exact absurd (kJ c ch h) hn
   .exact af)
  dn
  (fun c hn=>by
   cases O:ag aO c with
   |none=>exact BZ c O
   |some ch=>exact absurd (kJ c ch O) hn)
  (fun c J hn=>(oX c hn).2.2.2 J) (fun c h=>.inr h)
  (fun c ch J _ d H hn=>by rw[(oX d hn).2.2.1 c ch J] at H;cases H)
  (fun c ch J bI _=>by
   have O:=uB c ch J bI;rw[j1 c ch O];exact Holds.cp so (fun _ _=>rfl) (aq0 _) ch (fun _ _=>rfl) (cZ c ch O))
  (fun c ch J bI b O=>by
   have xB:=uB c ch J bI;rw[j1 c ch xB] at O;obtain⟨ae,_,bm⟩:=ap c ch xB b O;refine⟨ae,bm.imp (fun⟨gT,cz,E,G⟩=>⟨gT,cz,e1 E,.inl (gv.2 ⟨cz,E⟩),G⟩) id⟩)
  (fun c b9 ch ch' b J cK kJ iW a7 O dp=>by
   have E:=uB c ch J kJ;have G:=uB b9 ch' cK iW;rw[j1 c ch E] at O;rw[j1 b9 ch' G] at dp;exact ic c b9 ch ch' b E G a7 O dp)
 refine⟨ki.trans hn,kj.trans H,ρ',cN,bI,(ar.mono a1 fun s d H=>dn d fun hn=>by rw[(oX d hn).1 s] at H;cases H).kk (fun e U=>by rw[hn];exact bt e U) (cw.mono so _ _ (fun _ _=>rfl) dy)⟩
theorem aco {f:FuncId} {args:List aP}
  (ux: ∀(ρ:Nat->bn) (I:Nat->Prop) (a:Act) (w:World),eq K ρ I a w-> ∃bU:List Value,(jA P f=true->(execOp a.eval o).run P w= .ok (.enter f bU.toArray) w)/\bU.length=args.length/\ ∀(i:Nat) (v:aP) (x:Value),args[i]? =some v->bU[i]? =some x->cw ρ I w v x)
  {X:Type} {aJ:az} {bb:aC4} {res:X->aP} {aO:X->az} (acp:cx P f args aJ bb res aO) (hZ:k2 B aJ) (Ke:se ids K B bb=true) (bv: ∀g,(se ids K B bb&&mF aJ bb (aO g))=true)
  {C:fg} {a:Act} {w:World} (aw:e2 N ids C K B a w) (bt: ∀d,o.dst=some d->d < N) {fJ:Act->World->Prop} {Q:Exit->Act->World->Prop} (cV: ∀g a' w',e2 N ids C (mD o.dst (res g) K) (hk (iI aJ (aO g)) B) a' w'->fJ a' w'):o.wp P a w fJ Q:=by
 obtain⟨fT,ko⟩:=acp;obtain⟨hn,H,ρ,F,aj,ar⟩:=aw;have e1: ∀{c ch},ag aJ c=some ch->ag B c=some ch:=fun {c ch} J=>kI hZ J
 obtain⟨bU,dN,rf,tt⟩:=ux ρ _ a w ar
 have J:=ko ρ F (bX C B F w) w bU (fun b O=>O.1) (fun c ch J=>aj.holds c ch (e1 J)) (fun c ch J b O=>⟨(aj.own c ch (e1 J) b O).1,fun a8=>a8.2.2 c ch (e1 J) O⟩)
  (fun c b9 ch ch' b E G=>aj.fh c b9 ch ch' b (e1 E) (e1 G)) rf tt
 unfold Oper.wp;rw[dN fT,Oper.upon_enter];refine J.mono ?_;rintro e w' ⟨g,x,ρ',F',rfl,cy,dn,I',jk,gE,cZ,ap,ic,dy⟩;exact cV g _ _ (e2.back hZ Ke (vj _ _▸bv g).2 hn H aj ar bt cy dn gE cZ ap ic dy)
theorem cx.of (bl:ec P aS) {f:FuncId} {fn:Func} {c:Code} (stops:aC4) (args:List aP) (aJ:az) (bb:aC4) {X:Type} (res:X->aP) (aO:X->az) (hf:P.funcs[f]? =some fn) (O:fn.body=some c) (hn:fn.ntmps=N) (fT:jA P f=true) (J:jF P N c=true) (e9:Nat.ble args.length N=true) (cf:zC P aS N (cr aJ)) {jl:List ResultVar} (xH:fn.results.toList=jl)
  (h:jB P aS N (cr aJ) stops c (oY 0 args) aJ (fun e K B=> ∃g,Fq aS (cr aJ) bb jl (res g) (aO g) e K B)):cx P f args aJ bb res aO:=by
 refine⟨fT,?_⟩;intro ρ F I w bU a8 cZ bh eE bV dy;have e9:=aw8 e9;refine Qj (r:=none) (n:=0) (callsIn_of_wp_marks hf O trivial ?_)
 let C:fg:=⟨w,I,fun b=> ∃c ch,ag aJ c=some ch/\F c b,ρ,[]⟩
 have sq:cm I w (bX C aJ F w) w:=fun b O=>⟨⟨a8 b O,.inl O,fun c ch J qk=>(bh c ch J b qk).2 O⟩,rfl⟩
 have aj:Mem (cr aJ) C aJ ρ F w:=⟨cS.refl _ _,fun c ch J=>Holds.cp sq (fun _ _=>rfl) (aq0 _) ch (fun _ _=>rfl) (cZ c ch J),fun c ch J b O=>⟨(bh c ch J b O).1,.inl ⟨c,ch,J,O⟩⟩,eE,fun c _=>rfl,av8,fun b O=>O.elim (a8 b) fun⟨c,ch,J,B7⟩=>(bh c ch J b B7).1,fun D cf=>by cases cf⟩;refine zD bl cf stops c _ _ _ J h none (fun _=>rfl) C _ ?_ _ w ⟨by simp[bV,hn];omega,rfl,ρ,F,aj,fun s=>?_⟩
 .intro e K' B' ds _ U a' w' d6;obtain⟨g,U⟩:=U
  cases e with
  |ex i=>exact U.elim
  |_=>
   obtain⟨Qs,jG,r,g8,ax,ai,hZ,pB⟩:=U;refine Qr d6 fun w' d6=>?_
   obtain⟨hC,k6,ρ',F',bI,B8⟩:=g8 N C _ w' d6;obtain⟨aE,dN,hD⟩: ∃aE:List Value,(jl.mapM (tv a'.tmps)).run P w'= .ok aE w'/\iU ρ' (bX C jG F' w') w' r aE:=Fm bl bI B8 jl r ax
   have jm: ∃x,(results fn a'.tmps).run P w'= .ok x w'/\cw ρ' (bX C jG F' w') w' (JO r) x:=by
    have E:fn.results=jl.toArray:=by rw[<-xH]
    have G:(fn.results.mapM (tv a'.tmps)).run P w'= .ok (List.toArray aE) w':=by
     rw[E,List.mapM_toArray];simp[dN]
    have af:results fn a'.tmps=(do let aE<-fn.results.mapM (tv a'.tmps);pure (if h:aE.size=1 then aE[0] else .tuple aE)):=rfl;rw[af]
    match r,aE,hD,G with
    | [],_,e,G=>rw[show _=[] from e] at G;exact⟨.tuple #[],by simp[G],[],rfl,rfl⟩
    | [x],_,⟨v,s,e,ay,aw⟩,G=>
     have aw:s=[]:=aw;subst aw e;exact⟨v,by simp[G],ay⟩
    |x::y::r,_,⟨v,s,e,ay,v2,bC,ao,tw,fS⟩,G=>
     subst ao e;exact⟨.tuple (List.toArray (v::v2::bC)),by simp[G],_,rfl,v,_,rfl,ay,v2,bC,rfl,tw,fS⟩
   obtain⟨x,hx,qi⟩:=jm;have qi:=v' ai qi;simp only[vj] at pB
   let uD:Nat->bn:=fun c=>if c∈bb then ρ' c else ρ c
   have ri: ∀c,c∈cr aJ++bb->uD c=ρ' c:=fun c J=>by
    show(if c∈bb then ρ' c else ρ c)=ρ' c
    split
    .rfl
    .rename_i hn;rcases as1.1 J with h |h
     .exact(bI.eI c h).symm
     .exact absurd h hn
   refine⟨x,hx,g,x,uD,F',rfl,bI.fr,fun c J=>if_neg J,bX C jG F' w',?_,fun b O=>⟨O.1,?_⟩,?_,?_,?_,?_⟩
   .intro b O;have wa: ¬C.qd b:=fun⟨c,ch,E,G⟩=>(bh c ch E b G).2 O
    refine⟨⟨ar6 (a8 b O) bI.fr.size,.inl O,fun c ch J qk=>?_⟩,bI.fr.block b (a8 b O) wa⟩;rcases(bI.own c ch J b qk).2 with h |h
    .exact wa h
    .have:=a8 b O;exact absurd h.1 (Nat.not_le.2 this)
   .rcases O.2.1 with h |h |h
    .exact .inl h
    .exact .inr (.inl h)
    .exact .inr (.inr h.1)
   .intro c ch J
    have aa:c∈cr aJ++bb:=by
     have:=as4.1 pB.2 c (gv.2 ⟨ch,J⟩);simpa only[as7] using this
    rw[ri c aa];exact Holds.cp (cm.refl _ _) (fun _ _=>rfl) (aq0 _) ch (fun d H=>ri d (ba.kK (xG pB.1.2 J) H)) (bI.holds c ch (kI hZ J))
   .intro c ch J b O;have cK:=kI hZ J;exact⟨(bI.own c ch cK b O).1,fun aF=>aF.2.2 c ch cK O,(bI.own c ch cK b O).2.imp id fun x=>x.1⟩
   .exact fun c b9 ch ch' b E G=>bI.fh c b9 ch ch' b (kI hZ E) (kI hZ G)
   .exact cw.mono (cm.refl _ _) (res g) x (fun c J=>ri c (aP.kK pB.1.1 J)) qi
 .rw[B5];simp only[aq8,if_true,Nat.sub_zero]
  cases aw:args[s]? with
  |none=>trivial
  |some v=>
   have bt:s < bU.length:=by rw[bV];exact(aq7.1 aw).1
   simp only[av9];have hx:bU[s]? =some bU[s]:=oj bt;have:=cw.mono sq v _ (fun _ _=>rfl) (dy s v _ aw hx);simpa[Array.getElem?_append,bt,hx] using this
theorem Q9 {ev:Operand->Value} {f:FuncId} {c:Call} {x:Operand} {xs:List Operand} {p:Value} {w:World} (hf:jA P f=true) (ah:o.op= .call c) (E:c.callee= .value x) (G:c.args.toList=xs) (uA:ev x= .func (.func f) #[p] #[]):(execOp ev o).run P w= .ok (.enter f (p::xs.map ev).toArray) w:=by
 have e9:c.args=xs.toArray:=by rw[<-G]
 obtain⟨rb,args,cv⟩:=c;simp only at E e9;subst E e9;unfold jA at hf
 split at hf
 .rename_i fn ko;simp only[Bool.not_eq_true',au4,beq_eq_false_iff_ne] at hf;have G: ¬fn.body=none:=fun e=>by rw[e] at hf;simp at hf
  simp[execOp,ah,resolve,invoke,uA,Deferred.ofValue,callFunc,go_sem,ko];rw[if_neg hf.1,if_neg G]
 .cases hf
def Kf (K:aY) (o:Oper):Option (FuncId×List aP):=match o.op with
 | .call c=>match c.callee with
  | .value (.func f)=>some (f,c.args.toList.map (a2 K))
  | .value (.tmp t)=>match dI K t with
   | .c (.one (.cY f l))=>some (f,c.args.toList.map (a2 K)++oO l)
   | .c (.one (.bJ (.func (.func f) bs cs)))=>match bs.toList,cs.toList with
    | [.pointer (some ⟨b,0,none⟩)],[]=>some (f,.c (.one (.d (.aM (some b))))::c.args.toList.map (a2 K))
    |_,_=>none
   |_=>none
  |_=>none
 |_=>none
def acq (P:Program) (f:FuncId) (args:List aP) (ids:aC4) (K:aY) (B:az) (k:aP->fP->Prop):Prop:=
 ∃(X:Type) (aJ:az) (bb:aC4) (res:X->aP) (aO:X->az),cx P f args aJ bb res aO/\k2 B aJ/\se ids K B bb=true/\(∀g,(se ids K B bb&&mF aJ bb (aO g))=true)/\ ∀g,oN (res g) fun r=>k r ⟨cr aJ,bb,iI aJ (aO g)⟩
def Co (P:Program) (ids:aC4) (o:Oper) (K:aY) (B:az) (S:aP->fP->Prop):Prop:=
 ∀(N:Nat) (C:fg) (a:Act) (w:World),e2 N ids C K B a w->(∀d,o.dst=some d->d < N)-> ∀(fJ:Act->World->Prop) (Q:Exit->Act->World->Prop),(∀v e a' w',S v e->e2 N ids C (mD o.dst v K) (hk e.iH B) a' w'->fJ a' w')->o.wp P a w fJ Q
def acr (o:Oper):Bool:=match o.op with
 | .next _ _=>true
 | .binOp .eql _ _ (.const (.slice none 0 0)) _=>true
 | .call c=>match c.callee with
  | .builtin .delete=>true
  |_=>false
 |_=>false
def xO (P:Program) (l:Nat) (args:List aP) (aJ:az) {X:Type} (res:X->aP) (aO:X->az):Prop:=
 ∀(ρ:Nat->bn) (F:Nat->Nat->Prop) (I:Nat->Prop) (w:World) (bU:List Value),
  (∀b,I b->b < w.heap.size)->(∀c ch,ag aJ c=some ch->Holds ρ I (F c) w (ρ c) ch)->(∀c ch,ag aJ c=some ch-> ∀b,F c b->b < w.heap.size/\ ¬I b)->
  (∀c b9 ch ch' b,ag aJ c=some ch->ag aJ b9=some ch'->c≠b9->F c b-> ¬F b9 b)->
  bU.length=args.length->(∀(i:Nat) (v:aP) (x:Value),args[i]? =some v->bU[i]? =some x->cw ρ I w v x)->
  ∃f tmps assign body,(Instr.yield l bU.toArray).run P w= .ok (.round l f tmps assign body) w/\RoundIn (oQ none) 0 P l f tmps assign body w fun e w'=> ∃(g:X) (x:Value) (ρ':Nat->bn) (F':Nat->Nat->Prop),e= .returned x/\cS (fun b=> ∃c ch,ag aJ c=some ch/\F c b) w w'/\(∀c,ρ' c=ρ c)/\
   ∃I':Nat->Prop,cm I w I' w'/\(∀b,I' b->b < w'.heap.size/\(I b\/(∃c ch,ag aJ c=some ch/\F c b)\/w.heap.size<=b))/\
   (∀c ch,ag (aO g) c=some ch->Holds ρ' I' (F' c) w' (ρ' c) ch)/\
   (∀c ch,ag (aO g) c=some ch-> ∀b,F' c b->b < w'.heap.size/\ ¬I' b/\((∃gT cz,ag aJ gT=some cz/\F gT b)\/w.heap.size<=b))/\
   (∀c b9 ch ch' b,ag (aO g) c=some ch->ag (aO g) b9=some ch'->c≠b9->F' c b-> ¬F' b9 b)/\cw ρ' I' w' (res g) x
def FL (K:aY) (o:Oper):Option (Nat×List aP):=match o.op with
 | .call c=>match c.callee with
  | .value (.tmp t)=>match dI K t with
   | .c (.one (.bJ (.func (.yield l) fs cs)))=>match fs.toList,cs.toList with
    | [],[]=>some (l,c.args.toList.map (a2 K))
    |_,_=>none
   |_=>none
  |_=>none
 |_=>none
def acs (P:Program) (l:Nat) (args:List aP) (B:az) (k:aP->fP->Prop):Prop:=
 ∃(X:Type) (aJ:az) (res:X->aP) (aO:X->az),xO P l args aJ res aO/\k2 B aJ/\(∀g,mF aJ [] (aO g)=true)/\ ∀g,oN (res g) fun r=>k r ⟨cr aJ,[],iI aJ (aO g)⟩
theorem acu {ev:Operand->Value} {l:Nat} {c:Call} {x:Operand} {xs:List Operand} {w:World} (ah:o.op= .call c) (E:c.callee= .value x) (G:c.args.toList=xs) (uA:ev x= .func (.yield l) #[] #[]):(execOp ev o).run P w=(Instr.yield l (xs.map ev).toArray).run P w:=by
 have e9:c.args=xs.toArray:=by rw[<-G]
 obtain⟨rb,args,cv⟩:=c;simp only at E e9;subst E e9;simp[execOp,ah,resolve,invoke,uA,Deferred.ofValue]
theorem acv {l:Nat} {xs:List aP} (h:FL K o=some (l,xs)) {ρ:Nat->bn} {I:Nat->Prop} {a:Act} {w:World} (ar:eq K ρ I a w): ∃bU:List Value,(execOp a.eval o).run P w=(Instr.yield l bU.toArray).run P w/\(∀c,o.op≠ .defer c)/\bU.length=xs.length/\ ∀(i:Nat) (v:aP) (x:Value),xs[i]? =some v->bU[i]? =some x->cw ρ I w v x:=by
 unfold FL at h
 split at h
 .rename_i c ah
  split at h
  .rename_i t J
   split at h
   .rename_i l' fs cs ak
    split at h
    .rename_i v1 e8;injection h with h
     injection h with E G
     subst E G;have v1:fs= #[]:=by rw[<-au7];exact v1
     have e8:cs= #[]:=by rw[<-au7];exact e8
     subst v1 e8;have ay:a.eval (.tmp t)= .func (.yield l') #[] #[]:=ar.ev (x:=.tmp t) (s:=.c (.one (.bJ (.func (.yield l') #[] #[])))) ak;have dC: ∀d,o.op≠ .defer d:=fun d e=>by rw[ah] at e;cases e
     refine⟨c.args.toList.map a.eval,?_,dC,ay6,fun i v x ay hx=>?_⟩
     .exact acu ah J rfl ay
     .rw[as0] at ay hx;obtain⟨aB,aN,rfl⟩:=at3.1 ay;rw[aN] at hx;simp only[av4,aq4] at hx;subst hx;exact ar.get aB
    .cases h
   .cases h
  .cases h
 .cases h
theorem acw {l:Nat} {args:List aP} (ah:FL K o=some (l,args)) {X:Type} {aJ:az} {res:X->aP} {aO:X->az} (aD:xO P l args aJ res aO) (hZ:k2 B aJ) (bv: ∀g,mF aJ [] (aO g)=true)
  {C:fg} {a:Act} {w:World} (aw:e2 N ids C K B a w) (bt: ∀d,o.dst=some d->d < N) {r:Option Nat} {fJ:Act->World->Prop} {Q:Exit->Act->World->Prop} (cV: ∀g a' w',e2 N ids C (mD o.dst (res g) K) (hk (iI aJ (aO g)) B) a' w'->fJ a' w'):o.wpIn (oQ r) 0 P a w fJ Q:=by
 obtain⟨hn,H,ρ,F,aj,ar⟩:=aw;have e1: ∀{c ch},ag aJ c=some ch->ag B c=some ch:=fun {c ch} J=>kI hZ J
 obtain⟨bU,dN,dC,rf,tt⟩:=acv (P:=P) (w:=w) ah ar
 obtain⟨f,tmps,assign,body,Kg,Ra⟩:=aD ρ F (bX C B F w) w bU (fun b O=>O.1) (fun c ch J=>aj.holds c ch (e1 J)) (fun c ch J b O=>⟨(aj.own c ch (e1 J) b O).1,fun a8=>a8.2.2 c ch (e1 J) O⟩)
  (fun c b9 ch ch' b E G=>aj.fh c b9 ch ch' b (e1 E) (e1 G)) rf tt
 refine⟨fun _ _=>trivial,?_⟩;rw[Oper.semAt_eq _ _ _ dC,dN,Kg,Oper.uponIn_round];refine⟨fun aw=>absurd aw ay6,RoundIn.mono (F:=oQ r) (n:=0 - 1) Ra ?_⟩;rintro e w' ⟨g,x,ρ',F',rfl,cy,dn,I',jk,gE,cZ,ap,ic,dy⟩;exact cV g _ _ (e2.back hZ rfl (bv g) hn H aj ar bt cy (fun c _=>dn c) gE cZ ap ic dy)
def acx (K:aY) (o:Oper):Bool:=match o.op with
 | .mapUpdate _ _ _ v=>match a2 K v with
  | .c (.one (.ptr _ 0))=>true
  |_=>false
 |_=>false
def Kh (P:Program) (aS:dg) (ids:aC4) (o:Oper) (K:aY) (B:az) (k:aP->fP->Prop):Prop:=match Kf K o with
 |some (f,xs)=>acq P f xs ids K B k
 |none=>match FL K o with
  |some (l,xs)=>acs P l xs B k
  |none=>match acr o||acx K o with
   |true=> ∃S:aP->fP->Prop,Co P ids o K B S/\ ∀v e,S v e->oN v fun v=>k v e
   |false=>EW P aS ids o K B k
noncomputable def Ki (P:Program) (aS:dg) (ids:aC4) (all:List Oper) (o:Oper) (l:List Oper) (bq:aY->az->Prop) (K:aY) (B:az):Prop:=
 match um all K o.guard with
 |none=>False
 |some false=>match o.dst with
  |some d=>bq ((d,.undef)::K) B
  |none=>bq K B
 |some true=>Kh P aS ids o K B fun v e=>match o.dst with
  |none=>xk e.iH B fun B=>bq K B
  |some d=>match EX (all.length - l.length - 1) l,v with
   |true,.c (.one (.d (.bool b)))=>xk e.iH B fun B=>(b=true->bq ((d,.c (.one (.d (.lit true))))::K) B)/\(b=false->bq ((d,.c (.one (.d (.lit false))))::K) B)
   |_,v=>xk e.iH B fun B=>bq ((d,v)::K) B
noncomputable def FM (P:Program) (aS:dg) (ids:aC4) (all l:List Oper) (K:aY) (B:az) (k:aY->az->Prop):Prop:=
 List.rec (motive:=fun _=>aY->az->Prop) k (fun o l bq K B=>Ki P aS ids all o l bq K B) l K B
theorem acy {all l:List Oper} {k:aY->az->Prop}:FM P aS ids all (o::l) K B k=Ki P aS ids all o l (fun K B=>FM P aS ids all l K B k) K B:=rfl
theorem acz {f:FuncId} {xs:List aP} (h:Kf K o=some (f,xs)) (ρ:Nat->bn) (I:Nat->Prop) (a:Act) (w:World) (ar:eq K ρ I a w): ∃bU:List Value,(jA P f=true->(execOp a.eval o).run P w= .ok (.enter f bU.toArray) w)/\bU.length=xs.length/\ ∀(i:Nat) (v:aP) (x:Value),xs[i]? =some v->bU[i]? =some x->cw ρ I w v x:=by
 unfold Kf at h
 split at h
 .rename_i c ah
  split at h
  .rename_i tz J;injection h with h
   injection h with E G
   subst E G;refine⟨c.args.toList.map a.eval,fun fT=>P' fT ah J rfl rfl,ay6,fun i v x ay hx=>?_⟩;rw[as0] at ay hx;obtain⟨aB,aN,rfl⟩:=at3.1 ay;rw[aN] at hx;simp only[av4,aq4] at hx;subst hx;exact ar.get aB
  .rename_i t J
   split at h
   .rename_i tz l ak;injection h with h
    injection h with E G
    subst E G;have ay:=ar t;rw[ak] at ay;obtain⟨aE,e,xP⟩:=ay;obtain⟨cA,cF⟩:=hW.bU l aE xP;refine⟨c.args.toList.map a.eval++aE,fun fT=>JI fT ah J rfl e,by simp[cA],fun i v x ay hx=>?_⟩
    by_cases aF:i < c.args.toList.length
    .rw[as6 (by simpa using aF)] at ay hx;rw[as0] at ay hx;obtain⟨aB,aN,rfl⟩:=at3.1 ay;rw[aN] at hx;simp only[av4,aq4] at hx;subst hx;exact ar.get aB
    .rw[at1 (by simpa using aF)] at ay hx;simp only[ar1] at ay hx;exact cF _ v x ay hx
   .rename_i tz bs cs ak
    split at h
    .rename_i b O dS;injection h with h
     injection h with E G
     subst E G
     have ay:a.eval (.tmp t)= .func (.func tz) bs cs:=by
      have au:=ar t;rw[ak] at au;exact au
     have ae:bs= #[.pointer (some ⟨b,0,none⟩)]:=au7.1 O;have ao:cs= #[]:=au7.1 dS;subst ae ao;refine⟨.pointer (some ⟨b,0,none⟩)::c.args.toList.map a.eval,fun fT=>Q9 fT ah J rfl ay,ay6,fun i v x ay hx=>?_⟩
     cases i with
     |zero=>
      simp only[ar3,aq4] at ay hx;subst ay hx;rfl
     |succ i=>
      rw[ax9,as0] at ay hx;obtain⟨aB,aN,rfl⟩:=at3.1 ay;rw[aN] at hx;simp only[av4,aq4] at hx;subst hx;exact ar.get aB
    .cases h
   .cases h
  .cases h
 .cases h
theorem acA (bl:ec P aS) (dC: ∀c,o.op≠ .defer c) (r:Option Nat) {k:aP->fP->Prop} (h:Kh P aS ids o K B k) {C:fg} {a:Act} {w:World} (aw:e2 N ids C K B a w) (bt: ∀d,o.dst=some d->d < N) {fJ:Act->World->Prop} {Q:Exit->Act->World->Prop} (cV: ∀v e a' w',k v e->e2 N ids C (mD o.dst v K) (hk e.iH B) a' w'->fJ a' w'):o.wpIn (oQ r) 0 P a w fJ Q:=by
 unfold Kh at h
 split at h
 .rename_i f xs J;obtain⟨X,aJ,bb,res,aO,E,G,af,aW,bG⟩:=h;refine B3 dC (aco (acz J) E G af aW aw bt fun g a' w' d6=>?_);have bG:=bG g;rw[sd] at bG;exact cV _ _ _ _ bG d6
 .split at h
  .rename_i l xs J;obtain⟨X,aJ,res,aO,E,G,af,aW⟩:=h;refine acw J E G af aw bt fun g a' w' d6=>?_
   have aW:=aW g;rw[sd] at aW;exact cV _ _ _ _ aW d6
  .split at h
   .obtain⟨S,ar,h⟩:=h;refine B3 dC (ar N C a w aw bt fJ Q fun v e a' w' ay d6=>?_);have h:=h v e ay;rw[sd] at h;exact cV _ _ _ _ h d6
   .obtain⟨v,e,h,ap,hf⟩:=JJ bl h;exact B3 dC (ap K B (fun _ _=>rfl) (fun _ _=>rfl) hf C a w aw bt fJ Q fun a' w' fS=>cV _ _ _ _ h fS)
theorem xQ (bl:ec P aS) (all:List Oper): ∀(l:List Oper) (K:aY) (B:az) (k:aY->az->Prop),tu N l=true->FM P aS ids all l K B k-> ∀(C:fg) (a:Act) (w:World),e2 N ids C K B a w->
  ∀(r:Option Nat) (Q:Exit->Act->World->Prop),(∀K' B',k K' B'-> ∀a' w',e2 N ids C K' B' a' w'->Q .normal a' w')->wpListIn (oQ r) 0 P all.toArray Q l a w
 | [],K,B,k,_,h,C,a,w,aw,r,Q,aa=>wpListIn_nil (aa K B h a w aw)
 |o::l,K,B,k,H,h,C,a,w,aw,r,Q,aa=>by
  simp only[tu,vj] at H;obtain⟨⟨v7,dC⟩,dm⟩:=H;have dC:=JL dC;have bt: ∀d,o.dst=some d->d < N:=fun d e=>by rw[e] at v7;simpa[Nat.blt_eq] using v7
  have d6:=aw;obtain⟨_,_,ρ,F,aj,ar⟩:=d6;rw[acy] at h;unfold Ki at h;simp only[IN] at h;refine wpListIn_step fun fJ B4=>?_
  split at h
  .exact h.elim
  .rename_i hw;rw[if_neg (by rw[zB hw ar];simp)];refine⟨fun _ _=>trivial,B4 _ _ ?_⟩;have a6:=aw.undef o.dst bt
   split at h
   .rename_i d e;rw[e] at a6⊢;exact xQ bl all l _ _ k dm h C _ w a6 r Q aa
   .rename_i e;rw[e] at a6⊢;exact xQ bl all l _ _ k dm h C _ w a6 r Q aa
  .rename_i hw;rw[if_pos (zB hw ar)];refine acA bl dC r h aw bt fun v e a' w' h fS=>B4 _ _ ?_
   split at h
   .rename_i ao;rw[ao] at fS;exact xQ bl all l _ _ k dm h C _ w' fS r Q aa
   .rename_i d ao;rw[ao] at fS
    split at h
    .rename_i b aZ
     cases b with
     |true=>exact xQ bl all l _ _ k dm (h.1 rfl) C _ w' fS.lit r Q aa
     |false=>exact xQ bl all l _ _ k dm (h.2 rfl) C _ w' fS.lit r Q aa
    .exact xQ bl all l _ _ k dm h C _ w' fS r Q aa
theorem bw.iL (bl:ec P aS) {id:Nat} {c':Array Oper} {Q:oP->aY->az->Prop} (H:tu N c'.toList=true) (h:FM P aS ids c'.toList c'.toList K B (fun K B=>Q .g7 K B)):bw P N ids (.region id c' false) K B Q:=by
 intro r ax C iK aT a w aw;refine wpIn_region_list ?_;have:=xQ bl c'.toList c'.toList K B _ H h C a w aw r iK (fun K' B' aa a' w' d6=>aT .g7 K' B' C.ds (fun _=>rfl) aa a' w' d6);simpa using this
def di (ids:aC4) (K:aY) (B:az) {X:Type} (K':X->aY) (B':X->az):Prop:= ∀(N:Nat) (C:fg) (a:Act) (w:World),e2 N ids C K B a w-> ∃x,e2 N ids C (K' x) (B' x) a w
theorem bw.e4 {c:Code} {X:Type} {K':X->aY} {B':X->az} {Q:oP->aY->az->Prop} (h:di ids K B K' B') (cq: ∀x,bw P N ids c (K' x) (B' x) Q):bw P N ids c K B Q:=fun r ax C iK aT a w aw=>by
 obtain⟨x,hx⟩:=h N C a w aw;exact cq x r ax C iK aT a w hx
end
end
end Go.Proofs.YtkfbeijmgggkmaaGreat
