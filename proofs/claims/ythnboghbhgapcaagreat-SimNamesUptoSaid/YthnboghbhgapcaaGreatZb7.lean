/-
A part of the proof of this claim: lemmas, with no condition beyond what each says.
-/
import Derived.Test.YthnboghbhgapcaaGreatRows
import Derived.Test.YthnboghbhgapcaaGreatProg
import Derived.Deep.Slices
import Derived.Deep.Fields
import Derived.OpenShut
import Derived.WalkKit
import Derived.ProofKit
import Derived.JoinedCond
import Derived.Below
import Derived.Carry
import Derived.ChangeSame
import Derived.Test.YthnboghbhgapcaaGreatZb6
set_option linter.unusedVariables false
set_option linter.unusedSimpArgs false
set_option maxRecDepth 10000
set_option maxHeartbeats 4000000
namespace Go.Proofs.YthnboghbhgapcaaGreat
open Go.RowKit Go.Proofs
section
open Go.RowKit Go.ChangeShapes Go.WideShapes Go.Deep
noncomputable def fM:(u:bx)->aa u->Nat
 | .int _,_=>1
 | .u8,_=>1
 | .bool,_=>1
 | .str,s=>1+List.length s
 | .aL,_=>1
 | .dC,_=>1
 | .fn,_=>1
 | .b7 u,xs=>1+(List.map (fM u) xs).sum
 | .bQ u v,p=>fM u p.1+fM v p.2
 | .arr _ u,xs=>(List.map (fM u) xs).sum
def q8:(u:bx)->aa u->Prop
 | .int k,n=>(Lit.int k n).wf=true
 | .b7 u,xs=> ∀x,D2 (α:=aa u) x xs->q8 u x
 | .bQ u v,p=>q8 u p.1/\q8 v p.2
 | .arr _ u,xs=> ∀x,D2 (α:=aa u) x xs->q8 u x
 |_,_=>True
def qa (P:Program) (ty:bx->TypeId->Bool):bx->List Field->Nat->Bool
 |_,[],_=>false
 |u,[f],off=>Nat.beq f.offset off&&ty u f.type&&Nat.beq (P.cellsOf f.type) (aQ u)
 | .bQ u v,f::g::fs,off=>Nat.beq f.offset off&&ty u f.type&&Nat.beq (P.cellsOf f.type) (aQ u)&&qa P ty v (g::fs) (off+aQ u)
 |_,_::_::_,_=>false
def qb (P:Program):Nat->bx->TypeId->Bool
 |0,_,_=>false
 |n+1,u,t=>match P.underlying t,u with
  |some (.int k),.int dV=>l2 k dV
  |some (.int k),.u8=>l2 k .u8
  |some .bool,.bool=>true
  |some .string,.str=>true
  |some (.slice e),.b7 v=>qb P n v e&&Nat.beq (P.cellsOf e) (aQ v)&&Nat.blt 0 (aQ v)
  |some (.array m e),.arr gp v=>Nat.beq m gp&&qb P n v e&&Nat.beq (P.cellsOf e) (aQ v)
  |some (.struct fs),u=>qa P (qb P n) u fs.toList 0
  |_,_=>false
section
variable {hE:Type} {enc:TypeId×Value->hE} {w:World} {base:Nat} {Jz:Nat->Bool} {held:Bool} {P:Program}
theorem JA (d:DataW hE):1<=Rows.uptoBulk d:=by
 unfold Rows.uptoBulk
 split <;>omega
theorem P1 (l r:List (DataW hE)):Rows.uptoBulkAll (l++r)=Rows.uptoBulkAll l+Rows.uptoBulkAll r:=by
 induction l with
 |nil=>simp[Rows.uptoBulkAll]
 |cons x l br=>simp only[List.cons_append,Rows.uptoBulkAll,br];omega
def P2 (w:World) (u:bx) (cs:List Value) (b:Nat):Prop:= ∃a:aa u,co (fun b=>b < w.heap.size) w u a (fun j=>cs[j]?)/\fM u a<=b/\q8 u a
theorem xu {I:Nat->Prop} {u:bx} {a:aa u} {c bX:Nat->Option Value} (h:co I w u a c) (H: ∀j v,c j=some v->bX j=some v):co I w u a bX:=co.mono (ce.refl I w) u a c bX H h
theorem JB {cs:List Value} {o k j:Nat} {v:Value} (h:((cs.drop o).take k)[j]? =some v):cs[o+j]? =some v:=by
 rw[List.getElem?_take] at h
 split at h
 .rwa[List.getElem?_drop] at h
 .cases h
theorem P3 {ty:bx->TypeId->Bool} {n:Nat} (br: ∀u t,ty u t=true-> ∀cs x,DataW.trod enc P w base Jz held n t cs=some x->P2 w u cs (Rows.uptoBulk x.1)):
  ∀(fs:List Field) (u:bx) (off:Nat) (xs:List (DataW hE×List MemPlace)) (cs:List Value),qa P ty u fs off=true->xs.length=fs.length->
   (∀(i:Nat) (f:Field),fs[i]? =some f->DataW.trod enc P w base Jz held n f.type ((cs.drop f.offset).take (P.cellsOf f.type))=xs[i]?)->
   ∃a:aa u,co (fun b=>b < w.heap.size) w u a (fun j=>cs[off+j]?)/\fM u a<=Rows.uptoBulkAll (xs.map (·.1))/\q8 u a
 | [],u,off,xs,cs,h,_,_=>by simp[qa] at h
 | [f],u,off,xs,cs,h,al,hf=>by
  simp only[qa,vj,Nat.beq_eq] at h;obtain⟨⟨E,G⟩,aj⟩:=h
  match xs,al with
  | [x],_=>
   obtain⟨a,cx,cA,dy⟩:=br _ _ G _ _ (hf 0 f rfl);subst E;exact⟨a,xu cx fun j v ay=>JB ay,by simpa[Rows.uptoBulkAll] using cA,dy⟩
 |f::g::fs,.bQ u v,off,xs,cs,h,al,hf=>by
  simp only[qa,vj,Nat.beq_eq] at h;obtain⟨⟨⟨E,G⟩,aj⟩,aX⟩:=h
  match xs,al with
  |x::xs,al=>
   obtain⟨a,cx,cA,dy⟩:=br _ _ G _ _ (hf 0 f rfl);obtain⟨b,r1,r2,ga⟩:=P3 br (g::fs) v (off+aQ u) xs cs aX ay2 (fun i f aH=>hf (i+1) f aH);subst E;refine⟨(a,b),⟨xu cx fun j v ay=>JB ay,xu r1 fun j v ay=>by simpa only[Nat.add_assoc] using ay⟩,?_,dy,ga⟩;simp only[fM,aq4,Rows.uptoBulkAll];omega
 |_::_::_,.int _,_,_,_,h,_,_=>by simp[qa] at h
 |_::_::_,.u8,_,_,_,h,_,_=>by simp[qa] at h
 |_::_::_,.bool,_,_,_,h,_,_=>by simp[qa] at h
 |_::_::_,.str,_,_,_,h,_,_=>by simp[qa] at h
 |_::_::_,.aL,_,_,_,h,_,_=>by simp[qa] at h
 |_::_::_,.b7 _,_,_,_,h,_,_=>by simp[qa] at h
 |_::_::_,.arr _ _,_,_,_,h,_,_=>by simp[qa] at h
theorem P4 {α:Type} {l:List α} {y x:α} {i:Nat} (h:fD (l++[y]) i=some x):(i < l.length/\fD l i=some x)\/(i=l.length/\x=y):=by
 unfold fD at*;rcases Nat.lt_trichotomy i l.length with E |E |E
 .rw[ar7 E] at h;exact .inl ⟨E,h⟩
 .subst E;simp only[List.getElem?_concat_length,ap4] at h;exact .inr ⟨rfl,h.symm⟩
 .rw[at6 av9] at h
  cases h
theorem E8: ∀(n:Nat) (u:bx) (t:TypeId),qb P n u t=true-> ∀(m:Nat) (cs:List Value) (x:DataW hE×List MemPlace),DataW.trod enc P w base Jz held m t cs=some x->P2 w u cs (Rows.uptoBulk x.1)
 |0,u,t,h,_,_,_,_=>by simp[qb] at h
 |n+1,u,t,h,m,cs,x,hx=>by
  unfold qb at h
  split at h
  case h_1 k dV a7=>
   obtain rfl:=nH h;obtain⟨i,rfl,rfl,hw⟩:=DataW.trod_int a7 hx;exact⟨i,rfl,JA _,hw⟩
  case h_2 k a7=>
   obtain rfl:=nH h;obtain⟨i,rfl,rfl,hw⟩:=DataW.trod_int a7 hx
   have ab:0<=i/\i < 256:=by
    simp[Lit.wf,IntKind.min,IntKind.max,IntKind.bits,IntKind.signed] at hw;omega
   refine⟨(UInt8.ofNat i.toNat:UInt8),?_,JA _,trivial⟩;show some (Value.int .u8 i)=some (Value.int .u8 _)
   congr 2
   rw[UInt8.toNat_ofNat'];omega
  case h_3 a7=>
   obtain⟨b,rfl,rfl⟩:=DataW.trod_bool a7 hx;exact⟨b,rfl,JA _,trivial⟩
  case h_4 a7=>
   obtain⟨s,rfl,rfl,ax⟩:=DataW.trod_string a7 hx;refine⟨(s.data.toList:ay4),rfl,?_,trivial⟩;simp only[fM,Rows.uptoBulk];omega
  case h_5 e v a7=>
   simp only[vj,Nat.beq_eq] at h;obtain⟨⟨E,G⟩,aj⟩:=h;have aj:0 < aQ v:=by simpa[Nat.blt_eq] using aj
   rcases open_slice a7 hx with⟨rfl,rfl⟩ |⟨a,len,cap,gp,n',D,bn,rfl,hd,al,az,ZP,rfl,q9⟩
   .refine⟨([]:List (aa v)),⟨none,0,rfl,ap0 _,ap7 _,fun h=>absurd h (Nat.lt_irrefl 0)⟩,by simp[fM,Rows.uptoBulk],fun x hx=>by cases hx⟩
   .rw[G] at q9;have aoT:len<=gp:=by rw[ZP];split <;>omega
    have key: ∀k,k<=len-> ∃l:List (aa v),l.length=k/\(l.map (fM v)).sum<=Rows.uptoBulkAll ((List.range k).map D)/\(∀x,x∈l->q8 v x)/\
      (∀i x,fD l i=some x->co (fun b=>b < w.heap.size) w v x (fun j=>if j < aQ v then w.cell? ((a.add (i*aQ v)).add j) else none)):=by
     intro k
     induction k with
     |zero=>exact fun _=>⟨[],rfl,au7,(fun x h=>by cases h),fun i x h=>by simp[fD] at h⟩
     |succ k ZQ=>
      intro ab;obtain⟨l,iV,gN,pt,uw⟩:=ZQ au5;obtain⟨ZR,H,ZS⟩:=q9 k au5;obtain⟨y,ux,vS,BN⟩:=E8 n v e E _ _ _ ZS;obtain⟨-,dJ,sd⟩:=World.cells?_some H;refine⟨l++[y],by simp[iV],?_,?_,?_⟩
      .rw[List.range_succ,as3,as3,List.sum_append,P1];have vS:fM v y<=Rows.uptoBulk (D k):=vS;simp only[Rows.uptoBulkAll,aq4,au0,List.sum_cons,List.sum_nil];omega
      .intro x hx;rcases aq8.1 hx with hx |hx
       .exact pt x hx
       .simp at hx;subst hx;exact BN
      .intro i x aH;rcases P4 aH with⟨_,aH⟩ |⟨rfl,rfl⟩
       .exact uw i x aH
       .rw[iV];refine xu ux fun j cW ay=>?_
        have Z:=(ap5.1 ay).1;rw[if_pos au5,sd j au5];exact ay
    obtain⟨l,iV,gN,pt,uw⟩:=key len (ap0 _);refine⟨l,⟨some a,cap,by rw[show List.length (α:=aa v) l=len from iV];rfl,by rw[show List.length (α:=aa v) l=len from iV];exact al,az,fun av=>?_⟩,?_,pt⟩
    .have av:0 < len:=by rw[<-iV];exact av
     obtain⟨ZR,H,_⟩:=q9 0 au5;obtain⟨-,dJ,sd⟩:=World.cells?_some H;have BO:=sd 0 au5;rw[oj au5] at BO;obtain⟨b,o,spot⟩:=a;have ZT:spot=none:=by simpa[Addr.add] using World.cell?_spot BO
     subst ZT;have hd:=World.block_lt_of_cell? w _ BO;refine⟨b,o,rfl,by simpa[Addr.add] using hd,fun i x aH=>xu (uw i x aH) fun j cW ay=>?_⟩
     split at ay
     .rwa[add_plain,add_plain,Nat.add_assoc] at ay
     .cases ay
    .simp only[fM,Rows.uptoBulk];exact(show 1+(l.map (fM v)).sum<=_ by omega)
  case h_6 k e dV v a7=>
   simp only[vj,Nat.beq_eq] at h;obtain⟨⟨av,E⟩,G⟩:=h;subst av;obtain⟨xs,gp,rfl,rfl,al,vI,hf⟩:=DataW.trod_array a7 hx;rw[G] at hf
   have key: ∀q,q<=k-> ∃l:List (aa v),l.length=q/\(l.map (fM v)).sum<=Rows.uptoBulkAll ((xs.take q).map (·.1))/\(∀x,x∈l->q8 v x)/\
     (∀i x,fD l i=some x->co (fun b=>b < w.heap.size) w v x (fun j=>cs[i*aQ v+j]?)):=by
    intro q
    induction q with
    |zero=>exact fun _=>⟨[],rfl,au7,(fun x h=>by cases h),fun i x h=>by simp[fD] at h⟩
    |succ q ZU=>
     intro aT;obtain⟨l,iV,gN,pt,uw⟩:=ZU au5;have P5:=hf q au5;rw[oj au5] at P5;obtain⟨y,ux,vS,BN⟩:=E8 n v e E _ _ _ P5;refine⟨l++[y],by simp[iV],?_,?_,?_⟩
     .rw[List.take_add_one,oj au5,as3,as3,List.sum_append,P1];simp only[Rows.uptoBulkAll,aq4,au0,List.sum_cons,List.sum_nil,Option.toList_some];omega
     .intro x hx;rcases aq8.1 hx with hx |hx
      .exact pt x hx
      .simp at hx;subst hx;exact BN
     .intro i x aH;rcases P4 aH with⟨_,aH⟩ |⟨rfl,rfl⟩
      .exact uw i x aH
      .rw[iV];exact xu ux fun j cW ay=>JB ay
   obtain⟨l,iV,gN,pt,uw⟩:=key k (ap0 _);refine⟨l,⟨iV,uw⟩,?_,pt⟩;rw[List.take_of_length_le au5] at gN;simp only[fM,Rows.uptoBulk];exact(show(l.map (fM v)).sum<=_ by omega)
  case h_7 s4 fs a7=>
   obtain⟨xs,gp,rfl,rfl,al,vI,hf⟩:=DataW.trod_struct a7 hx;obtain⟨a,cx,cA,dy⟩:=P3 (fun u t cq cs x h=>E8 n u t cq _ cs x h) fs.toList _ 0 xs cs h (by simpa using vI) (fun i f aH=>hf i f (by simpa using aH));refine⟨a,xu cx fun j v ay=>by rw[Nat.zero_add] at ay;exact ay,?_,dy⟩;simp only[Rows.uptoBulk];omega
  case h_8=>cases h
end
end
section
namespace vT
def t3:cb:=⟨.int .i64,1,false,[.d (.int .i64 0)],[],some (.int .i64),8⟩
def t4:cb:=⟨.bool,1,false,[.d (.lit false)],[],some .bool,1⟩
def t5:cb:=⟨.int .u8,1,false,[.d (.int .u8 0)],[],some .u8,1⟩
def t9:cb:=⟨.str,1,false,[.d (.str [])],[],some .str,16⟩
def t20:cb:=⟨.other,1,false,[.bJ .nilIface],[],none,16⟩
def ZV:cb:=⟨.int .i32,1,false,[.d (.int .i32 0)],[],some (.int .i32),4⟩
def t23:cb:=⟨.st,3,true,[.d (.int .i64 0),.d (.int .i64 0),.d (.int .i64 0)],[(0,1),(1,1),(2,1)],some (.bQ (.int .i64) (.bQ (.int .i64) (.int .i64))),24⟩
def t24:cb:=⟨.b7 28,1,false,[.dD],[],some (.b7 (.bQ (.int .i64) (.bQ (.int .i64) (.bQ (.int .i64) (.bQ (.b7 .u8) (.bQ .str (.bQ .str (.b7 (.bQ .str (.b7 (.int .i64))))))))))),24⟩
def t25:cb:=⟨.b7 5,1,false,[.dD],[],some (.b7 .u8),24⟩
def t26:cb:=⟨.b7 73,1,false,[.dD],[],some (.b7 (.bQ .str (.b7 (.int .i64)))),24⟩
def t28:cb:=⟨.st,7,true,[.d (.int .i64 0),.d (.int .i64 0),.d (.int .i64 0),.dD,.d (.str []),.d (.str []),.dD],[(0,1),(1,1),(2,1),(3,1),(4,1),(5,1),(6,1)],some (.bQ (.int .i64) (.bQ (.int .i64) (.bQ (.int .i64) (.bQ (.b7 .u8) (.bQ .str (.bQ .str (.b7 (.bQ .str (.b7 (.int .i64)))))))))),104⟩
def t29:cb:=⟨.ptr 70,1,false,[.bJ (.pointer none)],[],some .aL,8⟩
def ZW:cb:=⟨.int .i64,1,false,[.d (.int .i64 0)],[],some (.int .i64),8⟩
def t35:cb:=⟨.other,1,false,[.bJ .nilFunc],[],some .fn,8⟩
def t36:cb:=⟨.b7 80,1,false,[.dD],[],some (.b7 (.bQ .str (.b7 (.int .i64)))),24⟩
def ZX:cb:=⟨.st,7,true,[.d (.int .i64 0),.d (.int .i64 0),.d (.int .i64 0),.dD,.d (.str []),.d (.str []),.dD],[(0,1),(1,1),(2,1),(3,1),(4,1),(5,1),(6,1)],some (.bQ (.int .i64) (.bQ (.int .i64) (.bQ (.int .i64) (.bQ (.b7 .u8) (.bQ .str (.bQ .str (.b7 (.bQ .str (.b7 (.int .i64)))))))))),104⟩
def ZY:cb:=⟨.ptr 92,1,false,[.bJ (.pointer none)],[],some .aL,8⟩
def t44:cb:=⟨.ptr 84,1,false,[.bJ (.pointer none)],[],some .aL,8⟩
def ZZ:cb:=⟨.ptr 100,1,false,[.bJ (.pointer none)],[],some .aL,8⟩
def Z0:cb:=⟨.ptr 103,1,false,[.bJ (.pointer none)],[],some .aL,8⟩
def t57:cb:=⟨.ptr 106,1,false,[.bJ (.pointer none)],[],some .aL,8⟩
def Z1:cb:=⟨.other,1,false,[.bJ .nilIface],[],none,16⟩
def Z2:cb:=⟨.ptr 167,1,false,[.bJ (.pointer none)],[],some .aL,8⟩
def Z3:cb:=⟨.ptr 177,1,false,[.bJ (.pointer none)],[],some .aL,8⟩
def t63:cb:=⟨.b7 109,1,false,[.dD],[],some (.b7 (.bQ (.int .i64) (.b7 .u8))),24⟩
def Z4:cb:=⟨.st,5,true,[.d (.str []),.d (.str []),.d (.int .i64 0),.d (.int .i64 0),.dD],[(0,1),(1,1),(2,1),(3,1),(4,1)],some (.bQ .str (.bQ .str (.bQ (.int .i64) (.bQ (.int .i64) (.b7 (.bQ (.int .i64) (.b7 .u8))))))),72⟩
def Z5:cb:=⟨.ptr 161,1,false,[.bJ (.pointer none)],[],some .aL,8⟩
def Z6:cb:=⟨.st,7,true,[.d (.str []),.d (.str []),.d (.int .i64 0),.d (.int .i64 0),.dD,.d (.str []),.bJ (.pointer none)],[(0,5),(5,1),(6,1)],some (.bQ (.bQ .str (.bQ .str (.bQ (.int .i64) (.bQ (.int .i64) (.b7 (.bQ (.int .i64) (.b7 .u8))))))) (.bQ .str .aL)),96⟩
def Z7:cb:=⟨.st,17,true,[.d (.int .i64 0),.d (.str []),.bJ (.pointer none),.bJ (.pointer none),.bJ (.pointer none),.bJ (.pointer none),.d (.int .i64 0),.bJ .nilIface,.bJ (.pointer none),.bJ (.pointer none),.d (.str []),.d (.str []),.d (.int .i64 0),.d (.int .i64 0),.dD,.d (.str []),.bJ (.pointer none)],[(0,1),(1,1),(2,1),(3,1),(4,1),(5,1),(6,1),(7,1),(8,1),(9,1),(10,7)],none,192⟩
def Z8:cb:=⟨.b7 3,1,false,[.dD],[],some (.b7 (.int .i64)),24⟩
def Z9:cb:=⟨.st,2,true,[.d (.str []),.dD],[(0,1),(1,1)],some (.bQ .str (.b7 (.int .i64))),40⟩
def Z':cb:=⟨.mp 3 35,1,false,[.bJ (.map none)],[],none,8⟩
def aaa:cb:=⟨.st,2,true,[.d (.str []),.dD],[(0,1),(1,1)],some (.bQ .str (.b7 (.int .i64))),40⟩
def aab:cb:=⟨.ptr 86,1,false,[.bJ (.pointer none)],[],some .aL,8⟩
def aac:cb:=⟨.mp 9 81,1,false,[.bJ (.map none)],[],none,8⟩
def aad:cb:=⟨.st,3,true,[.d (.int .i64 0),.d (.int .i64 0),.bJ (.map none)],[(0,1),(1,1),(2,1)],none,24⟩
def aae:cb:=⟨.st,2,true,[.bJ (.pointer none),.d (.str [])],[(0,1),(1,1)],some (.bQ .aL .str),24⟩
def aaf:cb:=⟨.ptr 143,1,false,[.bJ (.pointer none)],[],some .aL,8⟩
def aag:cb:=⟨.ptr 205,1,false,[.bJ (.pointer none)],[],some .aL,8⟩
def aah:cb:=⟨.mp 3 25,1,false,[.bJ (.map none)],[],none,8⟩
def aai:cb:=⟨.b7 350,1,false,[.dD],[],some (.b7 (.bQ .str .aL)),24⟩
def aaj:cb:=⟨.st,5,true,[.d (.int .i64 0),.bJ (.pointer none),.bJ (.pointer none),.bJ (.map none),.dD],[(0,1),(1,1),(2,1),(3,1),(4,1)],none,56⟩
def aak:cb:=⟨.other,1,false,[.bJ .nilFunc],[],some .fn,8⟩
def aal:cb:=⟨.b7 9,1,false,[.dD],[],some (.b7 .str),24⟩
def aam:cb:=⟨.mp 9 183,1,false,[.bJ (.map none)],[],none,8⟩
def aan:cb:=⟨.st,2,true,[.d (.int .i64 0),.bJ (.map none)],[(0,1),(1,1)],none,16⟩
def aao:cb:=⟨.mp 9 162,1,false,[.bJ (.map none)],[],none,8⟩
def aap:cb:=⟨.st,1,true,[.bJ (.map none)],[(0,1)],none,8⟩
def aaq:cb:=⟨.b7 65,1,false,[.dD],[],some (.b7 (.bQ .str (.bQ .str (.bQ (.int .i64) (.bQ (.int .i64) (.b7 (.bQ (.int .i64) (.b7 .u8)))))))),24⟩
def aar:cb:=⟨.st,1,true,[.dD],[(0,1)],some (.b7 (.bQ .str (.bQ .str (.bQ (.int .i64) (.bQ (.int .i64) (.b7 (.bQ (.int .i64) (.b7 .u8)))))))),24⟩
def aas:cb:=⟨.st,2,true,[.d (.int .i64 0),.dD],[(0,1),(1,1)],some (.bQ (.int .i64) (.b7 .u8)),32⟩
def aat:cb:=⟨.other,1,false,[.bJ .nilFunc],[],some .fn,8⟩
def aau:cb:=⟨.ptr 172,1,false,[.bJ (.pointer none)],[],some .aL,8⟩
def aav:cb:=⟨.mp 3 268,1,false,[.bJ (.map none)],[],none,8⟩
def aaw:cb:=⟨.st,2,true,[.d (.int .i64 0),.bJ (.map none)],[(0,1),(1,1)],none,16⟩
def aax:cb:=⟨.other,1,false,[.bJ .nilFunc],[],some .fn,8⟩
def aay:cb:=⟨.other,1,false,[.bJ .nilFunc],[],some .fn,8⟩
def aaz:cb:=⟨.other,1,false,[.bJ .nilFunc],[],some .fn,8⟩
def aaA:cb:=⟨.other,1,false,[.bJ .nilFunc],[],some .fn,8⟩
def aaB:cb:=⟨.mp 3 3,1,false,[.bJ (.map none)],[],none,8⟩
def aaC:cb:=⟨.st,3,true,[.d (.int .i64 0),.d (.int .i64 0),.bJ (.map none)],[(0,1),(1,1),(2,1)],none,24⟩
def aaD:cb:=⟨.ptr 165,1,false,[.bJ (.pointer none)],[],some .aL,8⟩
def aaE:cb:=⟨.st,4,true,[.d (.str []),.d (.lit false),.d (.lit false),.bJ (.pointer none)],[(0,1),(1,1),(2,1),(3,1)],some (.bQ .str (.bQ .bool (.bQ .bool .aL))),32⟩
def aaF:cb:=⟨.st,5,true,[.bJ (.pointer none),.d (.str []),.d (.str []),.bJ (.map none),.d (.lit false)],[(0,1),(1,1),(2,1),(3,1),(4,1)],none,56⟩
def aaG:cb:=⟨.st,4,true,[.bJ (.pointer none),.d (.str []),.d (.str []),.d (.lit false)],[(0,1),(1,1),(2,1),(3,1)],some (.bQ .aL (.bQ .str (.bQ .str .bool))),48⟩
def aaH:cb:=⟨.st,9,true,[.bJ (.pointer none),.d (.str []),.d (.int .i64 0),.d (.int .i64 0),.d (.int .i64 0),.bJ (.map none),.bJ (.map none),.d (.lit false),.d (.lit false)],[(0,1),(1,1),(2,1),(3,1),(4,1),(5,1),(6,1),(7,1),(8,1)],none,72⟩
def aaI:cb:=⟨.ptr 239,1,false,[.bJ (.pointer none)],[],some .aL,8⟩
def aaJ:cb:=⟨.other,1,false,[.bJ .nilFunc],[],some .fn,8⟩
def aaK:cb:=⟨.ptr 246,1,false,[.bJ (.pointer none)],[],some .aL,8⟩
def aaL:cb:=⟨.st,1,true,[.dD],[(0,1)],some (.b7 (.int .i64)),24⟩
def aaM:cb:=⟨.other,1,false,[.bJ .nilFunc],[],some .fn,8⟩
def aaN:cb:=⟨.st,4,true,[.d (.int .i64 0),.d (.int .i64 0),.d (.int .i64 0),.d (.int .i64 0)],[(0,1),(1,1),(2,1),(3,1)],some (.bQ (.int .i64) (.bQ (.int .i64) (.bQ (.int .i64) (.int .i64)))),32⟩
def aaO:cb:=⟨.other,1,false,[.bJ .nilFunc],[],some .fn,8⟩
def aaP:cb:=⟨.other,1,false,[.bJ .nilFunc],[],some .fn,8⟩
def aaQ:cb:=⟨.other,1,false,[.bJ .nilFunc],[],some .fn,8⟩
def aaR:cb:=⟨.other,1,false,[.bJ .nilFunc],[],some .fn,8⟩
def aaS:cb:=⟨.other,1,false,[.bJ .nilFunc],[],some .fn,8⟩
def aaT:cb:=⟨.st,3,true,[.d (.int .i64 0),.d (.int .i64 0),.d (.lit false)],[(0,1),(1,1),(2,1)],some (.bQ (.int .i64) (.bQ (.int .i64) .bool)),24⟩
def aaU:cb:=⟨.other,1,false,[.bJ .nilFunc],[],some .fn,8⟩
def aaV:cb:=⟨.other,1,false,[.bJ .nilFunc],[],some .fn,8⟩
def aaW:cb:=⟨.b7 271,1,false,[.dD],[],some (.b7 (.bQ (.int .i64) (.bQ (.int .i64) (.int .i64)))),24⟩
def aaX:cb:=⟨.mp 3 241,1,false,[.bJ (.map none)],[],none,8⟩
def aaY:cb:=⟨.b7 243,1,false,[.dD],[],some (.b7 (.bQ (.int .i64) (.arr 16 .u8))),24⟩
def aaZ:cb:=⟨.st,5,true,[.d (.int .i64 0),.d (.int .i64 0),.bJ (.map none),.bJ (.map none),.dD],[(0,1),(1,1),(2,1),(3,1),(4,1)],none,56⟩
def aa0:cb:=⟨.arr 16 5,16,true,[.d (.int .u8 0),.d (.int .u8 0),.d (.int .u8 0),.d (.int .u8 0),.d (.int .u8 0),.d (.int .u8 0),.d (.int .u8 0),.d (.int .u8 0),.d (.int .u8 0),.d (.int .u8 0),.d (.int .u8 0),.d (.int .u8 0),.d (.int .u8 0),.d (.int .u8 0),.d (.int .u8 0),.d (.int .u8 0)],[],some (.arr 16 .u8),16⟩
def aa1:cb:=⟨.st,17,true,[.d (.int .i64 0),.d (.int .u8 0),.d (.int .u8 0),.d (.int .u8 0),.d (.int .u8 0),.d (.int .u8 0),.d (.int .u8 0),.d (.int .u8 0),.d (.int .u8 0),.d (.int .u8 0),.d (.int .u8 0),.d (.int .u8 0),.d (.int .u8 0),.d (.int .u8 0),.d (.int .u8 0),.d (.int .u8 0),.d (.int .u8 0)],[(0,1),(1,16)],some (.bQ (.int .i64) (.arr 16 .u8)),24⟩
def aa2:cb:=⟨.st,2,true,[.dD,.d (.int .i64 0)],[(0,1),(1,1)],some (.bQ (.b7 .u8) (.int .i64)),32⟩
def aa3:cb:=⟨.int .u64,1,false,[.d (.int .u64 0)],[],some (.int .u64),8⟩
def aa4:cb:=⟨.other,1,false,[.bJ .nilFunc],[],some .fn,8⟩
def aa5:cb:=⟨.other,1,false,[.bJ .nilFunc],[],some .fn,8⟩
def aa6:cb:=⟨.other,1,false,[.bJ .nilFunc],[],some .fn,8⟩
def aa7:cb:=⟨.arr 16 224,48,true,[.d (.int .i64 0),.d (.int .i64 0),.d (.lit false),.d (.int .i64 0),.d (.int .i64 0),.d (.lit false),.d (.int .i64 0),.d (.int .i64 0),.d (.lit false),.d (.int .i64 0),.d (.int .i64 0),.d (.lit false),.d (.int .i64 0),.d (.int .i64 0),.d (.lit false),.d (.int .i64 0),.d (.int .i64 0),.d (.lit false),.d (.int .i64 0),.d (.int .i64 0),.d (.lit false),.d (.int .i64 0),.d (.int .i64 0),.d (.lit false),.d (.int .i64 0),.d (.int .i64 0),.d (.lit false),.d (.int .i64 0),.d (.int .i64 0),.d (.lit false),.d (.int .i64 0),.d (.int .i64 0),.d (.lit false),.d (.int .i64 0),.d (.int .i64 0),.d (.lit false),.d (.int .i64 0),.d (.int .i64 0),.d (.lit false),.d (.int .i64 0),.d (.int .i64 0),.d (.lit false),.d (.int .i64 0),.d (.int .i64 0),.d (.lit false),.d (.int .i64 0),.d (.int .i64 0),.d (.lit false)],[],some (.arr 16 (.bQ (.int .i64) (.bQ (.int .i64) .bool))),384⟩
def aa8:cb:=⟨.st,3,true,[.d (.int .i64 0),.d (.int .i64 0),.d (.int .i64 0)],[(0,1),(1,1),(2,1)],some (.bQ (.int .i64) (.bQ (.int .i64) (.int .i64))),24⟩
def aa9:cb:=⟨.other,1,false,[.bJ .nilFunc],[],some .fn,8⟩
def aa':cb:=⟨.ptr 293,1,false,[.bJ (.pointer none)],[],some .aL,8⟩
def aba:cb:=⟨.b7 113,1,false,[.dD],[],some (.b7 .fn),24⟩
def abb:cb:=⟨.st,2,true,[.dD,.d (.int .i64 0)],[(0,1),(1,1)],some (.bQ (.b7 .fn) (.int .i64)),32⟩
def abc:cb:=⟨.other,1,false,[.bJ .nilFunc],[],some .fn,8⟩
def abd:cb:=⟨.int .i64,1,false,[.d (.int .i64 0)],[],some (.int .i64),8⟩
def abe:cb:=⟨.int .u32,1,false,[.d (.int .u32 0)],[],some (.int .u32),4⟩
def abf:cb:=⟨.int .u64,1,false,[.d (.int .u64 0)],[],some (.int .u64),8⟩
def abg:cb:=⟨.b7 25,1,false,[.dD],[],some (.b7 (.b7 .u8)),24⟩
def abh:cb:=⟨.other,1,false,[.bJ .nilFunc],[],some .fn,8⟩
def abi:cb:=⟨.int .u64,1,false,[.d (.int .u64 0)],[],some (.int .u64),8⟩
def abj:cb:=⟨.ptr 3,1,false,[.bJ (.pointer none)],[],some .aL,8⟩
def abk:cb:=⟨.ptr 320,1,false,[.bJ (.pointer none)],[],some .aL,8⟩
def abl:cb:=⟨.mp 3 113,1,false,[.bJ (.map none)],[],none,8⟩
def abm:cb:=⟨.st,2,true,[.d (.str []),.bJ (.pointer none)],[(0,1),(1,1)],some (.bQ .str .aL),24⟩
def abn:cb:=⟨.other,1,false,[.bJ .nilFunc],[],some .fn,8⟩
def types:dc:=(.node (.node (.node (.node (.node (.node (.node .leaf 3 t3 .leaf) 4 t4 (.node .leaf 5 t5 .leaf)) 9 t9 (.node (.node .leaf 20 t20 .leaf) 21 ZV .leaf)) 23 t23 (.node (.node (.node .leaf 24 t24 .leaf) 25 t25 (.node .leaf 26 t26 .leaf)) 28 t28 (.node (.node .leaf 29 t29 .leaf) 30 ZW .leaf))) 35 t35 (.node (.node (.node (.node .leaf 36 t36 .leaf) 38 ZX (.node .leaf 43 ZY .leaf)) 44 t44 (.node (.node .leaf 52 ZZ .leaf) 55 Z0 .leaf)) 57 t57 (.node (.node (.node .leaf 60 Z1 .leaf) 61 Z2 (.node .leaf 62 Z3 .leaf)) 63 t63 (.node (.node .leaf 65 Z4 .leaf) 66 Z5 .leaf)))) 68 Z6 (.node (.node (.node (.node (.node .leaf 70 Z7 .leaf) 71 Z8 (.node .leaf 73 Z9 .leaf)) 78 Z' (.node (.node .leaf 80 aaa .leaf) 81 aab .leaf)) 82 aac (.node (.node (.node .leaf 84 aad .leaf) 86 aae (.node .leaf 87 aaf .leaf)) 88 aag (.node (.node .leaf 89 aah .leaf) 90 aai .leaf))) 92 aaj (.node (.node (.node (.node .leaf 95 aak .leaf) 96 aal (.node .leaf 98 aam .leaf)) 100 aan (.node (.node .leaf 101 aao .leaf) 103 aap .leaf)) 104 aaq (.node (.node (.node .leaf 106 aar .leaf) 109 aas .leaf) 113 aat (.node (.node .leaf 121 aau .leaf) 141 aav .leaf))))) 143 aaw (.node (.node (.node (.node (.node (.node .leaf 149 aax .leaf) 154 aay (.node .leaf 156 aaz .leaf)) 158 aaA (.node (.node .leaf 159 aaB .leaf) 161 aaC .leaf)) 162 aaD (.node (.node (.node .leaf 165 aaE .leaf) 167 aaF (.node .leaf 172 aaG .leaf)) 177 aaH (.node (.node .leaf 183 aaI .leaf) 185 aaJ .leaf))) 187 aaK (.node (.node (.node (.node .leaf 205 aaL .leaf) 206 aaM (.node .leaf 209 aaN .leaf)) 213 aaO (.node (.node .leaf 215 aaP .leaf) 216 aaQ .leaf)) 219 aaR (.node (.node (.node .leaf 220 aaS .leaf) 224 aaT (.node .leaf 228 aaU .leaf)) 231 aaV (.node (.node .leaf 233 aaW .leaf) 236 aaX .leaf)))) 237 aaY (.node (.node (.node (.node (.node .leaf 239 aaZ .leaf) 241 aa0 (.node .leaf 243 aa1 .leaf)) 246 aa2 (.node (.node .leaf 248 aa3 .leaf) 249 aa4 .leaf)) 251 aa5 (.node (.node (.node .leaf 252 aa6 .leaf) 268 aa7 (.node .leaf 271 aa8 .leaf)) 274 aa9 (.node (.node .leaf 278 aa' .leaf) 291 aba .leaf))) 293 abb (.node (.node (.node (.node .leaf 295 abc .leaf) 297 abd (.node .leaf 305 abe .leaf)) 307 abf (.node (.node .leaf 316 abg .leaf) 317 abh .leaf)) 320 abi (.node (.node (.node .leaf 324 abj .leaf) 328 abk .leaf) 347 abl (.node (.node .leaf 350 abm .leaf) 352 abn .leaf))))))
end vT
set_option maxRecDepth 100000 in
theorem eX:d6 Tryz.prog vT.types:=d6.of au8
theorem mixed:Tryz.prog.follows .mixedOrders=true:=by kernel_rfl
end
section
open Go.ChangeShapes Go.WideShapes Go.ChangeAt Go.RowKit
section
variable {hE:Type} {enc:TypeId×Value->hE} {P:Program}
theorem abo {f:Func} {s:ChangeSpec} {apart fresh handsOn again:Bool} {W j2:World} {args:Array Value} {v:Value} {ds gs:List (DataW hE)} {oO pa pv:List MemPlace}
  (d2:DataW.Whole enc P f.params.toList s.vars apart W args.toList ds gs oO)
  (i7: ∀(b:Nat) (sp:Nat->Bool) (J:Bool),DataW.TrodAll enc P j2 b sp J f.resultTypes.toList (v.resultList f.resultTypes.size) (s.fn hE (ds++gs)).results [])
  (fu: ∀sp:Nat->Bool,(∀p∈oO,sp p.block=true)->DataW.TrodAll enc P j2 0 sp true f.params.toList args.toList (s.fn hE (ds++gs)).args pa)
  (BP: ∀sp:Nat->Bool,(∀p∈oO,sp p.block=true)->DataW.TrodVars enc P j2 sp s.vars (s.fn hE (ds++gs)).vars pv)
  (lw:oO=pa++pv) (O:Below W.heap.size W j2)
  (bu: ∀(j:Nat) (t:TypeId) (r:Value),f.resultTypes[j]? =some t->(v.resultList f.resultTypes.size)[j]? =some r->Value.okWide P j2 .any 0 t r):
  s.post enc P f apart fresh handsOn again W args v j2:=by
 have bw: ∀p∈oO,p.block < W.heap.size:=fun p af=>d2.lt p af
 have mD: ∀p∈oO,(fun b=>decide (b < W.heap.size)) p.block=true:=fun p af=>by simpa using bw p af
 refine⟨ds,gs,oO,[],pa,pv,d2,i7 _ _ _,fu _ mD,BP _ mD,World.keptBut_mono (fun p af=>⟨af,?_⟩) (O.frame (· ∈oO)),fun _=>?_⟩
 .rw[lw,aq8] at af;exact Or.inr af
 .obtain⟨_,_,_,_,_,aR,hn⟩:=d2;refine⟨bu,_,_,([]++pa)++pv,⟨[]++pa,pv,trodAll_append (fu _ (fun _ _=>rfl)) (i7 _ _ _),BP _ (fun _ _=>rfl),rfl,?_,?_⟩,?_⟩
  .intro b off af;have ft:MemPlace.cell b off∈oO:=by rw[lw];simpa using af
   rw[O.frozen (bw _ ft)];exact aR b off ft
  .intro ha;have:=hn ha;rw[lw] at this;simpa using this
  .intro p af _;rw[lw];simpa using af
end
def P6:(u:bx)->aa u->aP
 | .bQ u v,x=>.c (.agg (gi (.bQ u v) x 0 (aQ (.bQ u v))))
 | .arr n u,x=>.c (.agg (gi (.arr n u) x 0 (aQ (.arr n u))))
 | .int k,x=>.c (.one (.d (fC (.int k) x 0)))
 | .u8,x=>.c (.one (.d (fC .u8 x 0)))
 | .bool,x=>.c (.one (.d (fC .bool x 0)))
 | .str,x=>.c (.one (.d (fC .str x 0)))
 | .aL,x=>.c (.one (.d (fC .aL x 0)))
 | .dC,x=>.c (.one (.d (fC .dC x 0)))
 | .fn,x=>.c (.one (.d (fC .fn x 0)))
 | .b7 u,x=>.c (.one (.d (fC (.b7 u) x 0)))
def uy (P:Program) (t:TypeId):Bool:=match P.underlying t with
 |some (.struct _)=>false
 |some (.array _ _)=>false
 |some _=>true
 |none=>false
def E9 (P:Program) (u:bx) (t:TypeId):Bool:=qb P 20 u t&&(mZ u == uy P t)&&Nat.beq (P.cellsOf t) (aQ u)&&P.readableRec t&&Nat.blt t P.types.size
section
variable {hE:Type} {enc:TypeId×Value->hE} {W:World} {P:Program} {ρ:Nat->bn} {I:Nat->Prop}
theorem P7 {u:bx} {x:aa u} {cs:List Value} (J:co I W u x (fun j=>cs[j]?)): ∀(n o:Nat),o+n<=aQ u->o+n<=cs.length->b' ρ I W (gi u x o n) ((cs.drop o).take n)
 |0,o,_,_=>by simp[gi,b']
 |n+1,o,h,al=>by
  obtain⟨v,ay,up⟩:=co.cell u x _ o J au5;refine⟨v,(cs.drop (o+1)).take n,?_,up,P7 J n (o+1) au5 au5⟩;have:=(ap5.1 ay).2;rw[List.drop_eq_getElem_cons (by omega:o < cs.length),List.take_succ_cons,this]
theorem abp {t:TypeId} {v:Value} {base:Nat} (E:uy P t=true) (h:Value.okWide P W .any base t v) {fuel:Nat} {sp:Nat->Bool} {u:bx} {n:Nat} {x:DataW hE×List MemPlace} (a7:qb P n u t=true) (G:mZ u=true):v.cells.toList=[v]:=by
 cases n with
 |zero=>simp[qb] at a7
 |succ n=>
  unfold qb at a7
  split at a7
  case h_1 k dV cq=>obtain⟨n,rfl⟩:=okWide_int cq h;rfl
  case h_2 k cq=>obtain⟨n,rfl⟩:=okWide_int cq h;rfl
  case h_3 cq=>obtain⟨n,rfl⟩:=okWide_bool cq h;rfl
  case h_4 cq=>obtain⟨n,rfl⟩:=okWide_string cq h;rfl
  case h_5 e v cq=>obtain⟨a,b,c,rfl⟩:=okWide_slice cq h;rfl
  case h_6=>simp[mZ] at G
  case h_7 fs u cq=>simp[uy,cq] at E
  case h_8=>cases a7
theorem abq {t:TypeId} {v:Value} {base:Nat} (E:uy P t=false) (h:Value.okWide P W .any base t v) {n:Nat} {u:bx} (a7:qb P n u t=true): ∃cs,v= .agg cs/\cs.size=P.cellsOf t:=by
 cases n with
 |zero=>simp[qb] at a7
 |succ n=>
  unfold qb at a7;unfold Value.okWide at h
  split at a7
  case h_1 k dV cq=>simp[uy,cq] at E
  case h_2 k cq=>simp[uy,cq] at E
  case h_3 cq=>simp[uy,cq] at E
  case h_4 cq=>simp[uy,cq] at E
  case h_5 e v cq=>simp[uy,cq] at E
  case h_6 k e dV v cq=>rw[cq] at h;obtain⟨cs,E,G,_⟩:=h;exact⟨cs,E,G⟩
  case h_7 fs u cq=>rw[cq] at h;obtain⟨cs,E,G,_⟩:=h;exact⟨cs,E,G⟩
  case h_8=>cases a7
theorem abr {u:bx} {t:TypeId} {v:Value} {d:DataW hE} {bE:List MemPlace} {base:Nat} {sp:Nat->Bool} (h:E9 P u t=true) (bu:Value.okWide P W .any base t v) (cd:DataW.Trod enc P W 0 sp true t v d bE):
  ∃a:aa u,cr ρ (fun b=>b < W.heap.size) W (P6 u a) v/\fM u a<=Rows.uptoBulk d/\q8 u a:=by
 simp only[E9,vj,Nat.beq_eq,beq_iff_eq] at h;obtain⟨⟨⟨⟨E,G⟩,aj⟩,_⟩,_⟩:=h;obtain⟨n,hn⟩:=cd;obtain⟨a,cx,cA,dy⟩:=E8 _ _ _ E _ _ _ hn;refine⟨a,?_,cA,dy⟩
 cases ah:mZ u with
 |true=>
  rw[abp (x:=(d,bE)) (fuel:=n) (sp:=sp) (by rw[<-G,ah]) bu E ah] at cx;obtain⟨cW,ai,ao⟩:=co.cell u a _ 0 cx (by rcases u with _ |_ |_ |_ |_ |_ |_ <;>simp[aQ,mZ] at*);simp only[aq5,ap4] at ai;subst ai
  cases u <;>first |exact ao |(simp[mZ] at ah)
 |false=>
  obtain⟨cs,rfl,cM⟩:=abq (by rw[<-G,ah]) bu E;have al:cs.toList.length=aQ u:=by rw[Array.length_toList];omega
  have:=P7 (ρ:=ρ) cx (aQ u) 0 au5 (by simpa[Value.cells] using(show 0+aQ u<=cs.toList.length by omega));rw[List.drop_zero,List.take_of_length_le (by simp only[Value.cells];omega)] at this
  cases u <;>first |exact⟨_,rfl,this⟩ |(simp[mZ] at ah)
def zu:List bx->Type
 | []=>Unit
 |u::us=>aa u×zu us
def vU:(us:List bx)->zu us->List aP
 | [],_=>[]
 |u::us,x=>P6 u x.1::vU us x.2
noncomputable def E':(us:List bx)->zu us->Nat
 | [],_=>0
 |u::us,x=>fM u x.1+E' us x.2
def JC:(us:List bx)->zu us->Prop
 | [],_=>True
 |u::us,x=>q8 u x.1/\JC us x.2
def tl (P:Program):List bx->List TypeId->Bool
 | [],[]=>true
 |u::us,t::cp=>E9 P u t&&tl P us cp
 |_,_=>false
theorem P8 {base:Nat} {sp:Nat->Bool}: ∀(us:List bx) (cp:List TypeId) (aE:List Value) (ds:List (DataW hE)) (bE:List MemPlace),tl P us cp=true->(∀(j:Nat) t v,cp[j]? =some t->aE[j]? =some v->Value.okWide P W .any base t v)->
  DataW.TrodAll enc P W 0 sp true cp aE ds bE-> ∃a:zu us,aE.length=(vU us a).length/\(∀(i:Nat) (s:aP) (x:Value),(vU us a)[i]? =some s->aE[i]? =some x->cr ρ (fun b=>b < W.heap.size) W s x)/\E' us a<=Rows.uptoBulkAll ds/\JC us a
 | [],[],aE,ds,bE,_,_,cd=>by
  obtain⟨rfl,rfl,rfl⟩:=trodAll_nil cd;exact⟨(),rfl,fun i s x h=>by simp[vU] at h,ap7 _,trivial⟩
 | [],_::_,_,_,_,h,_,_=>by simp[tl] at h
 |_::_,[],_,_,_,h,_,_=>by simp[tl] at h
 |u::us,t::cp,aE,ds,bE,h,bu,cd=>by
  simp only[tl,vj] at h;obtain⟨v,aE,d,ds,p,q,rfl,rfl,rfl,av,aF⟩:=trodAll_cons cd;obtain⟨a,b4,cg,a3⟩:=abr (ρ:=ρ) h.1 (bu 0 t v rfl rfl) av;obtain⟨b,b1,b2,b3,ef⟩:=P8 us cp aE ds q h.2 (fun j t v E G=>bu (j+1) t v E G) aF;refine⟨(a,b),by simp[vU,b1],fun i s x E G=>?_,by simp only[E',Rows.uptoBulkAll];omega,a3,ef⟩
  match i with
  |0=>simp only[vU,aq5,ap4] at E G;subst E G;exact b4
  |i+1=>exact b2 i s x (by simpa[vU] using E) (by simpa using G)
theorem P9 (laid:laidOutB P=true) {j2:World} {P':Nat->Bool}: ∀(us:List bx) (cp:List TypeId) (aE:List Value) (ds:List (DataW hE)) (bE:List MemPlace),tl P us cp=true->
  DataW.TrodAll enc P W 0 (fun _=>true) true cp aE ds bE->Below W.heap.size W j2->(∀x∈bE,x.block < W.heap.size)->(∀x∈bE,P' x.block=true)->DataW.TrodAll enc P j2 0 P' true cp aE ds bE
 | [],[],aE,ds,bE,_,cd,_,_,_=>by
  obtain⟨rfl,rfl,rfl⟩:=trodAll_nil cd;exact trodAll_mk0
 | [],_::_,_,_,_,h,_,_,_,_=>by simp[tl] at h
 |_::_,[],_,_,_,h,_,_,_,_=>by simp[tl] at h
 |u::us,t::cp,aE,ds,bE,h,cd,O,bw,BQ=>by
  simp only[tl,vj] at h;obtain⟨v,aE,d,ds,p,q,rfl,rfl,rfl,av,aF⟩:=trodAll_cons cd;have E:=h.1;simp only[E9,vj,Nat.blt_eq] at E;exact trodAll_cons_mk (WideElems.Trod_stays laid E.1.2 E.2 av (fun x hx=>O.same (bw x (by simp[hx]))) (fun x hx=>BQ x (by simp[hx]))) (P9 laid us cp aE ds q h.2 aF O (fun x hx=>bw x (by simp[hx])) (fun x hx=>BQ x (by simp[hx])))
theorem Fn.abs {f:FuncId} {args:List aP} (bh:Fn P f args [] [] (fK true) []) (bW:Array Value) (al:bW.toList.length=args.length)
  (J: ∀(i:Nat) (s:aP) (x:Value),args[i]? =some s->bW.toList[i]? =some x->cr ρ (fun b=>b < W.heap.size) W s x):Calls P f bW W fun e j2=>e= .returned (.bool true)/\Below W.heap.size W j2:=by
 have h:=bh.2 ρ (fun _ _=>False) (fun b=>b < W.heap.size) W bW.toList (fun b h=>h) (fun c ch H=>by simp[ag] at H) (fun c ch H=>by simp[ag] at H) (fun c bX ch ch' b H=>by simp[ag] at H) al J;rw[Array.toArray_toList] at h;refine h.mono ?_;rintro e j2 ⟨x,ρ',F',rfl,cz,-,I',-,-,-,-,-,hx⟩;rw[show x= .bool true from hx];exact⟨rfl,cz.below (ap0 _) (by rintro i _ ⟨c,ch,H,_⟩;simp[ag] at H)⟩
end
theorem abt:ownKnob Tryz.prog.godebug=none:=by kernel_rfl
theorem abu:laidOutB Tryz.prog=true:=by kernel_rfl
set_option maxRecDepth 100000 in
theorem abv {hE:Type} {enc:TypeId×Value->hE} {W:World} {args:Array Value} {ds gs:List (DataW hE)} {oO:List MemPlace} {base:Nat} (f:FuncId) (fn:Func) (s:ChangeSpec) (us:List bx) (n:Nat)
  (i7:fn.resultTypes= #[4]) (BP:s.vars=[]) (Qa:tl Tryz.prog us fn.params.toList=true)
  (j0: ∀ds:List (DataW hE),ds.length=fn.params.toList.length->(s.fn hE ds).results=[.lit (.bool true)]/\(s.fn hE ds).vars=[]/\(s.fn hE ds).args=ds)
  (uz: ∀(j:Nat) t v,fn.params[j]? =some t->args[j]? =some v->Value.okWide Tryz.prog W .any base t v)
  (d2:DataW.Whole enc Tryz.prog fn.params.toList s.vars false W args.toList ds gs oO) (ab:Rows.uptoBulkAll (ds++gs)<=n)
  (bh: ∀a:zu us,E' us a<=n->JC us a->Fn Tryz.prog f (vU us a) [] [] (fK true) []):
  Calls Tryz.prog f args W fun e j2=> ∃v,e= .returned v/\s.post enc Tryz.prog fn false true false false W args v j2:=by
 have Qb:=d2;have bw:=d2.lt;obtain⟨p,q,ek,Qc,rfl,aoU,d0⟩:=d2;rw[BP] at Qc;obtain⟨rfl,rfl⟩:=trodVars_none Qc;simp only[as6] at Qb ab bw;obtain⟨a,b4,cg,a3,a4⟩:=P8 (ρ:=fun _=>⟨0,none,0,0⟩) us fn.params.toList args.toList ds p Qa (fun j t v E G=>uz j t v ax9 (by simpa using G)) ek
 have b6:ds.length=fn.params.toList.length:=by
  have: ∀(cp:List TypeId) (aE:List Value) (ds:List (DataW hE)) (bE:List MemPlace),DataW.TrodAll enc Tryz.prog W 0 (fun _=>true) true cp aE ds bE->ds.length=cp.length:=fun cp=>by
   induction cp with
   |nil=>intro aE ds bE h;obtain⟨_,rfl,_⟩:=trodAll_nil h;rfl
   |cons t cp br=>intro aE ds bE h;obtain⟨v,aE,d,ds,p,q,rfl,rfl,rfl,av,aF⟩:=trodAll_cons h;simp[br _ _ _ aF]
  exact this _ _ _ _ ek
 obtain⟨r1,r2,ga⟩:=j0 ds b6;refine((bh a au5 a4).abs args b4 cg).mono fun e j2 ⟨V,O⟩=>?_
 subst V;refine⟨_,rfl,abo (pa:=p) (pv:=[]) Qb ?_ ?_ ?_ au7 O ?_⟩
 .intro b sp J;rw[as6,r1,i7];exact trodAll_cons_mk (shut_bool Tryz.underlying4 _) trodAll_mk0
 .intro sp BQ;rw[as6,ga];exact P9 abu us _ _ _ _ Qa ek O (fun x hx=>bw x ax7) (fun x hx=>BQ x ax7)
 .intro sp BQ;rw[as6,r2,BP];rfl
 .exact Go.RowKit.ok_one i7 rfl (okWide_bool_mk Tryz.underlying4 _)
end
section
set_option maxRecDepth 100000
open Go.ChangeShapes Go.WideShapes Go.ChangeAt Go.RowKit
theorem ih {a b:Bool} (h:a=true) (k:b=true):(a&&b)=true:=by rw[h,k];rfl
def JD:OpenClaim:={program:= "",sum:= "",func:= "",spec:= "" }
theorem abw:laidOutB Tryz.prog=true:=by kernel_rfl
theorem abx:mapsRowed Tryz.prog=true:=by kernel_rfl
theorem aby:(JD.plainKeys == Tryz.prog.plainKeys)=true:=by kernel_rfl
theorem abz:Tryz.prog.mayEnter=true:=by kernel_rfl
theorem abA:(JD.lifted == Tryz.prog.liftsFinal)=true:=by kernel_rfl
theorem abB:(Tryz.prog.make == some JD.make)=true:=by kernel_rfl
end
section
def BR:ay5->ay5->ay5
 | [],r=>r
 |x::l,r=>match r.contains x with
  |true=>BR l r
  |false=>BR l (x::r)
theorem JE {a:Nat}: ∀{l r:ay5},a∈BR l r->a∈l\/a∈r
 | [],r,h=>.inr h
 |x::l,r,h=>by
  unfold BR at h
  split at h
  .rcases JE h with h |h
   .exact .inl (ap2 _ h)
   .exact .inr h
  .rcases JE h with h |h
   .exact .inl (ap2 _ h)
   .rcases ap3.1 h with rfl |h
    .exact .inl (aq0 ..)
    .exact .inr h
def JF (acc:List ay5):ay5->ay5
 | []=>[]
 |d::l=>BR (d::acc.getD d []) (JF acc l)
theorem Qd {acc:List ay5} {a:Nat}: ∀{l:ay5},a∈JF acc l->a∈l\/ ∃d∈l,a∈acc.getD d []
 | [],h=>by cases h
 |d::l,h=>by
  rcases JE h with h |h
  .rcases ap3.1 h with rfl |h
   .exact .inl (aq0 ..)
   .exact .inr ⟨d,aq0 ..,h⟩
  .rcases Qd h with h |⟨e,V,h⟩
   .exact .inl (ap2 _ h)
   .exact .inr ⟨e,ap2 _ V,h⟩
def Fa:List Oper->List ay5->List ay5
 | [],acc=>acc
 |o::l,acc=>Fa l (acc++[JF acc (p4 o)])
theorem Qe: ∀(l:List Oper) (acc BS:List ay5),acc.length=BS.length->(∀j a,a∈acc.getD j []->a∈BS.getD j [])-> ∀j a,a∈(Fa l acc).getD j []->a∈(y1 l BS).getD j []
 | [],acc,BS,_,h=>h
 |o::l,acc,BS,al,h=>by
  unfold Fa y1;refine Qe l _ _ (by simp[al]) ?_;intro j a ha;rw[ap9] at ha⊢;rcases Nat.lt_trichotomy j acc.length with bw |r6 |ui
  .rw[ar7 bw,<-ap9] at ha;rw[ar7 (al▸bw),<-ap9];exact h j a ha
  .subst r6;rw[ar9 (ap0 _)] at ha;rw[ar9 (Nat.le_of_eq al.symm)];simp only[Nat.sub_self,aq5,Option.getD_some] at ha;simp only[al,Nat.sub_self,aq5,Option.getD_some,aq8,List.mem_flatMap];rcases Qd ha with ha |⟨d,J,ha⟩
   .exact .inl ha
   .exact .inr ⟨d,J,h d a ha⟩
  .rw[at6 av9] at ha;simp at ha
theorem Qf {all:List Oper} {an Qg:List ay5} (h: ∀j a,a∈an.getD j []->a∈Qg.getD j []): ∀l:List (Oper×kL×Nat),ub all an l=true->ub all Qg l=true
 | [],_=>rfl
 |(o,n,i)::l,af=>by
  simp only[ub,vj] at af⊢;refine⟨ar4.2 fun x hx=>?_,Qf h l af.2⟩;have:=ar4.1 af.1 x hx;obtain⟨p,m,j⟩:=x;simp only[Bool.or_eq_true,vj,ar6] at this⊢;exact this.imp (fun g=>⟨h _ _ g.1,g.2⟩) id
def Qh (K:aY) (B:aw) (c':List Oper) (gj:List kL):Bool:=
 let es:=gj.reverse
 (c'.zipIdx.all fun(o,i)=>(p4 o).all fun d=>Nat.blt d i)&&(es.all fun n=>n.e.bc.all fun c=>t2 c K&&ki c B)&&ub c' (Fa c' []) ((c'.zip es).zipIdx.map fun((o,n),i)=>(o,n,i))
theorem eB {K:aY} {B:aw} {c':List Oper} {gj:List kL} (h:Qh K B c' gj=true):vC K B c' gj=true:=by
 simp only[Qh,vj] at h;simp only[vC,vj];exact⟨h.1,Qf (Qe c' [] [] rfl fun _ _ h=>h) _ h.2⟩
end
section
def cu (P:Program) (f:FuncId) (args:List aP) (aJ:aw) (bc:ay5) {X:Type} (res:X->aP) (aO:X->aw):Prop:=
 jl P f=true/\ ∀(ρ:Nat->bn) (F:Nat->Nat->Prop) (I:Nat->Prop) (w:World) (bW:List Value),
  (∀b,I b->b < w.heap.size)->(∀c ch,ag aJ c=some ch->Holds ρ I (F c) w (ρ c) ch)->(∀c ch,ag aJ c=some ch-> ∀b,F c b->b < w.heap.size/\ ¬I b)->
  (∀c bX ch ch' b,ag aJ c=some ch->ag aJ bX=some ch'->c≠bX->F c b-> ¬F bX b)->
  bW.length=args.length->(∀(i:Nat) (v:aP) (x:Value),args[i]? =some v->bW[i]? =some x->cr ρ I w v x)->
  Calls P f bW.toArray w fun e w'=> ∃(g:X) (x:Value) (ρ':Nat->bn) (F':Nat->Nat->Prop),e= .returned x/\cK (fun b=> ∃c ch,ag aJ c=some ch/\F c b) w w'/\(∀c,c∉bc->ρ' c=ρ c)/\
   ∃I':Nat->Prop,ce I w I' w'/\(∀b,I' b->b < w'.heap.size/\(I b\/(∃c ch,ag aJ c=some ch/\F c b)\/w.heap.size<=b))/\
   (∀c ch,ag (aO g) c=some ch->Holds ρ' I' (F' c) w' (ρ' c) ch)/\
   (∀c ch,ag (aO g) c=some ch-> ∀b,F' c b->b < w'.heap.size/\ ¬I' b/\((∃gW cw,ag aJ gW=some cw/\F gW b)\/w.heap.size<=b))/\
   (∀c bX ch ch' b,ag (aO g) c=some ch->ag (aO g) bX=some ch'->c≠bX->F' c b-> ¬F' bX b)/\cr ρ' I' w' (res g) x
theorem Fn.x {P:Program} {f:FuncId} {args:List aP} {aJ:aw} {bc:ay5} {res:aP} {aO:aw} (h:Fn P f args aJ bc res aO):cu P f args aJ bc (fun _:Unit=>res) (fun _=>aO):=
 ⟨h.1,fun ρ F I w bW b4 cg a3 a4 a5 gy=>(h.2 ρ F I w bW b4 cg a3 a4 a5 gy).mono fun e w' q=>⟨(),q⟩⟩
section
variable {P:Program} {aS:dc} {N:Nat} {ids:ay5} {o:Oper} {K:aY} {B:aw}
theorem eW.back {aJ:aw} {bc:ay5} {r:aP} {aO:aw} (hR:kK B aJ) (JG:rX ids K B bc=true) (nM:mw aJ bc aO=true) {C:e9} {a:Act} {w w':World} {ρ ρ':Nat->bn} {F F':Nat->Nat->Prop} {I':Nat->Prop} {x:Value} {dst:Option Nat}
  (hn:a.tmps.size=N) (J:a.defers=C.ds.map w0) (aq:Mem ids C B ρ F w) (au:ee K ρ (bZ C B F w) a w) (bw: ∀d,dst=some d->d < N)
  (cz:cK (fun b=> ∃c ch,ag aJ c=some ch/\F c b) w w') (dl: ∀c,c∉bc->ρ' c=ρ c) (gn: ∀b,I' b->b < w'.heap.size/\(bZ C B F w b\/(∃c ch,ag aJ c=some ch/\F c b)\/w.heap.size<=b))
  (cX: ∀c ch,ag aO c=some ch->Holds ρ' I' (F' c) w' (ρ' c) ch) (aD: ∀c ch,ag aO c=some ch-> ∀b,F' c b->b < w'.heap.size/\ ¬I' b/\((∃gW cw,ag aJ gW=some cw/\F gW b)\/w.heap.size<=b))
  (h3: ∀c bX ch ch' b,ag aO c=some ch->ag aO bX=some ch'->c≠bX->F' c b-> ¬F' bX b) (dt:cr ρ' I' w' r x):eW N ids C (mt dst r K) (hb (iy aJ aO) B) (a.put dst x) w':=by
 have eT: ∀{c ch},ag aJ c=some ch->ag B c=some ch:=fun {c ch} H=>kl hR H
 have oL: ∀c∈bc,(∀s,(dA K s).has c=false)/\ag B c=none/\(∀d ch,ag B d=some ch->ch.has c=false)/\c∉ids:=fun c H=>kM (EO JG c H)
 have Bs: ∀c,ag (hb (iy aJ aO) B) c=(match ag aO c with |some ch=>some ch |none=>if c∈cl aJ then none else ag B c):=EN aJ aJ bc aO B nM
 have pr: ∀c ch,ag (hb (iy aJ aO) B) c=some ch->ag aO c=some ch\/(ag aO c=none/\c∉cl aJ/\ag B c=some ch):=fun c ch H=>by
  rw[Bs] at H
  cases O:ag aO c with
  |some ch'=>rw[O] at H;exact .inl H
  |none=>
   rw[O] at H;simp only at H
   split at H
   .cases H
   .rename_i ab;exact .inr ⟨rfl,ab,H⟩
 let cJ:Nat->Nat->Prop:=fun c=>if c∈cl aO then F' c else F c
 have jZ: ∀c ch,ag aO c=some ch->cJ c=F' c:=fun c ch H=>if_pos (gm.2 ⟨ch,H⟩)
 have Bt: ∀c,ag aO c=none->cJ c=F c:=fun c H=>if_neg (fun ab=>by
  obtain⟨ch,h⟩:=gm.1 ab;rw[H] at h;cases h)
 have km: ∀c ch,ag aO c=some ch->c∈cl aJ\/c∈bc:=fun c ch H=>I7 nM (gm.2 ⟨ch,H⟩)
 have un: ∀c ch,ag (hb (iy aJ aO) B) c=some ch->(c∈cl aJ\/c∈bc)->ag aO c=some ch:=fun c ch H bN=>by
  rcases pr c ch H with h |⟨E,G,aj⟩
  .exact h
  .rcases bN with h |h
   .exact absurd h G
   .rw[(oL c h).2.1] at aj;cases aj
 have sb:ce I' w' (bZ C (hb (iy aJ aO) B) cJ w') w':=fun b O=>by
  obtain⟨ai,ao⟩:=gn b O;refine⟨⟨ai,?_,fun c ch H bh=>?_⟩,rfl⟩
  .rcases ao with ao |⟨c,ch,ao,bl⟩ |ao
   .exact ao.2.1
   .exact .inr ((aq.own c ch (eT ao) b bl).2)
   .exact .inr (.inr (aq.fresh ao))
  .rcases pr c ch H with h |⟨E,G,aj⟩
   .rw[jZ c ch h] at bh;exact(aD c ch h b bh).2.1 O
   .rw[Bt c E] at bh;rcases ao with ao |⟨d,ch',ao,bl⟩ |ao
    .exact ao.2.2 c ch aj bh
    .exact aq.e' d c ch' ch b (eT ao) aj (fun e=>G (e▸gm.2 ⟨ch',ao⟩)) bl bh
    .have:=(aq.own c ch aj b bh).1;omega
 obtain⟨bN,aW⟩:=aq.step (B':=hb (iy aJ aO) B) (ρ':=ρ') (F':=cJ) (w':=w') (fun c=>c∈cl aJ\/c∈bc) (fun c=>c∈bc)
  (cz.mono fun b _ ⟨c,ch,E,G⟩=>⟨c,ch,eT E,.inl (gm.2 ⟨ch,E⟩),G⟩)
  (fun c ch H hn=>by
   rcases pr c ch H with h |⟨_,_,aj⟩
   .exact absurd (km c ch h) hn
   .exact aj)
  dl
  (fun c hn=>by
   cases O:ag aO c with
   |none=>exact Bt c O
   |some ch=>exact absurd (km c ch O) hn)
  (fun c H hn=>(oL c hn).2.2.2 H) (fun c h=>.inr h)
  (fun c ch H _ d J hn=>by rw[(oL d hn).2.2.1 c ch H] at J;cases J)
  (fun c ch H bN _=>by
   have O:=un c ch H bN;rw[jZ c ch O];exact Holds.cj sb (fun _ _=>rfl) (ap0 _) ch (fun _ _=>rfl) (cX c ch O))
  (fun c ch H bN b O=>by
   have xh:=un c ch H bN;rw[jZ c ch xh] at O;obtain⟨ai,_,bl⟩:=aD c ch xh b O;refine⟨ai,bl.imp (fun⟨gW,cw,E,G⟩=>⟨gW,cw,eT E,.inl (gm.2 ⟨cw,E⟩),G⟩) id⟩)
  (fun c bX ch ch' b H cF km iN a2 O dm=>by
   have E:=un c ch H km;have G:=un bX ch' cF iN;rw[jZ c ch E] at O;rw[jZ bX ch' G] at dm;exact h3 c bX ch ch' b E G a2 O dm)
 refine⟨kf.trans hn,kg.trans J,ρ',cJ,bN,(au.mono aW fun s d J=>dl d fun hn=>by rw[(oL d hn).1 s] at J;cases J).kh (fun e V=>by rw[hn];exact bw e V) (cr.mono sb _ _ (fun _ _=>rfl) dt)⟩
theorem abC {f:FuncId} {args:List aP}
  (uj: ∀(ρ:Nat->bn) (I:Nat->Prop) (a:Act) (w:World),ee K ρ I a w-> ∃bW:List Value,(jl P f=true->(execOp a.eval o).run P w= .ok (.enter f bW.toArray) w)/\bW.length=args.length/\ ∀(i:Nat) (v:aP) (x:Value),args[i]? =some v->bW[i]? =some x->cr ρ I w v x)
  {X:Type} {aJ:aw} {bc:ay5} {res:X->aP} {aO:X->aw} (abD:cu P f args aJ bc res aO) (hR:kK B aJ) (JG:rX ids K B bc=true) (bu: ∀g,(rX ids K B bc&&mw aJ bc (aO g))=true)
  {C:e9} {a:Act} {w:World} (ax:eW N ids C K B a w) (bw: ∀d,o.dst=some d->d < N) {fE:Act->World->Prop} {Q:Exit->Act->World->Prop} (di: ∀g a' w',eW N ids C (mt o.dst (res g) K) (hb (iy aJ (aO g)) B) a' w'->fE a' w'):o.wp P a w fE Q:=by
 obtain⟨fT,j0⟩:=abD;obtain⟨hn,J,ρ,F,aq,au⟩:=ax;have eT: ∀{c ch},ag aJ c=some ch->ag B c=some ch:=fun {c ch} H=>kl hR H
 obtain⟨bW,dO,q4,th⟩:=uj ρ _ a w au
 have H:=j0 ρ F (bZ C B F w) w bW (fun b O=>O.1) (fun c ch H=>aq.holds c ch (eT H)) (fun c ch H b O=>⟨(aq.own c ch (eT H) b O).1,fun ba=>ba.2.2 c ch (eT H) O⟩)
  (fun c bX ch ch' b E G=>aq.e' c bX ch ch' b (eT E) (eT G)) q4 th
 unfold Oper.wp;rw[dO fT,Oper.upon_enter];refine H.mono ?_;rintro e w' ⟨g,x,ρ',F',rfl,cz,dl,I',i5,gn,cX,aD,h3,dt⟩;exact di g _ _ (eW.back hR JG (vj _ _▸bu g).2 hn J aq au bw cz dl gn cX aD h3 dt)
theorem cu.of (bm:d6 P aS) {f:FuncId} {fn:Func} {c:Code} (stops:ay5) (args:List aP) (aJ:aw) (bc:ay5) {X:Type} (res:X->aP) (aO:X->aw) (hf:P.funcs[f]? =some fn) (O:fn.body=some c) (hn:fn.ntmps=N) (fT:jl P f=true) (H:jr P N c=true) (fu:Nat.ble args.length N=true) (b9:zg P aS N (cl aJ)) {i6:List ResultVar} (xo:fn.results.toList=i6)
  (h:jm P aS N (cl aJ) stops c (oM 0 args) aJ (fun e K B=> ∃g,ER aS (cl aJ) bc i6 (res g) (aO g) e K B)):cu P f args aJ bc res aO:=by
 refine⟨fT,?_⟩;intro ρ F I w bW ba cX bh ep b6 dt;have fu:=Nat.le_of_ble_eq_true fu;refine Ps (r:=none) (n:=0) (callsIn_of_wp_marks hf O trivial ?_)
 let C:e9:=⟨w,I,fun b=> ∃c ch,ag aJ c=some ch/\F c b,ρ,[]⟩
 have sc:ce I w (bZ C aJ F w) w:=fun b O=>⟨⟨ba b O,.inl O,fun c ch H p9=>(bh c ch H b p9).2 O⟩,rfl⟩
 have aq:Mem (cl aJ) C aJ ρ F w:=⟨cK.refl _ _,fun c ch H=>Holds.cj sc (fun _ _=>rfl) (ap0 _) ch (fun _ _=>rfl) (cX c ch H),fun c ch H b O=>⟨(bh c ch H b O).1,.inl ⟨c,ch,H,O⟩⟩,ep,fun c _=>rfl,at0,fun b O=>O.elim (ba b) fun⟨c,ch,H,BC⟩=>(bh c ch H b BC).1,fun D b9=>by cases b9⟩;refine zh bm b9 stops c _ _ _ H h none (fun _=>rfl) C _ ?_ _ w ⟨by simp[b6,hn];omega,rfl,ρ,F,aq,fun s=>?_⟩
 .intro e K' B' ds _ V a' w' d1;obtain⟨g,V⟩:=V
  cases e with
  |ex i=>exact V.elim
  |_=>
   obtain⟨PB,js,r,gZ,aF,af,hR,ps⟩:=V;refine PA d1 fun w' d1=>?_
   obtain⟨hq,jW,ρ',F',bN,BD⟩:=gZ N C _ w' d1;obtain⟨aE,dO,hr⟩: ∃aE:List Value,(i6.mapM (tk a'.tmps)).run P w'= .ok aE w'/\iM ρ' (bZ C js F' w') w' r aE:=EP bm bN BD i6 r aF
   have i7: ∃x,(results fn a'.tmps).run P w'= .ok x w'/\cr ρ' (bZ C js F' w') w' (Jf r) x:=by
    have E:fn.results=i6.toArray:=by rw[<-xo]
    have G:(fn.results.mapM (tk a'.tmps)).run P w'= .ok (List.toArray aE) w':=by
     rw[E,List.mapM_toArray];simp[dO]
    have aj:results fn a'.tmps=(do let aE<-fn.results.mapM (tk a'.tmps);pure (if h:aE.size=1 then aE[0] else .tuple aE)):=rfl;rw[aj]
    match r,aE,hr,G with
    | [],_,e,G=>rw[show _=[] from e] at G;exact⟨.tuple #[],by simp[G],[],rfl,rfl⟩
    | [x],_,⟨v,s,e,ay,ax⟩,G=>
     have ax:s=[]:=ax;subst ax e;exact⟨v,by simp[G],ay⟩
    |x::y::r,_,⟨v,s,e,ay,v2,bD,ao,up,f'⟩,G=>
     subst ao e;exact⟨.tuple (List.toArray (v::v2::bD)),by simp[G],_,rfl,v,_,rfl,ay,v2,bD,rfl,up,f'⟩
   obtain⟨x,hx,r'⟩:=i7;have r':=vM af r';simp only[vj] at ps
   let uq:Nat->bn:=fun c=>if c∈bc then ρ' c else ρ c
   have q6: ∀c,c∈cl aJ++bc->uq c=ρ' c:=fun c H=>by
    show(if c∈bc then ρ' c else ρ c)=ρ' c
    split
    .rfl
    .rename_i hn;rcases aq8.1 H with h |h
     .exact(bN.d' c h).symm
     .exact absurd h hn
   refine⟨x,hx,g,x,uq,F',rfl,bN.fr,fun c H=>if_neg H,bZ C js F' w',?_,fun b O=>⟨O.1,?_⟩,?_,?_,?_,?_⟩
   .intro b O;have vN: ¬C.p3 b:=fun⟨c,ch,E,G⟩=>(bh c ch E b G).2 O
    refine⟨⟨Nat.lt_of_lt_of_le (ba b O) bN.fr.size,.inl O,fun c ch H p9=>?_⟩,bN.fr.block b (ba b O) vN⟩;rcases(bN.own c ch H b p9).2 with h |h
    .exact vN h
    .have:=ba b O;exact absurd h.1 (Nat.not_le.2 this)
   .rcases O.2.1 with h |h |h
    .exact .inl h
    .exact .inr (.inl h)
    .exact .inr (.inr h.1)
   .intro c ch H
    have ab:c∈cl aJ++bc:=by
     have:=ar4.1 ps.2 c (gm.2 ⟨ch,H⟩);simpa only[ar6] using this
    rw[q6 c ab];exact Holds.cj (ce.refl _ _) (fun _ _=>rfl) (ap0 _) ch (fun d J=>q6 d (bb.kn (xn ps.1.2 H) J)) (bN.holds c ch (kl hR H))
   .intro c ch H b O;have cF:=kl hR H;exact⟨(bN.own c ch cF b O).1,fun aH=>aH.2.2 c ch cF O,(bN.own c ch cF b O).2.imp id fun x=>x.1⟩
   .exact fun c bX ch ch' b E G=>bN.e' c bX ch ch' b (kl hR E) (kl hR G)
   .exact cr.mono (ce.refl _ _) (res g) x (fun c H=>q6 c (aP.kn ps.1.1 H)) r'
 .rw[Bz];simp only[ap7,if_true,Nat.sub_zero]
  cases ax:args[s]? with
  |none=>trivial
  |some v=>
   have bw:s < bW.length:=by rw[b6];exact(ap5.1 ax).1
   simp only[Option.getD_some];have hx:bW[s]? =some bW[s]:=oj bw;have:=cr.mono sc v _ (fun _ _=>rfl) (dt s v _ ax hx);simpa[Array.getElem?_append,bw,hx] using this
theorem Qi {ev:Operand->Value} {f:FuncId} {c:Call} {x:Operand} {xs:List Operand} {p:Value} {w:World} (hf:jl P f=true) (ah:o.op= .call c) (E:c.callee= .value x) (G:c.args.toList=xs) (um:ev x= .func (.func f) #[p] #[]):(execOp ev o).run P w= .ok (.enter f (p::xs.map ev).toArray) w:=by
 have fu:c.args=xs.toArray:=by rw[<-G]
 obtain⟨r7,args,cp⟩:=c;simp only at E fu;subst E fu;unfold jl at hf
 split at hf
 .rename_i fn j0;simp only[Bool.not_eq_true',Bool.or_eq_false_iff,beq_eq_false_iff_ne] at hf;have G: ¬fn.body=none:=fun e=>by rw[e] at hf;simp at hf
  simp[execOp,ah,resolve,invoke,um,Deferred.ofValue,callFunc,go_sem,j0];rw[if_neg hf.1,if_neg G]
 .cases hf
def JH (K:aY) (o:Oper):Option (FuncId×List aP):=match o.op with
 | .call c=>match c.callee with
  | .value (.func f)=>some (f,c.args.toList.map (a6 K))
  | .value (.tmp t)=>match dA K t with
   | .c (.one (.cU f l))=>some (f,c.args.toList.map (a6 K)++oC l)
   | .c (.one (.bJ (.func (.func f) bs cs)))=>match bs.toList,cs.toList with
    | [.pointer (some ⟨b,0,none⟩)],[]=>some (f,.c (.one (.d (.aL (some b))))::c.args.toList.map (a6 K))
    |_,_=>none
   |_=>none
  |_=>none
 |_=>none
def abE (P:Program) (f:FuncId) (args:List aP) (ids:ay5) (K:aY) (B:aw) (k:aP->fR->Prop):Prop:=
 ∃(X:Type) (aJ:aw) (bc:ay5) (res:X->aP) (aO:X->aw),cu P f args aJ bc res aO/\kK B aJ/\rX ids K B bc=true/\(∀g,(rX ids K B bc&&mw aJ bc (aO g))=true)/\ ∀g,oB (res g) fun r=>k r ⟨cl aJ,bc,iy aJ (aO g)⟩
def xv (P:Program) (ids:ay5) (o:Oper) (K:aY) (B:aw) (S:aP->fR->Prop):Prop:=
 ∀(N:Nat) (C:e9) (a:Act) (w:World),eW N ids C K B a w->(∀d,o.dst=some d->d < N)-> ∀(fE:Act->World->Prop) (Q:Exit->Act->World->Prop),(∀v e a' w',S v e->eW N ids C (mt o.dst v K) (hb e.hA B) a' w'->fE a' w')->o.wp P a w fE Q
def abF (o:Oper):Bool:=match o.op with
 | .next _ _=>true
 | .binOp .eql _ _ (.const (.slice none 0 0)) _=>true
 | .call c=>match c.callee with
  | .builtin .delete=>true
  |_=>false
 |_=>false
def xw (P:Program) (l:Nat) (args:List aP) (aJ:aw) {X:Type} (res:X->aP) (aO:X->aw):Prop:=
 ∀(ρ:Nat->bn) (F:Nat->Nat->Prop) (I:Nat->Prop) (w:World) (bW:List Value),
  (∀b,I b->b < w.heap.size)->(∀c ch,ag aJ c=some ch->Holds ρ I (F c) w (ρ c) ch)->(∀c ch,ag aJ c=some ch-> ∀b,F c b->b < w.heap.size/\ ¬I b)->
  (∀c bX ch ch' b,ag aJ c=some ch->ag aJ bX=some ch'->c≠bX->F c b-> ¬F bX b)->
  bW.length=args.length->(∀(i:Nat) (v:aP) (x:Value),args[i]? =some v->bW[i]? =some x->cr ρ I w v x)->
  ∃f tmps assign body,(Instr.yield l bW.toArray).run P w= .ok (.round l f tmps assign body) w/\RoundIn (oD none) 0 P l f tmps assign body w fun e w'=> ∃(g:X) (x:Value) (ρ':Nat->bn) (F':Nat->Nat->Prop),e= .returned x/\cK (fun b=> ∃c ch,ag aJ c=some ch/\F c b) w w'/\(∀c,ρ' c=ρ c)/\
   ∃I':Nat->Prop,ce I w I' w'/\(∀b,I' b->b < w'.heap.size/\(I b\/(∃c ch,ag aJ c=some ch/\F c b)\/w.heap.size<=b))/\
   (∀c ch,ag (aO g) c=some ch->Holds ρ' I' (F' c) w' (ρ' c) ch)/\
   (∀c ch,ag (aO g) c=some ch-> ∀b,F' c b->b < w'.heap.size/\ ¬I' b/\((∃gW cw,ag aJ gW=some cw/\F gW b)\/w.heap.size<=b))/\
   (∀c bX ch ch' b,ag (aO g) c=some ch->ag (aO g) bX=some ch'->c≠bX->F' c b-> ¬F' bX b)/\cr ρ' I' w' (res g) x
def Fb (K:aY) (o:Oper):Option (Nat×List aP):=match o.op with
 | .call c=>match c.callee with
  | .value (.tmp t)=>match dA K t with
   | .c (.one (.bJ (.func (.yield l) fs cs)))=>match fs.toList,cs.toList with
    | [],[]=>some (l,c.args.toList.map (a6 K))
    |_,_=>none
   |_=>none
  |_=>none
 |_=>none
def abG (P:Program) (l:Nat) (args:List aP) (B:aw) (k:aP->fR->Prop):Prop:=
 ∃(X:Type) (aJ:aw) (res:X->aP) (aO:X->aw),xw P l args aJ res aO/\kK B aJ/\(∀g,mw aJ [] (aO g)=true)/\ ∀g,oB (res g) fun r=>k r ⟨cl aJ,[],iy aJ (aO g)⟩
theorem abH {ev:Operand->Value} {l:Nat} {c:Call} {x:Operand} {xs:List Operand} {w:World} (ah:o.op= .call c) (E:c.callee= .value x) (G:c.args.toList=xs) (um:ev x= .func (.yield l) #[] #[]):(execOp ev o).run P w=(Instr.yield l (xs.map ev).toArray).run P w:=by
 have fu:c.args=xs.toArray:=by rw[<-G]
 obtain⟨r7,args,cp⟩:=c;simp only at E fu;subst E fu;simp[execOp,ah,resolve,invoke,um,Deferred.ofValue]
theorem abI {l:Nat} {xs:List aP} (h:Fb K o=some (l,xs)) {ρ:Nat->bn} {I:Nat->Prop} {a:Act} {w:World} (au:ee K ρ I a w): ∃bW:List Value,(execOp a.eval o).run P w=(Instr.yield l bW.toArray).run P w/\(∀c,o.op≠ .defer c)/\bW.length=xs.length/\ ∀(i:Nat) (v:aP) (x:Value),xs[i]? =some v->bW[i]? =some x->cr ρ I w v x:=by
 unfold Fb at h
 split at h
 .rename_i c ah
  split at h
  .rename_i t H
   split at h
   .rename_i l' fs cs al
    split at h
    .rename_i vJ gk;injection h with h
     injection h with E G
     subst E G;have vJ:fs= #[]:=by rw[<-Array.toList_inj];exact vJ
     have gk:cs= #[]:=by rw[<-Array.toList_inj];exact gk
     subst vJ gk;have ay:a.eval (.tmp t)= .func (.yield l') #[] #[]:=au.ev (x:=.tmp t) (s:=.c (.one (.bJ (.func (.yield l') #[] #[])))) al;have d0: ∀d,o.op≠ .defer d:=fun d e=>by rw[ah] at e;cases e
     refine⟨c.args.toList.map a.eval,?_,d0,au7,fun i v x ay hx=>?_⟩
     .exact abH ah H rfl ay
     .rw[ar0] at ay hx;obtain⟨aC,aR,rfl⟩:=as0.1 ay;rw[aR] at hx;simp only[at2,ap4] at hx;subst hx;exact au.get aC
    .cases h
   .cases h
  .cases h
 .cases h
theorem abJ {l:Nat} {args:List aP} (ah:Fb K o=some (l,args)) {X:Type} {aJ:aw} {res:X->aP} {aO:X->aw} (aB:xw P l args aJ res aO) (hR:kK B aJ) (bu: ∀g,mw aJ [] (aO g)=true)
  {C:e9} {a:Act} {w:World} (ax:eW N ids C K B a w) (bw: ∀d,o.dst=some d->d < N) {r:Option Nat} {fE:Act->World->Prop} {Q:Exit->Act->World->Prop} (di: ∀g a' w',eW N ids C (mt o.dst (res g) K) (hb (iy aJ (aO g)) B) a' w'->fE a' w'):o.wpIn (oD r) 0 P a w fE Q:=by
 obtain⟨hn,J,ρ,F,aq,au⟩:=ax;have eT: ∀{c ch},ag aJ c=some ch->ag B c=some ch:=fun {c ch} H=>kl hR H
 obtain⟨bW,dO,d0,q4,th⟩:=abI (P:=P) (w:=w) ah au
 obtain⟨f,tmps,assign,body,Qj,Qk⟩:=aB ρ F (bZ C B F w) w bW (fun b O=>O.1) (fun c ch H=>aq.holds c ch (eT H)) (fun c ch H b O=>⟨(aq.own c ch (eT H) b O).1,fun ba=>ba.2.2 c ch (eT H) O⟩)
  (fun c bX ch ch' b E G=>aq.e' c bX ch ch' b (eT E) (eT G)) q4 th
 refine⟨fun _ _=>trivial,?_⟩;rw[Oper.semAt_eq _ _ _ d0,dO,Qj,Oper.uponIn_round];refine⟨fun ax=>absurd ax au7,RoundIn.mono (F:=oD r) (n:=0 - 1) Qk ?_⟩;rintro e w' ⟨g,x,ρ',F',rfl,cz,dl,I',i5,gn,cX,aD,h3,dt⟩;exact di g _ _ (eW.back hR rfl (bu g) hn J aq au bw cz (fun c _=>dl c) gn cX aD h3 dt)
def abK (K:aY) (o:Oper):Bool:=match o.op with
 | .mapUpdate _ _ _ v=>match a6 K v with
  | .c (.one (.ptr _ 0))=>true
  |_=>false
 |_=>false
def JI (P:Program) (aS:dc) (ids:ay5) (o:Oper) (K:aY) (B:aw) (k:aP->fR->Prop):Prop:=match JH K o with
 |some (f,xs)=>abE P f xs ids K B k
 |none=>match Fb K o with
  |some (l,xs)=>abG P l xs B k
  |none=>match abF o||abK K o with
   |true=> ∃S:aP->fR->Prop,xv P ids o K B S/\ ∀v e,S v e->oB v fun v=>k v e
   |false=>Et P aS ids o K B k
noncomputable def JJ (P:Program) (aS:dc) (ids:ay5) (all:List Oper) (o:Oper) (l:List Oper) (br:aY->aw->Prop) (K:aY) (B:aw):Prop:=
 match t' all K o.guard with
 |none=>False
 |some false=>match o.dst with
  |some d=>br ((d,.undef)::K) B
  |none=>br K B
 |some true=>JI P aS ids o K B fun v e=>match o.dst with
  |none=>w2 e.hA B fun B=>br K B
  |some d=>match Eu (all.length - l.length - 1) l,v with
   |true,.c (.one (.d (.bool b)))=>w2 e.hA B fun B=>(b=true->br ((d,.c (.one (.d (.lit true))))::K) B)/\(b=false->br ((d,.c (.one (.d (.lit false))))::K) B)
   |_,v=>w2 e.hA B fun B=>br ((d,v)::K) B
noncomputable def Fc (P:Program) (aS:dc) (ids:ay5) (all l:List Oper) (K:aY) (B:aw) (k:aY->aw->Prop):Prop:=
 List.rec (motive:=fun _=>aY->aw->Prop) k (fun o l br K B=>JJ P aS ids all o l br K B) l K B
theorem abL {all l:List Oper} {k:aY->aw->Prop}:Fc P aS ids all (o::l) K B k=JJ P aS ids all o l (fun K B=>Fc P aS ids all l K B k) K B:=rfl
theorem abM {f:FuncId} {xs:List aP} (h:JH K o=some (f,xs)) (ρ:Nat->bn) (I:Nat->Prop) (a:Act) (w:World) (au:ee K ρ I a w): ∃bW:List Value,(jl P f=true->(execOp a.eval o).run P w= .ok (.enter f bW.toArray) w)/\bW.length=xs.length/\ ∀(i:Nat) (v:aP) (x:Value),xs[i]? =some v->bW[i]? =some x->cr ρ I w v x:=by
 unfold JH at h
 split at h
 .rename_i c ah
  split at h
  .rename_i tm H;injection h with h
   injection h with E G
   subst E G;refine⟨c.args.toList.map a.eval,fun fT=>Pi fT ah H rfl rfl,au7,fun i v x ay hx=>?_⟩;rw[ar0] at ay hx;obtain⟨aC,aR,rfl⟩:=as0.1 ay;rw[aR] at hx;simp only[at2,ap4] at hx;subst hx;exact au.get aC
  .rename_i t H
   split at h
   .rename_i tm l al;injection h with h
    injection h with E G
    subst E G;have ay:=au t;rw[al] at ay;obtain⟨aE,e,xx⟩:=ay;obtain⟨cx,cA⟩:=hO.bW l aE xx;refine⟨c.args.toList.map a.eval++aE,fun fT=>I8 fT ah H rfl e,by simp[cx],fun i v x ay hx=>?_⟩
    by_cases aH:i < c.args.toList.length
    .rw[ar7 (by simpa using aH)] at ay hx;rw[ar0] at ay hx;obtain⟨aC,aR,rfl⟩:=as0.1 ay;rw[aR] at hx;simp only[at2,ap4] at hx;subst hx;exact au.get aC
    .rw[ar9 (by simpa using aH)] at ay hx;simp only[aq3] at ay hx;exact cA _ v x ay hx
   .rename_i tm bs cs al
    split at h
    .rename_i b O d7;injection h with h
     injection h with E G
     subst E G
     have ay:a.eval (.tmp t)= .func (.func tm) bs cs:=by
      have av:=au t;rw[al] at av;exact av
     have ai:bs= #[.pointer (some ⟨b,0,none⟩)]:=Array.toList_inj.1 O;have ao:cs= #[]:=Array.toList_inj.1 d7;subst ai ao;refine⟨.pointer (some ⟨b,0,none⟩)::c.args.toList.map a.eval,fun fT=>Qi fT ah H rfl ay,au7,fun i v x ay hx=>?_⟩
     cases i with
     |zero=>
      simp only[aq5,ap4] at ay hx;subst ay hx;rfl
     |succ i=>
      rw[au2,ar0] at ay hx;obtain⟨aC,aR,rfl⟩:=as0.1 ay;rw[aR] at hx;simp only[at2,ap4] at hx;subst hx;exact au.get aC
    .cases h
   .cases h
  .cases h
 .cases h
theorem abN (bm:d6 P aS) (d0: ∀c,o.op≠ .defer c) (r:Option Nat) {k:aP->fR->Prop} (h:JI P aS ids o K B k) {C:e9} {a:Act} {w:World} (ax:eW N ids C K B a w) (bw: ∀d,o.dst=some d->d < N) {fE:Act->World->Prop} {Q:Exit->Act->World->Prop} (di: ∀v e a' w',k v e->eW N ids C (mt o.dst v K) (hb e.hA B) a' w'->fE a' w'):o.wpIn (oD r) 0 P a w fE Q:=by
 unfold JI at h
 split at h
 .rename_i f xs H;obtain⟨X,aJ,bc,res,aO,E,G,aj,aX,bH⟩:=h;refine Bx d0 (abC (abM H) E G aj aX ax bw fun g a' w' d1=>?_);have bH:=bH g;rw[rW] at bH;exact di _ _ _ _ bH d1
 .split at h
  .rename_i l xs H;obtain⟨X,aJ,res,aO,E,G,aj,aX⟩:=h;refine abJ H E G aj ax bw fun g a' w' d1=>?_
   have aX:=aX g;rw[rW] at aX;exact di _ _ _ _ aX d1
  .split at h
   .obtain⟨S,au,h⟩:=h;refine Bx d0 (au N C a w ax bw fE Q fun v e a' w' ay d1=>?_);have h:=h v e ay;rw[rW] at h;exact di _ _ _ _ h d1
   .obtain⟨v,e,h,aD,hf⟩:=Ja bm h;exact Bx d0 (aD K B (fun _ _=>rfl) (fun _ _=>rfl) hf C a w ax bw fE Q fun a' w' f'=>di _ _ _ _ h f')
theorem xy (bm:d6 P aS) (all:List Oper): ∀(l:List Oper) (K:aY) (B:aw) (k:aY->aw->Prop),tj N l=true->Fc P aS ids all l K B k-> ∀(C:e9) (a:Act) (w:World),eW N ids C K B a w->
  ∀(r:Option Nat) (Q:Exit->Act->World->Prop),(∀K' B',k K' B'-> ∀a' w',eW N ids C K' B' a' w'->Q .normal a' w')->wpListIn (oD r) 0 P all.toArray Q l a w
 | [],K,B,k,_,h,C,a,w,ax,r,Q,ab=>wpListIn_nil (ab K B h a w ax)
 |o::l,K,B,k,J,h,C,a,w,ax,r,Q,ab=>by
  simp only[tj,vj] at J;obtain⟨⟨vK,d0⟩,dC⟩:=J;have d0:=Jc d0;have bw: ∀d,o.dst=some d->d < N:=fun d e=>by rw[e] at vK;simpa[Nat.blt_eq] using vK
  have d1:=ax;obtain⟨_,_,ρ,F,aq,au⟩:=d1;rw[abL] at h;unfold JJ at h;simp only[Ig] at h;refine wpListIn_step fun fE By=>?_
  split at h
  .exact h.elim
  .rename_i hw;rw[if_neg (by rw[zf hw au];simp)];refine⟨fun _ _=>trivial,By _ _ ?_⟩;have a7:=ax.undef o.dst bw
   split at h
   .rename_i d e;rw[e] at a7⊢;exact xy bm all l _ _ k dC h C _ w a7 r Q ab
   .rename_i e;rw[e] at a7⊢;exact xy bm all l _ _ k dC h C _ w a7 r Q ab
  .rename_i hw;rw[if_pos (zf hw au)];refine abN bm d0 r h ax bw fun v e a' w' h f'=>By _ _ ?_
   split at h
   .rename_i ao;rw[ao] at f';exact xy bm all l _ _ k dC h C _ w' f' r Q ab
   .rename_i d ao;rw[ao] at f'
    split at h
    .rename_i b a1
     cases b with
     |true=>exact xy bm all l _ _ k dC (h.1 rfl) C _ w' f'.lit r Q ab
     |false=>exact xy bm all l _ _ k dC (h.2 rfl) C _ w' f'.lit r Q ab
    .exact xy bm all l _ _ k dC h C _ w' f' r Q ab
theorem bt.iC (bm:d6 P aS) {id:Nat} {c':Array Oper} {Q:nG->aY->aw->Prop} (J:tj N c'.toList=true) (h:Fc P aS ids c'.toList c'.toList K B (fun K B=>Q .gY K B)):bt P N ids (.region id c' false) K B Q:=by
 intro r aF C h1 aT a w ax;refine wpIn_region_list ?_;have:=xy bm c'.toList c'.toList K B _ J h C a w ax r h1 (fun K' B' ab a' w' d1=>aT .gY K' B' C.ds (fun _=>rfl) ab a' w' d1);simpa using this
def de (ids:ay5) (K:aY) (B:aw) {X:Type} (K':X->aY) (B':X->aw):Prop:= ∀(N:Nat) (C:e9) (a:Act) (w:World),eW N ids C K B a w-> ∃x,eW N ids C (K' x) (B' x) a w
theorem bt.eY {c:Code} {X:Type} {K':X->aY} {B':X->aw} {Q:nG->aY->aw->Prop} (h:de ids K B K' B') (cq: ∀x,bt P N ids c (K' x) (B' x) Q):bt P N ids c K B Q:=fun r aF C h1 aT a w ax=>by
 obtain⟨x,hx⟩:=h N C a w ax;exact cq x r aF C h1 aT a w hx
end
end
end Go.Proofs.YthnboghbhgapcaaGreat
