/-
A part of the proof of this claim: lemmas, with no condition beyond what each says.
-/
import Derived.Test.YthnboghbhgapcaaGreatRows
import Derived.Test.YthnboghbhgapcaaGreatProg
import Derived.Deep.Slices
import Derived.Deep.Fields
import Derived.OpenShut
import Derived.WalkKit
import Derived.ProofKit
import Derived.JoinedCond
import Derived.Below
import Derived.Carry
import Derived.ChangeSame
import Derived.Test.YthnboghbhgapcaaGreatZa6
set_option linter.unusedVariables false
set_option linter.unusedSimpArgs false
set_option maxRecDepth 10000
namespace Go.Proofs.YthnboghbhgapcaaGreat
open Go.RowKit Go.Proofs
section
open Go.RowKit Go.ChangeShapes Go.WideShapes Go.Deep
noncomputable def fF:(u:bx)->Z u->Nat
 | .int _,_=>1
 | .u8,_=>1
 | .bool,_=>1
 | .str,s=>1+List.length s
 | .aM,_=>1
 | .dC,_=>1
 | .fn,_=>1
 | .b7 u,xs=>1+(List.map (fF u) xs).sum
 | .bR u v,p=>fF u p.1+fF v p.2
 | .arr _ u,xs=>(List.map (fF u) xs).sum
def q6:(u:bx)->Z u->Prop
 | .int k,n=>(Lit.int k n).wf=true
 | .b7 u,xs=> ∀x,DT (α:=Z u) x xs->q6 u x
 | .bR u v,p=>q6 u p.1/\q6 v p.2
 | .arr _ u,xs=> ∀x,DT (α:=Z u) x xs->q6 u x
 |_,_=>True
def p9 (P:Program) (ty:bx->TypeId->Bool):bx->List Field->Nat->Bool
 |_,[],_=>false
 |u,[f],off=>Nat.beq f.offset off&&ty u f.type&&Nat.beq (P.cellsOf f.type) (aS u)
 | .bR u v,f::g::fs,off=>Nat.beq f.offset off&&ty u f.type&&Nat.beq (P.cellsOf f.type) (aS u)&&p9 P ty v (g::fs) (off+aS u)
 |_,_::_::_,_=>false
def p' (P:Program):Nat->bx->TypeId->Bool
 |0,_,_=>false
 |n+1,u,t=>match P.underlying t,u with
  |some (.int k),.int dU=>l0 k dU
  |some (.int k),.u8=>l0 k .u8
  |some .bool,.bool=>true
  |some .string,.str=>true
  |some (.slice e),.b7 v=>p' P n v e&&Nat.beq (P.cellsOf e) (aS v)&&Nat.blt 0 (aS v)
  |some (.array m e),.arr gm v=>Nat.beq m gm&&p' P n v e&&Nat.beq (P.cellsOf e) (aS v)
  |some (.struct fs),u=>p9 P (p' P n) u fs.toList 0
  |_,_=>false
section
variable {hC:Type} {enc:TypeId×Value->hC} {w:World} {base:Nat} {Jq:Nat->Bool} {held:Bool} {P:Program}
theorem Jr (d:DataW hC):1<=Rows.uptoBulk d:=by
 unfold Rows.uptoBulk
 split <;>omega
theorem PV (l r:List (DataW hC)):Rows.uptoBulkAll (l++r)=Rows.uptoBulkAll l+Rows.uptoBulkAll r:=by
 induction l with
 |nil=>simp[Rows.uptoBulkAll]
 |cons x l br=>simp only[List.cons_append,Rows.uptoBulkAll,br];omega
def PW (w:World) (u:bx) (cs:List Value) (b:Nat):Prop:= ∃a:Z u,cp (fun b=>b < w.heap.size) w u a (fun j=>cs[j]?)/\fF u a<=b/\q6 u a
theorem xm {I:Nat->Prop} {u:bx} {a:Z u} {c bX:Nat->Option Value} (h:cp I w u a c) (H: ∀j v,c j=some v->bX j=some v):cp I w u a bX:=cp.mono (cd.refl I w) u a c bX H h
theorem Js {cs:List Value} {o k j:Nat} {v:Value} (h:((cs.drop o).take k)[j]? =some v):cs[o+j]? =some v:=by
 rw[List.getElem?_take] at h
 split at h
 .rwa[List.getElem?_drop] at h
 .cases h
theorem PX {ty:bx->TypeId->Bool} {n:Nat} (br: ∀u t,ty u t=true-> ∀cs x,DataW.trod enc P w base Jq held n t cs=some x->PW w u cs (Rows.uptoBulk x.1)):
  ∀(fs:List Field) (u:bx) (off:Nat) (xs:List (DataW hC×List MemPlace)) (cs:List Value),p9 P ty u fs off=true->xs.length=fs.length->
   (∀(i:Nat) (f:Field),fs[i]? =some f->DataW.trod enc P w base Jq held n f.type ((cs.drop f.offset).take (P.cellsOf f.type))=xs[i]?)->
   ∃a:Z u,cp (fun b=>b < w.heap.size) w u a (fun j=>cs[off+j]?)/\fF u a<=Rows.uptoBulkAll (xs.map (·.1))/\q6 u a
 | [],u,off,xs,cs,h,_,_=>by simp[p9] at h
 | [f],u,off,xs,cs,h,aq,hf=>by
  simp only[p9,vj,Nat.beq_eq] at h;obtain⟨⟨E,G⟩,al⟩:=h
  match xs,aq with
  | [x],_=>
   obtain⟨a,cx,cA,dy⟩:=br _ _ G _ _ (hf 0 f rfl);subst E;exact⟨a,xm cx fun j v az=>Js az,by simpa[Rows.uptoBulkAll] using cA,dy⟩
 |f::g::fs,.bR u v,off,xs,cs,h,aq,hf=>by
  simp only[p9,vj,Nat.beq_eq] at h;obtain⟨⟨⟨E,G⟩,al⟩,aZ⟩:=h
  match xs,aq with
  |x::xs,aq=>
   obtain⟨a,cx,cA,dy⟩:=br _ _ G _ _ (hf 0 f rfl);obtain⟨b,r1,r2,ga⟩:=PX br (g::fs) v (off+aS u) xs cs aZ (by simpa using aq) (fun i f aI=>hf (i+1) f aI);subst E;refine⟨(a,b),⟨xm cx fun j v az=>Js az,xm r1 fun j v az=>by simpa only[Nat.add_assoc] using az⟩,?_,dy,ga⟩;simp only[fF,aq4,Rows.uptoBulkAll];omega
 |_::_::_,.int _,_,_,_,h,_,_=>by simp[p9] at h
 |_::_::_,.u8,_,_,_,h,_,_=>by simp[p9] at h
 |_::_::_,.bool,_,_,_,h,_,_=>by simp[p9] at h
 |_::_::_,.str,_,_,_,h,_,_=>by simp[p9] at h
 |_::_::_,.aM,_,_,_,h,_,_=>by simp[p9] at h
 |_::_::_,.b7 _,_,_,_,h,_,_=>by simp[p9] at h
 |_::_::_,.arr _ _,_,_,_,h,_,_=>by simp[p9] at h
theorem PY {α:Type} {l:List α} {y x:α} {i:Nat} (h:fB (l++[y]) i=some x):(i < l.length/\fB l i=some x)\/(i=l.length/\x=y):=by
 unfold fB at*;rcases Nat.lt_trichotomy i l.length with E |E |E
 .rw[ar7 E] at h;exact .inl ⟨E,h⟩
 .subst E;simp only[List.getElem?_concat_length,ap4] at h;exact .inr ⟨rfl,h.symm⟩
 .rw[at6 (by simp;omega)] at h
  cases h
theorem EZ: ∀(n:Nat) (u:bx) (t:TypeId),p' P n u t=true-> ∀(m:Nat) (cs:List Value) (x:DataW hC×List MemPlace),DataW.trod enc P w base Jq held m t cs=some x->PW w u cs (Rows.uptoBulk x.1)
 |0,u,t,h,_,_,_,_=>by simp[p'] at h
 |n+1,u,t,h,m,cs,x,hx=>by
  unfold p' at h
  split at h
  case h_1 k dU a8=>
   obtain rfl:=nH h;obtain⟨i,rfl,rfl,hw⟩:=DataW.trod_int a8 hx;exact⟨i,rfl,Jr _,hw⟩
  case h_2 k a8=>
   obtain rfl:=nH h;obtain⟨i,rfl,rfl,hw⟩:=DataW.trod_int a8 hx
   have ab:0<=i/\i < 256:=by
    simp[Lit.wf,IntKind.min,IntKind.max,IntKind.bits,IntKind.signed] at hw;omega
   refine⟨(UInt8.ofNat i.toNat:UInt8),?_,Jr _,trivial⟩;show some (Value.int .u8 i)=some (Value.int .u8 _)
   congr 2
   rw[UInt8.toNat_ofNat'];omega
  case h_3 a8=>
   obtain⟨b,rfl,rfl⟩:=DataW.trod_bool a8 hx;exact⟨b,rfl,Jr _,trivial⟩
  case h_4 a8=>
   obtain⟨s,rfl,rfl,ax⟩:=DataW.trod_string a8 hx;refine⟨(s.data.toList:List UInt8),rfl,?_,trivial⟩;simp only[fF,Rows.uptoBulk];omega
  case h_5 e v a8=>
   simp only[vj,Nat.beq_eq] at h;obtain⟨⟨E,G⟩,al⟩:=h;have al:0 < aS v:=by simpa[Nat.blt_eq] using al
   rcases open_slice a8 hx with⟨rfl,rfl⟩ |⟨a,len,cap,gm,n',D,bo,rfl,hb,aq,aA,ZF,rfl,q7⟩
   .refine⟨([]:List (Z v)),⟨none,0,rfl,ap0 _,ap7 _,fun h=>absurd h (Nat.lt_irrefl 0)⟩,by simp[fF,Rows.uptoBulk],fun x hx=>by cases hx⟩
   .rw[G] at q7;have aoN:len<=gm:=by rw[ZF];split <;>omega
    have key: ∀k,k<=len-> ∃l:List (Z v),l.length=k/\(l.map (fF v)).sum<=Rows.uptoBulkAll ((List.range k).map D)/\(∀x,x∈l->q6 v x)/\
      (∀i x,fB l i=some x->cp (fun b=>b < w.heap.size) w v x (fun j=>if j < aS v then w.cell? ((a.add (i*aS v)).add j) else none)):=by
     intro k
     induction k with
     |zero=>exact fun _=>⟨[],rfl,au7,(fun x h=>by cases h),fun i x h=>by simp[fB] at h⟩
     |succ k ZG=>
      intro ab;obtain⟨l,iU,gM,pp,up⟩:=ZG au5;obtain⟨ZH,H,ZI⟩:=q7 k au5;obtain⟨y,uq,vK,BF⟩:=EZ n v e E _ _ _ ZI;obtain⟨-,dJ,r'⟩:=World.cells?_some H;refine⟨l++[y],by simp[iU],?_,?_,?_⟩
      .rw[List.range_succ,as3,as3,List.sum_append,PV];have vK:fF v y<=Rows.uptoBulk (D k):=vK;simp only[Rows.uptoBulkAll,aq4,au0,List.sum_cons,List.sum_nil];omega
      .intro x hx;rcases aq8.1 hx with hx |hx
       .exact pp x hx
       .simp at hx;subst hx;exact BF
      .intro i x aI;rcases PY aI with⟨_,aI⟩ |⟨rfl,rfl⟩
       .exact up i x aI
       .rw[iU];refine xm uq fun j cU az=>?_
        have aa:=(ap5.1 az).1;rw[if_pos au5,r' j au5];exact az
    obtain⟨l,iU,gM,pp,up⟩:=key len (ap0 _);refine⟨l,⟨some a,cap,by rw[show List.length (α:=Z v) l=len from iU];rfl,by rw[show List.length (α:=Z v) l=len from iU];exact aq,aA,fun aw=>?_⟩,?_,pp⟩
    .have aw:0 < len:=by rw[<-iU];exact aw
     obtain⟨ZH,H,_⟩:=q7 0 au5;obtain⟨-,dJ,r'⟩:=World.cells?_some H;have BG:=r' 0 au5;rw[oj au5] at BG;obtain⟨b,o,spot⟩:=a;have ZJ:spot=none:=by simpa[Addr.add] using World.cell?_spot BG
     subst ZJ;have hb:=World.block_lt_of_cell? w _ BG;refine⟨b,o,rfl,by simpa[Addr.add] using hb,fun i x aI=>xm (up i x aI) fun j cU az=>?_⟩
     split at az
     .rwa[add_plain,add_plain,Nat.add_assoc] at az
     .cases az
    .simp only[fF,Rows.uptoBulk];exact(show 1+(l.map (fF v)).sum<=_ by omega)
  case h_6 k e dU v a8=>
   simp only[vj,Nat.beq_eq] at h;obtain⟨⟨aw,E⟩,G⟩:=h;subst aw;obtain⟨xs,gm,rfl,rfl,aq,vA,hf⟩:=DataW.trod_array a8 hx;rw[G] at hf
   have key: ∀q,q<=k-> ∃l:List (Z v),l.length=q/\(l.map (fF v)).sum<=Rows.uptoBulkAll ((xs.take q).map (·.1))/\(∀x,x∈l->q6 v x)/\
     (∀i x,fB l i=some x->cp (fun b=>b < w.heap.size) w v x (fun j=>cs[i*aS v+j]?)):=by
    intro q
    induction q with
    |zero=>exact fun _=>⟨[],rfl,au7,(fun x h=>by cases h),fun i x h=>by simp[fB] at h⟩
    |succ q ZK=>
     intro aV;obtain⟨l,iU,gM,pp,up⟩:=ZK au5;have PZ:=hf q au5;rw[oj au5] at PZ;obtain⟨y,uq,vK,BF⟩:=EZ n v e E _ _ _ PZ;refine⟨l++[y],by simp[iU],?_,?_,?_⟩
     .rw[List.take_add_one,oj au5,as3,as3,List.sum_append,PV];simp only[Rows.uptoBulkAll,aq4,au0,List.sum_cons,List.sum_nil,Option.toList_some];omega
     .intro x hx;rcases aq8.1 hx with hx |hx
      .exact pp x hx
      .simp at hx;subst hx;exact BF
     .intro i x aI;rcases PY aI with⟨_,aI⟩ |⟨rfl,rfl⟩
      .exact up i x aI
      .rw[iU];exact xm uq fun j cU az=>Js az
   obtain⟨l,iU,gM,pp,up⟩:=key k (ap0 _);refine⟨l,⟨iU,up⟩,?_,pp⟩;rw[List.take_of_length_le au5] at gM;simp only[fF,Rows.uptoBulk];exact(show(l.map (fF v)).sum<=_ by omega)
  case h_7 sY fs a8=>
   obtain⟨xs,gm,rfl,rfl,aq,vA,hf⟩:=DataW.trod_struct a8 hx;obtain⟨a,cx,cA,dy⟩:=PX (fun u t cr cs x h=>EZ n u t cr _ cs x h) fs.toList _ 0 xs cs h (by simpa using vA) (fun i f aI=>hf i f (by simpa using aI));refine⟨a,xm cx fun j v az=>by rw[Nat.zero_add] at az;exact az,?_,dy⟩;simp only[Rows.uptoBulk];omega
  case h_8=>cases h
end
end
section
namespace vL
def t3:cb:=⟨.int .i64,1,false,[.d (.int .i64 0)],[],some (.int .i64),8⟩
def t4:cb:=⟨.bool,1,false,[.d (.lit false)],[],some .bool,1⟩
def t5:cb:=⟨.int .u8,1,false,[.d (.int .u8 0)],[],some .u8,1⟩
def t9:cb:=⟨.str,1,false,[.d (.str [])],[],some .str,16⟩
def t20:cb:=⟨.other,1,false,[.bI .nilIface],[],none,16⟩
def ZL:cb:=⟨.int .i32,1,false,[.d (.int .i32 0)],[],some (.int .i32),4⟩
def t23:cb:=⟨.st,3,true,[.d (.int .i64 0),.d (.int .i64 0),.d (.int .i64 0)],[(0,1),(1,1),(2,1)],some (.bR (.int .i64) (.bR (.int .i64) (.int .i64))),24⟩
def t24:cb:=⟨.b7 28,1,false,[.dD],[],some (.b7 (.bR (.int .i64) (.bR (.int .i64) (.bR (.int .i64) (.bR (.b7 .u8) (.bR .str (.bR .str (.b7 (.bR .str (.b7 (.int .i64))))))))))),24⟩
def t25:cb:=⟨.b7 5,1,false,[.dD],[],some (.b7 .u8),24⟩
def t26:cb:=⟨.b7 73,1,false,[.dD],[],some (.b7 (.bR .str (.b7 (.int .i64)))),24⟩
def t28:cb:=⟨.st,7,true,[.d (.int .i64 0),.d (.int .i64 0),.d (.int .i64 0),.dD,.d (.str []),.d (.str []),.dD],[(0,1),(1,1),(2,1),(3,1),(4,1),(5,1),(6,1)],some (.bR (.int .i64) (.bR (.int .i64) (.bR (.int .i64) (.bR (.b7 .u8) (.bR .str (.bR .str (.b7 (.bR .str (.b7 (.int .i64)))))))))),104⟩
def t29:cb:=⟨.ptr 70,1,false,[.bI (.pointer none)],[],some .aM,8⟩
def ZM:cb:=⟨.int .i64,1,false,[.d (.int .i64 0)],[],some (.int .i64),8⟩
def t35:cb:=⟨.other,1,false,[.bI .nilFunc],[],some .fn,8⟩
def t36:cb:=⟨.b7 80,1,false,[.dD],[],some (.b7 (.bR .str (.b7 (.int .i64)))),24⟩
def ZN:cb:=⟨.st,7,true,[.d (.int .i64 0),.d (.int .i64 0),.d (.int .i64 0),.dD,.d (.str []),.d (.str []),.dD],[(0,1),(1,1),(2,1),(3,1),(4,1),(5,1),(6,1)],some (.bR (.int .i64) (.bR (.int .i64) (.bR (.int .i64) (.bR (.b7 .u8) (.bR .str (.bR .str (.b7 (.bR .str (.b7 (.int .i64)))))))))),104⟩
def ZO:cb:=⟨.ptr 92,1,false,[.bI (.pointer none)],[],some .aM,8⟩
def t44:cb:=⟨.ptr 84,1,false,[.bI (.pointer none)],[],some .aM,8⟩
def ZP:cb:=⟨.ptr 100,1,false,[.bI (.pointer none)],[],some .aM,8⟩
def ZQ:cb:=⟨.ptr 103,1,false,[.bI (.pointer none)],[],some .aM,8⟩
def t57:cb:=⟨.ptr 106,1,false,[.bI (.pointer none)],[],some .aM,8⟩
def ZR:cb:=⟨.other,1,false,[.bI .nilIface],[],none,16⟩
def ZS:cb:=⟨.ptr 167,1,false,[.bI (.pointer none)],[],some .aM,8⟩
def ZT:cb:=⟨.ptr 177,1,false,[.bI (.pointer none)],[],some .aM,8⟩
def t63:cb:=⟨.b7 109,1,false,[.dD],[],some (.b7 (.bR (.int .i64) (.b7 .u8))),24⟩
def ZU:cb:=⟨.st,5,true,[.d (.str []),.d (.str []),.d (.int .i64 0),.d (.int .i64 0),.dD],[(0,1),(1,1),(2,1),(3,1),(4,1)],some (.bR .str (.bR .str (.bR (.int .i64) (.bR (.int .i64) (.b7 (.bR (.int .i64) (.b7 .u8))))))),72⟩
def ZV:cb:=⟨.ptr 161,1,false,[.bI (.pointer none)],[],some .aM,8⟩
def ZW:cb:=⟨.st,7,true,[.d (.str []),.d (.str []),.d (.int .i64 0),.d (.int .i64 0),.dD,.d (.str []),.bI (.pointer none)],[(0,5),(5,1),(6,1)],some (.bR (.bR .str (.bR .str (.bR (.int .i64) (.bR (.int .i64) (.b7 (.bR (.int .i64) (.b7 .u8))))))) (.bR .str .aM)),96⟩
def ZX:cb:=⟨.st,17,true,[.d (.int .i64 0),.d (.str []),.bI (.pointer none),.bI (.pointer none),.bI (.pointer none),.bI (.pointer none),.d (.int .i64 0),.bI .nilIface,.bI (.pointer none),.bI (.pointer none),.d (.str []),.d (.str []),.d (.int .i64 0),.d (.int .i64 0),.dD,.d (.str []),.bI (.pointer none)],[(0,1),(1,1),(2,1),(3,1),(4,1),(5,1),(6,1),(7,1),(8,1),(9,1),(10,7)],none,192⟩
def ZY:cb:=⟨.b7 3,1,false,[.dD],[],some (.b7 (.int .i64)),24⟩
def ZZ:cb:=⟨.st,2,true,[.d (.str []),.dD],[(0,1),(1,1)],some (.bR .str (.b7 (.int .i64))),40⟩
def Z0:cb:=⟨.mp 3 35,1,false,[.bI (.map none)],[],none,8⟩
def Z1:cb:=⟨.st,2,true,[.d (.str []),.dD],[(0,1),(1,1)],some (.bR .str (.b7 (.int .i64))),40⟩
def Z2:cb:=⟨.ptr 86,1,false,[.bI (.pointer none)],[],some .aM,8⟩
def Z3:cb:=⟨.mp 9 81,1,false,[.bI (.map none)],[],none,8⟩
def Z4:cb:=⟨.st,3,true,[.d (.int .i64 0),.d (.int .i64 0),.bI (.map none)],[(0,1),(1,1),(2,1)],none,24⟩
def Z5:cb:=⟨.st,2,true,[.bI (.pointer none),.d (.str [])],[(0,1),(1,1)],some (.bR .aM .str),24⟩
def Z6:cb:=⟨.ptr 143,1,false,[.bI (.pointer none)],[],some .aM,8⟩
def Z7:cb:=⟨.ptr 205,1,false,[.bI (.pointer none)],[],some .aM,8⟩
def Z8:cb:=⟨.mp 3 25,1,false,[.bI (.map none)],[],none,8⟩
def Z9:cb:=⟨.b7 350,1,false,[.dD],[],some (.b7 (.bR .str .aM)),24⟩
def Z':cb:=⟨.st,5,true,[.d (.int .i64 0),.bI (.pointer none),.bI (.pointer none),.bI (.map none),.dD],[(0,1),(1,1),(2,1),(3,1),(4,1)],none,56⟩
def aaa:cb:=⟨.other,1,false,[.bI .nilFunc],[],some .fn,8⟩
def aab:cb:=⟨.b7 9,1,false,[.dD],[],some (.b7 .str),24⟩
def aac:cb:=⟨.mp 9 183,1,false,[.bI (.map none)],[],none,8⟩
def aad:cb:=⟨.st,2,true,[.d (.int .i64 0),.bI (.map none)],[(0,1),(1,1)],none,16⟩
def aae:cb:=⟨.mp 9 162,1,false,[.bI (.map none)],[],none,8⟩
def aaf:cb:=⟨.st,1,true,[.bI (.map none)],[(0,1)],none,8⟩
def aag:cb:=⟨.b7 65,1,false,[.dD],[],some (.b7 (.bR .str (.bR .str (.bR (.int .i64) (.bR (.int .i64) (.b7 (.bR (.int .i64) (.b7 .u8)))))))),24⟩
def aah:cb:=⟨.st,1,true,[.dD],[(0,1)],some (.b7 (.bR .str (.bR .str (.bR (.int .i64) (.bR (.int .i64) (.b7 (.bR (.int .i64) (.b7 .u8)))))))),24⟩
def aai:cb:=⟨.st,2,true,[.d (.int .i64 0),.dD],[(0,1),(1,1)],some (.bR (.int .i64) (.b7 .u8)),32⟩
def aaj:cb:=⟨.other,1,false,[.bI .nilFunc],[],some .fn,8⟩
def aak:cb:=⟨.ptr 172,1,false,[.bI (.pointer none)],[],some .aM,8⟩
def aal:cb:=⟨.mp 3 268,1,false,[.bI (.map none)],[],none,8⟩
def aam:cb:=⟨.st,2,true,[.d (.int .i64 0),.bI (.map none)],[(0,1),(1,1)],none,16⟩
def aan:cb:=⟨.other,1,false,[.bI .nilFunc],[],some .fn,8⟩
def aao:cb:=⟨.other,1,false,[.bI .nilFunc],[],some .fn,8⟩
def aap:cb:=⟨.other,1,false,[.bI .nilFunc],[],some .fn,8⟩
def aaq:cb:=⟨.other,1,false,[.bI .nilFunc],[],some .fn,8⟩
def aar:cb:=⟨.mp 3 3,1,false,[.bI (.map none)],[],none,8⟩
def aas:cb:=⟨.st,3,true,[.d (.int .i64 0),.d (.int .i64 0),.bI (.map none)],[(0,1),(1,1),(2,1)],none,24⟩
def aat:cb:=⟨.ptr 165,1,false,[.bI (.pointer none)],[],some .aM,8⟩
def aau:cb:=⟨.st,4,true,[.d (.str []),.d (.lit false),.d (.lit false),.bI (.pointer none)],[(0,1),(1,1),(2,1),(3,1)],some (.bR .str (.bR .bool (.bR .bool .aM))),32⟩
def aav:cb:=⟨.st,5,true,[.bI (.pointer none),.d (.str []),.d (.str []),.bI (.map none),.d (.lit false)],[(0,1),(1,1),(2,1),(3,1),(4,1)],none,56⟩
def aaw:cb:=⟨.st,4,true,[.bI (.pointer none),.d (.str []),.d (.str []),.d (.lit false)],[(0,1),(1,1),(2,1),(3,1)],some (.bR .aM (.bR .str (.bR .str .bool))),48⟩
def aax:cb:=⟨.st,9,true,[.bI (.pointer none),.d (.str []),.d (.int .i64 0),.d (.int .i64 0),.d (.int .i64 0),.bI (.map none),.bI (.map none),.d (.lit false),.d (.lit false)],[(0,1),(1,1),(2,1),(3,1),(4,1),(5,1),(6,1),(7,1),(8,1)],none,72⟩
def aay:cb:=⟨.ptr 239,1,false,[.bI (.pointer none)],[],some .aM,8⟩
def aaz:cb:=⟨.other,1,false,[.bI .nilFunc],[],some .fn,8⟩
def aaA:cb:=⟨.ptr 246,1,false,[.bI (.pointer none)],[],some .aM,8⟩
def aaB:cb:=⟨.st,1,true,[.dD],[(0,1)],some (.b7 (.int .i64)),24⟩
def aaC:cb:=⟨.other,1,false,[.bI .nilFunc],[],some .fn,8⟩
def aaD:cb:=⟨.st,4,true,[.d (.int .i64 0),.d (.int .i64 0),.d (.int .i64 0),.d (.int .i64 0)],[(0,1),(1,1),(2,1),(3,1)],some (.bR (.int .i64) (.bR (.int .i64) (.bR (.int .i64) (.int .i64)))),32⟩
def aaE:cb:=⟨.other,1,false,[.bI .nilFunc],[],some .fn,8⟩
def aaF:cb:=⟨.other,1,false,[.bI .nilFunc],[],some .fn,8⟩
def aaG:cb:=⟨.other,1,false,[.bI .nilFunc],[],some .fn,8⟩
def aaH:cb:=⟨.other,1,false,[.bI .nilFunc],[],some .fn,8⟩
def aaI:cb:=⟨.other,1,false,[.bI .nilFunc],[],some .fn,8⟩
def aaJ:cb:=⟨.st,3,true,[.d (.int .i64 0),.d (.int .i64 0),.d (.lit false)],[(0,1),(1,1),(2,1)],some (.bR (.int .i64) (.bR (.int .i64) .bool)),24⟩
def aaK:cb:=⟨.other,1,false,[.bI .nilFunc],[],some .fn,8⟩
def aaL:cb:=⟨.other,1,false,[.bI .nilFunc],[],some .fn,8⟩
def aaM:cb:=⟨.b7 271,1,false,[.dD],[],some (.b7 (.bR (.int .i64) (.bR (.int .i64) (.int .i64)))),24⟩
def aaN:cb:=⟨.mp 3 241,1,false,[.bI (.map none)],[],none,8⟩
def aaO:cb:=⟨.b7 243,1,false,[.dD],[],some (.b7 (.bR (.int .i64) (.arr 16 .u8))),24⟩
def aaP:cb:=⟨.st,5,true,[.d (.int .i64 0),.d (.int .i64 0),.bI (.map none),.bI (.map none),.dD],[(0,1),(1,1),(2,1),(3,1),(4,1)],none,56⟩
def aaQ:cb:=⟨.arr 16 5,16,true,[.d (.int .u8 0),.d (.int .u8 0),.d (.int .u8 0),.d (.int .u8 0),.d (.int .u8 0),.d (.int .u8 0),.d (.int .u8 0),.d (.int .u8 0),.d (.int .u8 0),.d (.int .u8 0),.d (.int .u8 0),.d (.int .u8 0),.d (.int .u8 0),.d (.int .u8 0),.d (.int .u8 0),.d (.int .u8 0)],[],some (.arr 16 .u8),16⟩
def aaR:cb:=⟨.st,17,true,[.d (.int .i64 0),.d (.int .u8 0),.d (.int .u8 0),.d (.int .u8 0),.d (.int .u8 0),.d (.int .u8 0),.d (.int .u8 0),.d (.int .u8 0),.d (.int .u8 0),.d (.int .u8 0),.d (.int .u8 0),.d (.int .u8 0),.d (.int .u8 0),.d (.int .u8 0),.d (.int .u8 0),.d (.int .u8 0),.d (.int .u8 0)],[(0,1),(1,16)],some (.bR (.int .i64) (.arr 16 .u8)),24⟩
def aaS:cb:=⟨.st,2,true,[.dD,.d (.int .i64 0)],[(0,1),(1,1)],some (.bR (.b7 .u8) (.int .i64)),32⟩
def aaT:cb:=⟨.int .u64,1,false,[.d (.int .u64 0)],[],some (.int .u64),8⟩
def aaU:cb:=⟨.other,1,false,[.bI .nilFunc],[],some .fn,8⟩
def aaV:cb:=⟨.other,1,false,[.bI .nilFunc],[],some .fn,8⟩
def aaW:cb:=⟨.other,1,false,[.bI .nilFunc],[],some .fn,8⟩
def aaX:cb:=⟨.arr 16 224,48,true,[.d (.int .i64 0),.d (.int .i64 0),.d (.lit false),.d (.int .i64 0),.d (.int .i64 0),.d (.lit false),.d (.int .i64 0),.d (.int .i64 0),.d (.lit false),.d (.int .i64 0),.d (.int .i64 0),.d (.lit false),.d (.int .i64 0),.d (.int .i64 0),.d (.lit false),.d (.int .i64 0),.d (.int .i64 0),.d (.lit false),.d (.int .i64 0),.d (.int .i64 0),.d (.lit false),.d (.int .i64 0),.d (.int .i64 0),.d (.lit false),.d (.int .i64 0),.d (.int .i64 0),.d (.lit false),.d (.int .i64 0),.d (.int .i64 0),.d (.lit false),.d (.int .i64 0),.d (.int .i64 0),.d (.lit false),.d (.int .i64 0),.d (.int .i64 0),.d (.lit false),.d (.int .i64 0),.d (.int .i64 0),.d (.lit false),.d (.int .i64 0),.d (.int .i64 0),.d (.lit false),.d (.int .i64 0),.d (.int .i64 0),.d (.lit false),.d (.int .i64 0),.d (.int .i64 0),.d (.lit false)],[],some (.arr 16 (.bR (.int .i64) (.bR (.int .i64) .bool))),384⟩
def aaY:cb:=⟨.st,3,true,[.d (.int .i64 0),.d (.int .i64 0),.d (.int .i64 0)],[(0,1),(1,1),(2,1)],some (.bR (.int .i64) (.bR (.int .i64) (.int .i64))),24⟩
def aaZ:cb:=⟨.other,1,false,[.bI .nilFunc],[],some .fn,8⟩
def aa0:cb:=⟨.ptr 293,1,false,[.bI (.pointer none)],[],some .aM,8⟩
def aa1:cb:=⟨.b7 113,1,false,[.dD],[],some (.b7 .fn),24⟩
def aa2:cb:=⟨.st,2,true,[.dD,.d (.int .i64 0)],[(0,1),(1,1)],some (.bR (.b7 .fn) (.int .i64)),32⟩
def aa3:cb:=⟨.other,1,false,[.bI .nilFunc],[],some .fn,8⟩
def aa4:cb:=⟨.int .i64,1,false,[.d (.int .i64 0)],[],some (.int .i64),8⟩
def aa5:cb:=⟨.int .u32,1,false,[.d (.int .u32 0)],[],some (.int .u32),4⟩
def aa6:cb:=⟨.int .u64,1,false,[.d (.int .u64 0)],[],some (.int .u64),8⟩
def aa7:cb:=⟨.b7 25,1,false,[.dD],[],some (.b7 (.b7 .u8)),24⟩
def aa8:cb:=⟨.other,1,false,[.bI .nilFunc],[],some .fn,8⟩
def aa9:cb:=⟨.int .u64,1,false,[.d (.int .u64 0)],[],some (.int .u64),8⟩
def aa':cb:=⟨.ptr 3,1,false,[.bI (.pointer none)],[],some .aM,8⟩
def aba:cb:=⟨.ptr 320,1,false,[.bI (.pointer none)],[],some .aM,8⟩
def abb:cb:=⟨.mp 3 113,1,false,[.bI (.map none)],[],none,8⟩
def abc:cb:=⟨.st,2,true,[.d (.str []),.bI (.pointer none)],[(0,1),(1,1)],some (.bR .str .aM),24⟩
def abd:cb:=⟨.other,1,false,[.bI .nilFunc],[],some .fn,8⟩
def types:dd:=(.node (.node (.node (.node (.node (.node (.node .leaf 3 t3 .leaf) 4 t4 (.node .leaf 5 t5 .leaf)) 9 t9 (.node (.node .leaf 20 t20 .leaf) 21 ZL .leaf)) 23 t23 (.node (.node (.node .leaf 24 t24 .leaf) 25 t25 (.node .leaf 26 t26 .leaf)) 28 t28 (.node (.node .leaf 29 t29 .leaf) 30 ZM .leaf))) 35 t35 (.node (.node (.node (.node .leaf 36 t36 .leaf) 38 ZN (.node .leaf 43 ZO .leaf)) 44 t44 (.node (.node .leaf 52 ZP .leaf) 55 ZQ .leaf)) 57 t57 (.node (.node (.node .leaf 60 ZR .leaf) 61 ZS (.node .leaf 62 ZT .leaf)) 63 t63 (.node (.node .leaf 65 ZU .leaf) 66 ZV .leaf)))) 68 ZW (.node (.node (.node (.node (.node .leaf 70 ZX .leaf) 71 ZY (.node .leaf 73 ZZ .leaf)) 78 Z0 (.node (.node .leaf 80 Z1 .leaf) 81 Z2 .leaf)) 82 Z3 (.node (.node (.node .leaf 84 Z4 .leaf) 86 Z5 (.node .leaf 87 Z6 .leaf)) 88 Z7 (.node (.node .leaf 89 Z8 .leaf) 90 Z9 .leaf))) 92 Z' (.node (.node (.node (.node .leaf 95 aaa .leaf) 96 aab (.node .leaf 98 aac .leaf)) 100 aad (.node (.node .leaf 101 aae .leaf) 103 aaf .leaf)) 104 aag (.node (.node (.node .leaf 106 aah .leaf) 109 aai .leaf) 113 aaj (.node (.node .leaf 121 aak .leaf) 141 aal .leaf))))) 143 aam (.node (.node (.node (.node (.node (.node .leaf 149 aan .leaf) 154 aao (.node .leaf 156 aap .leaf)) 158 aaq (.node (.node .leaf 159 aar .leaf) 161 aas .leaf)) 162 aat (.node (.node (.node .leaf 165 aau .leaf) 167 aav (.node .leaf 172 aaw .leaf)) 177 aax (.node (.node .leaf 183 aay .leaf) 185 aaz .leaf))) 187 aaA (.node (.node (.node (.node .leaf 205 aaB .leaf) 206 aaC (.node .leaf 209 aaD .leaf)) 213 aaE (.node (.node .leaf 215 aaF .leaf) 216 aaG .leaf)) 219 aaH (.node (.node (.node .leaf 220 aaI .leaf) 224 aaJ (.node .leaf 228 aaK .leaf)) 231 aaL (.node (.node .leaf 233 aaM .leaf) 236 aaN .leaf)))) 237 aaO (.node (.node (.node (.node (.node .leaf 239 aaP .leaf) 241 aaQ (.node .leaf 243 aaR .leaf)) 246 aaS (.node (.node .leaf 248 aaT .leaf) 249 aaU .leaf)) 251 aaV (.node (.node (.node .leaf 252 aaW .leaf) 268 aaX (.node .leaf 271 aaY .leaf)) 274 aaZ (.node (.node .leaf 278 aa0 .leaf) 291 aa1 .leaf))) 293 aa2 (.node (.node (.node (.node .leaf 295 aa3 .leaf) 297 aa4 (.node .leaf 305 aa5 .leaf)) 307 aa6 (.node (.node .leaf 316 aa7 .leaf) 317 aa8 .leaf)) 320 aa9 (.node (.node (.node .leaf 324 aa' .leaf) 328 aba .leaf) 347 abb (.node (.node .leaf 350 abc .leaf) 352 abd .leaf))))))
end vL
set_option maxRecDepth 100000 in
theorem eN:d6 Tryz.prog vL.types:=d6.of au8
theorem mixed:Tryz.prog.follows .mixedOrders=true:=by kernel_rfl
end
section
open Go.ChangeShapes Go.WideShapes Go.ChangeAt Go.RowKit
section
variable {hC:Type} {enc:TypeId×Value->hC} {P:Program}
theorem abe {f:Func} {s:ChangeSpec} {apart fresh handsOn again:Bool} {W j2:World} {args:Array Value} {v:Value} {ds gs:List (DataW hC)} {oL pa pv:List MemPlace}
  (d2:DataW.Whole enc P f.params.toList s.vars apart W args.toList ds gs oL)
  (i9: ∀(b:Nat) (sp:Nat->Bool) (J:Bool),DataW.TrodAll enc P j2 b sp J f.resultTypes.toList (v.resultList f.resultTypes.size) (s.fn hC (ds++gs)).results [])
  (ft: ∀sp:Nat->Bool,(∀p∈oL,sp p.block=true)->DataW.TrodAll enc P j2 0 sp true f.params.toList args.toList (s.fn hC (ds++gs)).args pa)
  (BH: ∀sp:Nat->Bool,(∀p∈oL,sp p.block=true)->DataW.TrodVars enc P j2 sp s.vars (s.fn hC (ds++gs)).vars pv)
  (lu:oL=pa++pv) (O:Below W.heap.size W j2)
  (bu: ∀(j:Nat) (t:TypeId) (r:Value),f.resultTypes[j]? =some t->(v.resultList f.resultTypes.size)[j]? =some r->Value.okWide P j2 .any 0 t r):
  s.post enc P f apart fresh handsOn again W args v j2:=by
 have bw: ∀p∈oL,p.block < W.heap.size:=fun p ag=>d2.lt p ag
 have mC: ∀p∈oL,(fun b=>decide (b < W.heap.size)) p.block=true:=fun p ag=>by simpa using bw p ag
 refine⟨ds,gs,oL,[],pa,pv,d2,i9 _ _ _,ft _ mC,BH _ mC,World.keptBut_mono (fun p ag=>⟨ag,?_⟩) (O.frame (· ∈oL)),fun _=>?_⟩
 .rw[lu,aq8] at ag;exact Or.inr ag
 .obtain⟨_,_,_,_,_,aR,hn⟩:=d2;refine⟨bu,_,_,([]++pa)++pv,⟨[]++pa,pv,trodAll_append (ft _ (fun _ _=>rfl)) (i9 _ _ _),BH _ (fun _ _=>rfl),rfl,?_,?_⟩,?_⟩
  .intro b off ag;have fq:MemPlace.cell b off∈oL:=by rw[lu];simpa using ag
   rw[O.frozen (bw _ fq)];exact aR b off fq
  .intro ha;have:=hn ha;rw[lu] at this;simpa using this
  .intro p ag _;rw[lu];simpa using ag
end
def P0:(u:bx)->Z u->aQ
 | .bR u v,x=>.c (.agg (gh (.bR u v) x 0 (aS (.bR u v))))
 | .arr n u,x=>.c (.agg (gh (.arr n u) x 0 (aS (.arr n u))))
 | .int k,x=>.c (.one (.d (fA (.int k) x 0)))
 | .u8,x=>.c (.one (.d (fA .u8 x 0)))
 | .bool,x=>.c (.one (.d (fA .bool x 0)))
 | .str,x=>.c (.one (.d (fA .str x 0)))
 | .aM,x=>.c (.one (.d (fA .aM x 0)))
 | .dC,x=>.c (.one (.d (fA .dC x 0)))
 | .fn,x=>.c (.one (.d (fA .fn x 0)))
 | .b7 u,x=>.c (.one (.d (fA (.b7 u) x 0)))
def ur (P:Program) (t:TypeId):Bool:=match P.underlying t with
 |some (.struct _)=>false
 |some (.array _ _)=>false
 |some _=>true
 |none=>false
def E0 (P:Program) (u:bx) (t:TypeId):Bool:=p' P 20 u t&&(mW u == ur P t)&&Nat.beq (P.cellsOf t) (aS u)&&P.readableRec t&&Nat.blt t P.types.size
section
variable {hC:Type} {enc:TypeId×Value->hC} {W:World} {P:Program} {ρ:Nat->bo} {I:Nat->Prop}
theorem P1 {u:bx} {x:Z u} {cs:List Value} (J:cp I W u x (fun j=>cs[j]?)): ∀(n o:Nat),o+n<=aS u->o+n<=cs.length->b' ρ I W (gh u x o n) ((cs.drop o).take n)
 |0,o,_,_=>by simp[gh,b']
 |n+1,o,h,aq=>by
  obtain⟨v,az,uj⟩:=cp.cell u x _ o J au5;refine⟨v,(cs.drop (o+1)).take n,?_,uj,P1 J n (o+1) au5 au5⟩;have:=(ap5.1 az).2;rw[List.drop_eq_getElem_cons (by omega:o < cs.length),List.take_succ_cons,this]
theorem abf {t:TypeId} {v:Value} {base:Nat} (E:ur P t=true) (h:Value.okWide P W .any base t v) {fuel:Nat} {sp:Nat->Bool} {u:bx} {n:Nat} {x:DataW hC×List MemPlace} (a8:p' P n u t=true) (G:mW u=true):v.cells.toList=[v]:=by
 cases n with
 |zero=>simp[p'] at a8
 |succ n=>
  unfold p' at a8
  split at a8
  case h_1 k dU cr=>obtain⟨n,rfl⟩:=okWide_int cr h;rfl
  case h_2 k cr=>obtain⟨n,rfl⟩:=okWide_int cr h;rfl
  case h_3 cr=>obtain⟨n,rfl⟩:=okWide_bool cr h;rfl
  case h_4 cr=>obtain⟨n,rfl⟩:=okWide_string cr h;rfl
  case h_5 e v cr=>obtain⟨a,b,c,rfl⟩:=okWide_slice cr h;rfl
  case h_6=>simp[mW] at G
  case h_7 fs u cr=>simp[ur,cr] at E
  case h_8=>cases a8
theorem abg {t:TypeId} {v:Value} {base:Nat} (E:ur P t=false) (h:Value.okWide P W .any base t v) {n:Nat} {u:bx} (a8:p' P n u t=true): ∃cs,v= .agg cs/\cs.size=P.cellsOf t:=by
 cases n with
 |zero=>simp[p'] at a8
 |succ n=>
  unfold p' at a8;unfold Value.okWide at h
  split at a8
  case h_1 k dU cr=>simp[ur,cr] at E
  case h_2 k cr=>simp[ur,cr] at E
  case h_3 cr=>simp[ur,cr] at E
  case h_4 cr=>simp[ur,cr] at E
  case h_5 e v cr=>simp[ur,cr] at E
  case h_6 k e dU v cr=>rw[cr] at h;obtain⟨cs,E,G,_⟩:=h;exact⟨cs,E,G⟩
  case h_7 fs u cr=>rw[cr] at h;obtain⟨cs,E,G,_⟩:=h;exact⟨cs,E,G⟩
  case h_8=>cases a8
theorem abh {u:bx} {t:TypeId} {v:Value} {d:DataW hC} {bE:List MemPlace} {base:Nat} {sp:Nat->Bool} (h:E0 P u t=true) (bu:Value.okWide P W .any base t v) (cc:DataW.Trod enc P W 0 sp true t v d bE):
  ∃a:Z u,ct ρ (fun b=>b < W.heap.size) W (P0 u a) v/\fF u a<=Rows.uptoBulk d/\q6 u a:=by
 simp only[E0,vj,Nat.beq_eq,beq_iff_eq] at h;obtain⟨⟨⟨⟨E,G⟩,al⟩,_⟩,_⟩:=h;obtain⟨n,hn⟩:=cc;obtain⟨a,cx,cA,dy⟩:=EZ _ _ _ E _ _ _ hn;refine⟨a,?_,cA,dy⟩
 cases ai:mW u with
 |true=>
  rw[abf (x:=(d,bE)) (fuel:=n) (sp:=sp) (by rw[<-G,ai]) bu E ai] at cx;obtain⟨cU,aj,ap⟩:=cp.cell u a _ 0 cx (by rcases u with _ |_ |_ |_ |_ |_ |_ <;>simp[aS,mW] at*);simp only[aq5,ap4] at aj;subst aj
  cases u <;>first |exact ap |(simp[mW] at ai)
 |false=>
  obtain⟨cs,rfl,cQ⟩:=abg (by rw[<-G,ai]) bu E;have aq:cs.toList.length=aS u:=by rw[Array.length_toList];omega
  have:=P1 (ρ:=ρ) cx (aS u) 0 au5 (by simpa[Value.cells] using(show 0+aS u<=cs.toList.length by omega));rw[List.drop_zero,List.take_of_length_le (by simp only[Value.cells];omega)] at this
  cases u <;>first |exact⟨_,rfl,this⟩ |(simp[mW] at ai)
def zm:List bx->Type
 | []=>Unit
 |u::us=>Z u×zm us
def vM:(us:List bx)->zm us->List aQ
 | [],_=>[]
 |u::us,x=>P0 u x.1::vM us x.2
noncomputable def E1:(us:List bx)->zm us->Nat
 | [],_=>0
 |u::us,x=>fF u x.1+E1 us x.2
def Jt:(us:List bx)->zm us->Prop
 | [],_=>True
 |u::us,x=>q6 u x.1/\Jt us x.2
def td (P:Program):List bx->List TypeId->Bool
 | [],[]=>true
 |u::us,t::cq=>E0 P u t&&td P us cq
 |_,_=>false
theorem P2 {base:Nat} {sp:Nat->Bool}: ∀(us:List bx) (cq:List TypeId) (aD:List Value) (ds:List (DataW hC)) (bE:List MemPlace),td P us cq=true->(∀(j:Nat) t v,cq[j]? =some t->aD[j]? =some v->Value.okWide P W .any base t v)->
  DataW.TrodAll enc P W 0 sp true cq aD ds bE-> ∃a:zm us,aD.length=(vM us a).length/\(∀(i:Nat) (s:aQ) (x:Value),(vM us a)[i]? =some s->aD[i]? =some x->ct ρ (fun b=>b < W.heap.size) W s x)/\E1 us a<=Rows.uptoBulkAll ds/\Jt us a
 | [],[],aD,ds,bE,_,_,cc=>by
  obtain⟨rfl,rfl,rfl⟩:=trodAll_nil cc;exact⟨(),rfl,fun i s x h=>by simp[vM] at h,ap7 _,trivial⟩
 | [],_::_,_,_,_,h,_,_=>by simp[td] at h
 |_::_,[],_,_,_,h,_,_=>by simp[td] at h
 |u::us,t::cq,aD,ds,bE,h,bu,cc=>by
  simp only[td,vj] at h;obtain⟨v,aD,d,ds,p,q,rfl,rfl,rfl,aw,aF⟩:=trodAll_cons cc;obtain⟨a,b4,ci,a3⟩:=abh (ρ:=ρ) h.1 (bu 0 t v rfl rfl) aw;obtain⟨b,b1,b2,b3,ef⟩:=P2 us cq aD ds q h.2 (fun j t v E G=>bu (j+1) t v E G) aF;refine⟨(a,b),by simp[vM,b1],fun i s x E G=>?_,by simp only[E1,Rows.uptoBulkAll];omega,a3,ef⟩
  match i with
  |0=>simp only[vM,aq5,ap4] at E G;subst E G;exact b4
  |i+1=>exact b2 i s x (by simpa[vM] using E) (by simpa using G)
theorem P3 (laid:laidOutB P=true) {j2:World} {P4:Nat->Bool}: ∀(us:List bx) (cq:List TypeId) (aD:List Value) (ds:List (DataW hC)) (bE:List MemPlace),td P us cq=true->
  DataW.TrodAll enc P W 0 (fun _=>true) true cq aD ds bE->Below W.heap.size W j2->(∀x∈bE,x.block < W.heap.size)->(∀x∈bE,P4 x.block=true)->DataW.TrodAll enc P j2 0 P4 true cq aD ds bE
 | [],[],aD,ds,bE,_,cc,_,_,_=>by
  obtain⟨rfl,rfl,rfl⟩:=trodAll_nil cc;exact trodAll_mk0
 | [],_::_,_,_,_,h,_,_,_,_=>by simp[td] at h
 |_::_,[],_,_,_,h,_,_,_,_=>by simp[td] at h
 |u::us,t::cq,aD,ds,bE,h,cc,O,bw,BI=>by
  simp only[td,vj] at h;obtain⟨v,aD,d,ds,p,q,rfl,rfl,rfl,aw,aF⟩:=trodAll_cons cc;have E:=h.1;simp only[E0,vj,Nat.blt_eq] at E;exact trodAll_cons_mk (WideElems.Trod_stays laid E.1.2 E.2 aw (fun x hx=>O.same (bw x (by simp[hx]))) (fun x hx=>BI x (by simp[hx]))) (P3 laid us cq aD ds q h.2 aF O (fun x hx=>bw x (by simp[hx])) (fun x hx=>BI x (by simp[hx])))
theorem Fn.abi {f:FuncId} {args:List aQ} (bj:Fn P f args [] [] (fI true) []) (bW:Array Value) (aq:bW.toList.length=args.length)
  (J: ∀(i:Nat) (s:aQ) (x:Value),args[i]? =some s->bW.toList[i]? =some x->ct ρ (fun b=>b < W.heap.size) W s x):Calls P f bW W fun e j2=>e= .returned (.bool true)/\Below W.heap.size W j2:=by
 have h:=bj.2 ρ (fun _ _=>False) (fun b=>b < W.heap.size) W bW.toList (fun b h=>h) (fun c ch H=>by simp[ah] at H) (fun c ch H=>by simp[ah] at H) (fun c bX ch ch' b H=>by simp[ah] at H) aq J;rw[Array.toArray_toList] at h;refine h.mono ?_;rintro e j2 ⟨x,ρ',F',rfl,cz,-,I',-,-,-,-,-,hx⟩;rw[show x= .bool true from hx];exact⟨rfl,cz.below (ap0 _) (by rintro i _ ⟨c,ch,H,_⟩;simp[ah] at H)⟩
end
theorem abj:ownKnob Tryz.prog.godebug=none:=by kernel_rfl
theorem abk:laidOutB Tryz.prog=true:=by kernel_rfl
set_option maxRecDepth 100000 in
theorem abl {hC:Type} {enc:TypeId×Value->hC} {W:World} {args:Array Value} {ds gs:List (DataW hC)} {oL:List MemPlace} {base:Nat} (f:FuncId) (fn:Func) (s:ChangeSpec) (us:List bx) (n:Nat)
  (i9:fn.resultTypes= #[4]) (BH:s.vars=[]) (P5:td Tryz.prog us fn.params.toList=true)
  (j0: ∀ds:List (DataW hC),ds.length=fn.params.toList.length->(s.fn hC ds).results=[.lit (.bool true)]/\(s.fn hC ds).vars=[]/\(s.fn hC ds).args=ds)
  (ut: ∀(j:Nat) t v,fn.params[j]? =some t->args[j]? =some v->Value.okWide Tryz.prog W .any base t v)
  (d2:DataW.Whole enc Tryz.prog fn.params.toList s.vars false W args.toList ds gs oL) (ab:Rows.uptoBulkAll (ds++gs)<=n)
  (bj: ∀a:zm us,E1 us a<=n->Jt us a->Fn Tryz.prog f (vM us a) [] [] (fI true) []):
  Calls Tryz.prog f args W fun e j2=> ∃v,e= .returned v/\s.post enc Tryz.prog fn false true false false W args v j2:=by
 have P6:=d2;have bw:=d2.lt;obtain⟨p,q,eG,P7,rfl,aoO,d0⟩:=d2;rw[BH] at P7;obtain⟨rfl,rfl⟩:=trodVars_none P7;simp only[as5] at P6 ab bw;obtain⟨a,b4,ci,a3,a4⟩:=P2 (ρ:=fun _=>⟨0,none,0,0⟩) us fn.params.toList args.toList ds p P5 (fun j t v E G=>ut j t v (by simpa using E) (by simpa using G)) eG
 have b6:ds.length=fn.params.toList.length:=by
  have: ∀(cq:List TypeId) (aD:List Value) (ds:List (DataW hC)) (bE:List MemPlace),DataW.TrodAll enc Tryz.prog W 0 (fun _=>true) true cq aD ds bE->ds.length=cq.length:=fun cq=>by
   induction cq with
   |nil=>intro aD ds bE h;obtain⟨_,rfl,_⟩:=trodAll_nil h;rfl
   |cons t cq br=>intro aD ds bE h;obtain⟨v,aD,d,ds,p,q,rfl,rfl,rfl,aw,aF⟩:=trodAll_cons h;simp[br _ _ _ aF]
  exact this _ _ _ _ eG
 obtain⟨r1,r2,ga⟩:=j0 ds b6;refine((bj a au5 a4).abi args b4 ci).mono fun e j2 ⟨V,O⟩=>?_
 subst V;refine⟨_,rfl,abe (pa:=p) (pv:=[]) P6 ?_ ?_ ?_ au7 O ?_⟩
 .intro b sp J;rw[as5,r1,i9];exact trodAll_cons_mk (shut_bool Tryz.underlying4 _) trodAll_mk0
 .intro sp BI;rw[as5,ga];exact P3 abk us _ _ _ _ P5 eG O (fun x hx=>bw x (by simpa using hx)) (fun x hx=>BI x (by simpa using hx))
 .intro sp BI;rw[as5,r2,BH];rfl
 .exact Go.RowKit.ok_one i9 rfl (okWide_bool_mk Tryz.underlying4 _)
end
section
set_option maxRecDepth 100000
open Go.ChangeShapes Go.WideShapes Go.ChangeAt Go.RowKit
theorem ih {a b:Bool} (h:a=true) (k:b=true):(a&&b)=true:=by rw[h,k];rfl
def Ju:OpenClaim:={program:= "",sum:= "",func:= "",spec:= "" }
theorem abm:laidOutB Tryz.prog=true:=by kernel_rfl
theorem abn:mapsRowed Tryz.prog=true:=by kernel_rfl
theorem abo:(Ju.plainKeys == Tryz.prog.plainKeys)=true:=by kernel_rfl
theorem abp:Tryz.prog.mayEnter=true:=by kernel_rfl
theorem abq:(Ju.lifted == Tryz.prog.liftsFinal)=true:=by kernel_rfl
theorem abr:(Tryz.prog.make == some Ju.make)=true:=by kernel_rfl
end
section
def BJ:List Nat->List Nat->List Nat
 | [],r=>r
 |x::l,r=>match r.contains x with
  |true=>BJ l r
  |false=>BJ l (x::r)
theorem Jv {a:Nat}: ∀{l r:List Nat},a∈BJ l r->a∈l\/a∈r
 | [],r,h=>.inr h
 |x::l,r,h=>by
  unfold BJ at h
  split at h
  .rcases Jv h with h |h
   .exact .inl (ap2 _ h)
   .exact .inr h
  .rcases Jv h with h |h
   .exact .inl (ap2 _ h)
   .rcases ap3.1 h with rfl |h
    .exact .inl (aq1 ..)
    .exact .inr h
def Jw (acc:List (List Nat)):List Nat->List Nat
 | []=>[]
 |d::l=>BJ (d::acc.getD d []) (Jw acc l)
theorem P8 {acc:List (List Nat)} {a:Nat}: ∀{l:List Nat},a∈Jw acc l->a∈l\/ ∃d∈l,a∈acc.getD d []
 | [],h=>by cases h
 |d::l,h=>by
  rcases Jv h with h |h
  .rcases ap3.1 h with rfl |h
   .exact .inl (aq1 ..)
   .exact .inr ⟨d,aq1 ..,h⟩
  .rcases P8 h with h |⟨e,V,h⟩
   .exact .inl (ap2 _ h)
   .exact .inr ⟨e,ap2 _ V,h⟩
def E2:List Oper->List (List Nat)->List (List Nat)
 | [],acc=>acc
 |o::l,acc=>E2 l (acc++[Jw acc (p1 o)])
theorem P9: ∀(l:List Oper) (acc BK:List (List Nat)),acc.length=BK.length->(∀j a,a∈acc.getD j []->a∈BK.getD j [])-> ∀j a,a∈(E2 l acc).getD j []->a∈(yT l BK).getD j []
 | [],acc,BK,_,h=>h
 |o::l,acc,BK,aq,h=>by
  unfold E2 yT;refine P9 l _ _ (by simp[aq]) ?_;intro j a ha;rw[ap9] at ha⊢;rcases Nat.lt_trichotomy j acc.length with bw |r0 |uc
  .rw[ar7 bw,<-ap9] at ha;rw[ar7 (aq▸bw),<-ap9];exact h j a ha
  .subst r0;rw[ar9 (ap0 _)] at ha;rw[ar9 (Nat.le_of_eq aq.symm)];simp only[Nat.sub_self,aq5,Option.getD_some] at ha;simp only[aq,Nat.sub_self,aq5,Option.getD_some,aq8,List.mem_flatMap];rcases P8 ha with ha |⟨d,J,ha⟩
   .exact .inl ha
   .exact .inr ⟨d,J,h d a ha⟩
  .rw[at6 (by simp;omega)] at ha;simp at ha
theorem P' {all:List Oper} {an Qa:List (List Nat)} (h: ∀j a,a∈an.getD j []->a∈Qa.getD j []): ∀l:List (Oper×kJ×Nat),t2 all an l=true->t2 all Qa l=true
 | [],_=>rfl
 |(o,n,i)::l,ag=>by
  simp only[t2,vj] at ag⊢;refine⟨ar4.2 fun x hx=>?_,P' h l ag.2⟩;have:=ar4.1 ag.1 x hx;obtain⟨p,m,j⟩:=x;simp only[Bool.or_eq_true,vj,ar6] at this⊢;exact this.imp (fun g=>⟨h _ _ g.1,g.2⟩) id
def Qb (K:a1) (B:ay) (c9:List Oper) (gi:List kJ):Bool:=
 let es:=gi.reverse
 (c9.zipIdx.all fun(o,i)=>(p1 o).all fun d=>Nat.blt d i)&&(es.all fun n=>n.e.bf.all fun c=>tV c K&&kh c B)&&t2 c9 (E2 c9 []) ((c9.zip es).zipIdx.map fun((o,n),i)=>(o,n,i))
theorem eC {K:a1} {B:ay} {c9:List Oper} {gi:List kJ} (h:Qb K B c9 gi=true):vu K B c9 gi=true:=by
 simp only[Qb,vj] at h;simp only[vu,vj];exact⟨h.1,P' (P9 c9 [] [] rfl fun _ _ h=>h) _ h.2⟩
end
section
def cv (P:Program) (f:FuncId) (args:List aQ) (aK:ay) (bf:List Nat) {X:Type} (res:X->aQ) (aP:X->ay):Prop:=
 jl P f=true/\ ∀(ρ:Nat->bo) (F:Nat->Nat->Prop) (I:Nat->Prop) (w:World) (bW:List Value),
  (∀b,I b->b < w.heap.size)->(∀c ch,ah aK c=some ch->Holds ρ I (F c) w (ρ c) ch)->(∀c ch,ah aK c=some ch-> ∀b,F c b->b < w.heap.size/\ ¬I b)->
  (∀c bX ch ch' b,ah aK c=some ch->ah aK bX=some ch'->c≠bX->F c b-> ¬F bX b)->
  bW.length=args.length->(∀(i:Nat) (v:aQ) (x:Value),args[i]? =some v->bW[i]? =some x->ct ρ I w v x)->
  Calls P f bW.toArray w fun e w'=> ∃(g:X) (x:Value) (ρ':Nat->bo) (F':Nat->Nat->Prop),e= .returned x/\cJ (fun b=> ∃c ch,ah aK c=some ch/\F c b) w w'/\(∀c,c∉bf->ρ' c=ρ c)/\
   ∃I':Nat->Prop,cd I w I' w'/\(∀b,I' b->b < w'.heap.size/\(I b\/(∃c ch,ah aK c=some ch/\F c b)\/w.heap.size<=b))/\
   (∀c ch,ah (aP g) c=some ch->Holds ρ' I' (F' c) w' (ρ' c) ch)/\
   (∀c ch,ah (aP g) c=some ch-> ∀b,F' c b->b < w'.heap.size/\ ¬I' b/\((∃gV cw,ah aK gV=some cw/\F gV b)\/w.heap.size<=b))/\
   (∀c bX ch ch' b,ah (aP g) c=some ch->ah (aP g) bX=some ch'->c≠bX->F' c b-> ¬F' bX b)/\ct ρ' I' w' (res g) x
theorem Fn.x {P:Program} {f:FuncId} {args:List aQ} {aK:ay} {bf:List Nat} {res:aQ} {aP:ay} (h:Fn P f args aK bf res aP):cv P f args aK bf (fun _:Unit=>res) (fun _=>aP):=
 ⟨h.1,fun ρ F I w bW b4 ci a3 a4 a5 gw=>(h.2 ρ F I w bW b4 ci a3 a4 a5 gw).mono fun e w' q=>⟨(),q⟩⟩
section
variable {P:Program} {aU:dd} {N:Nat} {ids:List Nat} {o:Oper} {K:a1} {B:ay}
theorem eX.back {aK:ay} {bf:List Nat} {r:aQ} {aP:ay} (hP:kI B aK) (Jx:rU ids K B bf=true) (nM:mv aK bf aP=true) {C:e8} {a:Act} {w w':World} {ρ ρ':Nat->bo} {F F':Nat->Nat->Prop} {I':Nat->Prop} {x:Value} {dst:Option Nat}
  (hn:a.tmps.size=N) (J:a.defers=C.ds.map wT) (ar:Mem ids C B ρ F w) (av:ee K ρ (bZ C B F w) a w) (bw: ∀d,dst=some d->d < N)
  (cz:cJ (fun b=> ∃c ch,ah aK c=some ch/\F c b) w w') (dl: ∀c,c∉bf->ρ' c=ρ c) (gA: ∀b,I' b->b < w'.heap.size/\(bZ C B F w b\/(∃c ch,ah aK c=some ch/\F c b)\/w.heap.size<=b))
  (cV: ∀c ch,ah aP c=some ch->Holds ρ' I' (F' c) w' (ρ' c) ch) (aE: ∀c ch,ah aP c=some ch-> ∀b,F' c b->b < w'.heap.size/\ ¬I' b/\((∃gV cw,ah aK gV=some cw/\F gV b)\/w.heap.size<=b))
  (h2: ∀c bX ch ch' b,ah aP c=some ch->ah aP bX=some ch'->c≠bX->F' c b-> ¬F' bX b) (dt:ct ρ' I' w' r x):eX N ids C (ms dst r K) (g9 (iy aK aP) B) (a.put dst x) w':=by
 have eU: ∀{c ch},ah aK c=some ch->ah B c=some ch:=fun {c ch} H=>kk hP H
 have oI: ∀c∈bf,(∀s,(dA K s).has c=false)/\ah B c=none/\(∀d ch,ah B d=some ch->ch.has c=false)/\c∉ids:=fun c H=>kK (EF Jx c H)
 have Bk: ∀c,ah (g9 (iy aK aP) B) c=(match ah aP c with |some ch=>some ch |none=>if c∈cl aK then none else ah B c):=EE aK aK bf aP B nM
 have pn: ∀c ch,ah (g9 (iy aK aP) B) c=some ch->ah aP c=some ch\/(ah aP c=none/\c∉cl aK/\ah B c=some ch):=fun c ch H=>by
  rw[Bk] at H
  cases O:ah aP c with
  |some ch'=>rw[O] at H;exact .inl H
  |none=>
   rw[O] at H;simp only at H
   split at H
   .cases H
   .rename_i ab;exact .inr ⟨rfl,ab,H⟩
 let cI:Nat->Nat->Prop:=fun c=>if c∈cl aP then F' c else F c
 have iV: ∀c ch,ah aP c=some ch->cI c=F' c:=fun c ch H=>if_pos (gl.2 ⟨ch,H⟩)
 have Bl: ∀c,ah aP c=none->cI c=F c:=fun c H=>if_neg (fun ab=>by
  obtain⟨ch,h⟩:=gl.1 ab;rw[H] at h;cases h)
 have kl: ∀c ch,ah aP c=some ch->c∈cl aK\/c∈bf:=fun c ch H=>IY nM (gl.2 ⟨ch,H⟩)
 have uh: ∀c ch,ah (g9 (iy aK aP) B) c=some ch->(c∈cl aK\/c∈bf)->ah aP c=some ch:=fun c ch H bN=>by
  rcases pn c ch H with h |⟨E,G,al⟩
  .exact h
  .rcases bN with h |h
   .exact absurd h G
   .rw[(oI c h).2.1] at al;cases al
 have r8:cd I' w' (bZ C (g9 (iy aK aP) B) cI w') w':=fun b O=>by
  obtain⟨aj,ap⟩:=gA b O;refine⟨⟨aj,?_,fun c ch H bj=>?_⟩,rfl⟩
  .rcases ap with ap |⟨c,ch,ap,bm⟩ |ap
   .exact ap.2.1
   .exact .inr ((ar.own c ch (eU ap) b bm).2)
   .exact .inr (.inr (ar.fresh ap))
  .rcases pn c ch H with h |⟨E,G,al⟩
   .rw[iV c ch h] at bj;exact(aE c ch h b bj).2.1 O
   .rw[Bl c E] at bj;rcases ap with ap |⟨d,ch',ap,bm⟩ |ap
    .exact ap.2.2 c ch al bj
    .exact ar.e9 d c ch' ch b (eU ap) al (fun e=>G (e▸gl.2 ⟨ch',ap⟩)) bm bj
    .have:=(ar.own c ch al b bj).1;omega
 obtain⟨bN,aY⟩:=ar.step (B':=g9 (iy aK aP) B) (ρ':=ρ') (F':=cI) (w':=w') (fun c=>c∈cl aK\/c∈bf) (fun c=>c∈bf)
  (cz.mono fun b _ ⟨c,ch,E,G⟩=>⟨c,ch,eU E,.inl (gl.2 ⟨ch,E⟩),G⟩)
  (fun c ch H hn=>by
   rcases pn c ch H with h |⟨_,_,al⟩
   .exact absurd (kl c ch h) hn
   .exact al)
  dl
  (fun c hn=>by
   cases O:ah aP c with
   |none=>exact Bl c O
   |some ch=>exact absurd (kl c ch O) hn)
  (fun c H hn=>(oI c hn).2.2.2 H) (fun c h=>.inr h)
  (fun c ch H _ d J hn=>by rw[(oI d hn).2.2.1 c ch H] at J;cases J)
  (fun c ch H bN _=>by
   have O:=uh c ch H bN;rw[iV c ch O];exact Holds.cg r8 (fun _ _=>rfl) (ap0 _) ch (fun _ _=>rfl) (cV c ch O))
  (fun c ch H bN b O=>by
   have xb:=uh c ch H bN;rw[iV c ch xb] at O;obtain⟨aj,_,bm⟩:=aE c ch xb b O;refine⟨aj,bm.imp (fun⟨gV,cw,E,G⟩=>⟨gV,cw,eU E,.inl (gl.2 ⟨cw,E⟩),G⟩) id⟩)
  (fun c bX ch ch' b H cF kl iK ba O dm=>by
   have E:=uh c ch H kl;have G:=uh bX ch' cF iK;rw[iV c ch E] at O;rw[iV bX ch' G] at dm;exact h2 c bX ch ch' b E G ba O dm)
 refine⟨ke.trans hn,kf.trans J,ρ',cI,bN,(av.mono aY fun s d J=>dl d fun hn=>by rw[(oI d hn).1 s] at J;cases J).kg (fun e V=>by rw[hn];exact bw e V) (ct.mono r8 _ _ (fun _ _=>rfl) dt)⟩
theorem abs {f:FuncId} {args:List aQ}
  (ud: ∀(ρ:Nat->bo) (I:Nat->Prop) (a:Act) (w:World),ee K ρ I a w-> ∃bW:List Value,(jl P f=true->(execOp a.eval o).run P w= .ok (.enter f bW.toArray) w)/\bW.length=args.length/\ ∀(i:Nat) (v:aQ) (x:Value),args[i]? =some v->bW[i]? =some x->ct ρ I w v x)
  {X:Type} {aK:ay} {bf:List Nat} {res:X->aQ} {aP:X->ay} (abt:cv P f args aK bf res aP) (hP:kI B aK) (Jx:rU ids K B bf=true) (bu: ∀g,(rU ids K B bf&&mv aK bf (aP g))=true)
  {C:e8} {a:Act} {w:World} (ax:eX N ids C K B a w) (bw: ∀d,o.dst=some d->d < N) {fC:Act->World->Prop} {Q:Exit->Act->World->Prop} (di: ∀g a' w',eX N ids C (ms o.dst (res g) K) (g9 (iy aK (aP g)) B) a' w'->fC a' w'):o.wp P a w fC Q:=by
 obtain⟨fR,j0⟩:=abt;obtain⟨hn,J,ρ,F,ar,av⟩:=ax;have eU: ∀{c ch},ah aK c=some ch->ah B c=some ch:=fun {c ch} H=>kk hP H
 obtain⟨bW,dO,q2,ta⟩:=ud ρ _ a w av
 have H:=j0 ρ F (bZ C B F w) w bW (fun b O=>O.1) (fun c ch H=>ar.holds c ch (eU H)) (fun c ch H b O=>⟨(ar.own c ch (eU H) b O).1,fun bb=>bb.2.2 c ch (eU H) O⟩)
  (fun c bX ch ch' b E G=>ar.e9 c bX ch ch' b (eU E) (eU G)) q2 ta
 unfold Oper.wp;rw[dO fR,Oper.upon_enter];refine H.mono ?_;rintro e w' ⟨g,x,ρ',F',rfl,cz,dl,I',i6,gA,cV,aE,h2,dt⟩;exact di g _ _ (eX.back hP Jx (vj _ _▸bu g).2 hn J ar av bw cz dl gA cV aE h2 dt)
theorem cv.of (bn:d6 P aU) {f:FuncId} {fn:Func} {c:Code} (stops:List Nat) (args:List aQ) (aK:ay) (bf:List Nat) {X:Type} (res:X->aQ) (aP:X->ay) (hf:P.funcs[f]? =some fn) (O:fn.body=some c) (hn:fn.ntmps=N) (fR:jl P f=true) (H:jr P N c=true) (ft:Nat.ble args.length N=true) (b9:y8 P aU N (cl aK)) {i7:List ResultVar} (xh:fn.results.toList=i7)
  (h:jm P aU N (cl aK) stops c (oJ 0 args) aK (fun e K B=> ∃g,EI aU (cl aK) bf i7 (res g) (aP g) e K B)):cv P f args aK bf res aP:=by
 refine⟨fR,?_⟩;intro ρ F I w bW bb cV bj eo b6 dt;have ft:=Nat.le_of_ble_eq_true ft;refine Pm (r:=none) (n:=0) (callsIn_of_wp_marks hf O trivial ?_)
 let C:e8:=⟨w,I,fun b=> ∃c ch,ah aK c=some ch/\F c b,ρ,[]⟩
 have r9:cd I w (bZ C aK F w) w:=fun b O=>⟨⟨bb b O,.inl O,fun c ch H p7=>(bj c ch H b p7).2 O⟩,rfl⟩
 have ar:Mem (cl aK) C aK ρ F w:=⟨cJ.refl _ _,fun c ch H=>Holds.cg r9 (fun _ _=>rfl) (ap0 _) ch (fun _ _=>rfl) (cV c ch H),fun c ch H b O=>⟨(bj c ch H b O).1,.inl ⟨c,ch,H,O⟩⟩,eo,fun c _=>rfl,at0,fun b O=>O.elim (bb b) fun⟨c,ch,H,Bu⟩=>(bj c ch H b Bu).1,fun D b9=>by cases b9⟩;refine y9 bn b9 stops c _ _ _ H h none (fun _=>rfl) C _ ?_ _ w ⟨by simp[b6,hn];omega,rfl,ρ,F,ar,fun s=>?_⟩
 .intro e K' B' ds _ V a' w' d1;obtain⟨g,V⟩:=V
  cases e with
  |ex i=>exact V.elim
  |_=>
   obtain⟨Pv,js,r,gY,aF,ag,hP,po⟩:=V;refine Pu d1 fun w' d1=>?_
   obtain⟨hp,kM,ρ',F',bN,Bv⟩:=gY N C _ w' d1;obtain⟨aD,dO,hq⟩: ∃aD:List Value,(i7.mapM (tc a'.tmps)).run P w'= .ok aD w'/\iJ ρ' (bZ C js F' w') w' r aD:=EG bn bN Bv i7 r aF
   have i9: ∃x,(results fn a'.tmps).run P w'= .ok x w'/\ct ρ' (bZ C js F' w') w' (I6 r) x:=by
    have E:fn.results=i7.toArray:=by rw[<-xh]
    have G:(fn.results.mapM (tc a'.tmps)).run P w'= .ok (List.toArray aD) w':=by
     rw[E,List.mapM_toArray];simp[dO]
    have al:results fn a'.tmps=(do let aD<-fn.results.mapM (tc a'.tmps);pure (if h:aD.size=1 then aD[0] else .tuple aD)):=rfl;rw[al]
    match r,aD,hq,G with
    | [],_,e,G=>rw[show _=[] from e] at G;exact⟨.tuple #[],by simp[G],[],rfl,rfl⟩
    | [x],_,⟨v,s,e,az,ax⟩,G=>
     have ax:s=[]:=ax;subst ax e;exact⟨v,by simp[G],az⟩
    |x::y::r,_,⟨v,s,e,az,v2,bD,ap,uj,f'⟩,G=>
     subst ap e;exact⟨.tuple (List.toArray (v::v2::bD)),by simp[G],_,rfl,v,_,rfl,az,v2,bD,rfl,uj,f'⟩
   obtain⟨x,hx,r6⟩:=i9;have r6:=vE ag r6;simp only[vj] at po
   let uk:Nat->bo:=fun c=>if c∈bf then ρ' c else ρ c
   have q4: ∀c,c∈cl aK++bf->uk c=ρ' c:=fun c H=>by
    show(if c∈bf then ρ' c else ρ c)=ρ' c
    split
    .rfl
    .rename_i hn;rcases aq8.1 H with h |h
     .exact(bN.ed c h).symm
     .exact absurd h hn
   refine⟨x,hx,g,x,uk,F',rfl,bN.fr,fun c H=>if_neg H,bZ C js F' w',?_,fun b O=>⟨O.1,?_⟩,?_,?_,?_,?_⟩
   .intro b O;have vF: ¬C.p0 b:=fun⟨c,ch,E,G⟩=>(bj c ch E b G).2 O
    refine⟨⟨Nat.lt_of_lt_of_le (bb b O) bN.fr.size,.inl O,fun c ch H p7=>?_⟩,bN.fr.block b (bb b O) vF⟩;rcases(bN.own c ch H b p7).2 with h |h
    .exact vF h
    .have:=bb b O;exact absurd h.1 (Nat.not_le.2 this)
   .rcases O.2.1 with h |h |h
    .exact .inl h
    .exact .inr (.inl h)
    .exact .inr (.inr h.1)
   .intro c ch H
    have ab:c∈cl aK++bf:=by
     have:=ar4.1 po.2 c (gl.2 ⟨ch,H⟩);simpa only[ar6] using this
    rw[q4 c ab];exact Holds.cg (cd.refl _ _) (fun _ _=>rfl) (ap0 _) ch (fun d J=>q4 d (bd.km (xg po.1.2 H) J)) (bN.holds c ch (kk hP H))
   .intro c ch H b O;have cF:=kk hP H;exact⟨(bN.own c ch cF b O).1,fun aI=>aI.2.2 c ch cF O,(bN.own c ch cF b O).2.imp id fun x=>x.1⟩
   .exact fun c bX ch ch' b E G=>bN.e9 c bX ch ch' b (kk hP E) (kk hP G)
   .exact ct.mono (cd.refl _ _) (res g) x (fun c H=>q4 c (aQ.km po.1.1 H)) r6
 .rw[Br];simp only[ap7,if_true,Nat.sub_zero]
  cases ax:args[s]? with
  |none=>trivial
  |some v=>
   have bw:s < bW.length:=by rw[b6];exact(ap5.1 ax).1
   simp only[Option.getD_some];have hx:bW[s]? =some bW[s]:=oj bw;have:=ct.mono r9 v _ (fun _ _=>rfl) (dt s v _ ax hx);simpa[Array.getElem?_append,bw,hx] using this
theorem Qc {ev:Operand->Value} {f:FuncId} {c:Call} {x:Operand} {xs:List Operand} {p:Value} {w:World} (hf:jl P f=true) (ai:o.op= .call c) (E:c.callee= .value x) (G:c.args.toList=xs) (ug:ev x= .func (.func f) #[p] #[]):(execOp ev o).run P w= .ok (.enter f (p::xs.map ev).toArray) w:=by
 have ft:c.args=xs.toArray:=by rw[<-G]
 obtain⟨r3,args,cq⟩:=c;simp only at E ft;subst E ft;unfold jl at hf
 split at hf
 .rename_i fn j0;simp only[Bool.not_eq_true',Bool.or_eq_false_iff,beq_eq_false_iff_ne] at hf;have G: ¬fn.body=none:=fun e=>by rw[e] at hf;simp at hf
  simp[execOp,ai,resolve,invoke,ug,Deferred.ofValue,callFunc,go_sem,j0];rw[if_neg hf.1,if_neg G]
 .cases hf
def Jy (K:a1) (o:Oper):Option (FuncId×List aQ):=match o.op with
 | .call c=>match c.callee with
  | .value (.func f)=>some (f,c.args.toList.map (a7 K))
  | .value (.tmp t)=>match dA K t with
   | .c (.one (.cT f l))=>some (f,c.args.toList.map (a7 K)++oA l)
   | .c (.one (.bI (.func (.func f) bs cs)))=>match bs.toList,cs.toList with
    | [.pointer (some ⟨b,0,none⟩)],[]=>some (f,.c (.one (.d (.aM (some b))))::c.args.toList.map (a7 K))
    |_,_=>none
   |_=>none
  |_=>none
 |_=>none
def abu (P:Program) (f:FuncId) (args:List aQ) (ids:List Nat) (K:a1) (B:ay) (k:aQ->fP->Prop):Prop:=
 ∃(X:Type) (aK:ay) (bf:List Nat) (res:X->aQ) (aP:X->ay),cv P f args aK bf res aP/\kI B aK/\rU ids K B bf=true/\(∀g,(rU ids K B bf&&mv aK bf (aP g))=true)/\ ∀g,oz (res g) fun r=>k r ⟨cl aK,bf,iy aK (aP g)⟩
def xn (P:Program) (ids:List Nat) (o:Oper) (K:a1) (B:ay) (S:aQ->fP->Prop):Prop:=
 ∀(N:Nat) (C:e8) (a:Act) (w:World),eX N ids C K B a w->(∀d,o.dst=some d->d < N)-> ∀(fC:Act->World->Prop) (Q:Exit->Act->World->Prop),(∀v e a' w',S v e->eX N ids C (ms o.dst v K) (g9 e.hy B) a' w'->fC a' w')->o.wp P a w fC Q
def abv (o:Oper):Bool:=match o.op with
 | .next _ _=>true
 | .binOp .eql _ _ (.const (.slice none 0 0)) _=>true
 | .call c=>match c.callee with
  | .builtin .delete=>true
  |_=>false
 |_=>false
def xo (P:Program) (l:Nat) (args:List aQ) (aK:ay) {X:Type} (res:X->aQ) (aP:X->ay):Prop:=
 ∀(ρ:Nat->bo) (F:Nat->Nat->Prop) (I:Nat->Prop) (w:World) (bW:List Value),
  (∀b,I b->b < w.heap.size)->(∀c ch,ah aK c=some ch->Holds ρ I (F c) w (ρ c) ch)->(∀c ch,ah aK c=some ch-> ∀b,F c b->b < w.heap.size/\ ¬I b)->
  (∀c bX ch ch' b,ah aK c=some ch->ah aK bX=some ch'->c≠bX->F c b-> ¬F bX b)->
  bW.length=args.length->(∀(i:Nat) (v:aQ) (x:Value),args[i]? =some v->bW[i]? =some x->ct ρ I w v x)->
  ∃f tmps assign body,(Instr.yield l bW.toArray).run P w= .ok (.round l f tmps assign body) w/\RoundIn (oB none) 0 P l f tmps assign body w fun e w'=> ∃(g:X) (x:Value) (ρ':Nat->bo) (F':Nat->Nat->Prop),e= .returned x/\cJ (fun b=> ∃c ch,ah aK c=some ch/\F c b) w w'/\(∀c,ρ' c=ρ c)/\
   ∃I':Nat->Prop,cd I w I' w'/\(∀b,I' b->b < w'.heap.size/\(I b\/(∃c ch,ah aK c=some ch/\F c b)\/w.heap.size<=b))/\
   (∀c ch,ah (aP g) c=some ch->Holds ρ' I' (F' c) w' (ρ' c) ch)/\
   (∀c ch,ah (aP g) c=some ch-> ∀b,F' c b->b < w'.heap.size/\ ¬I' b/\((∃gV cw,ah aK gV=some cw/\F gV b)\/w.heap.size<=b))/\
   (∀c bX ch ch' b,ah (aP g) c=some ch->ah (aP g) bX=some ch'->c≠bX->F' c b-> ¬F' bX b)/\ct ρ' I' w' (res g) x
def E3 (K:a1) (o:Oper):Option (Nat×List aQ):=match o.op with
 | .call c=>match c.callee with
  | .value (.tmp t)=>match dA K t with
   | .c (.one (.bI (.func (.yield l) fs cs)))=>match fs.toList,cs.toList with
    | [],[]=>some (l,c.args.toList.map (a7 K))
    |_,_=>none
   |_=>none
  |_=>none
 |_=>none
def abw (P:Program) (l:Nat) (args:List aQ) (B:ay) (k:aQ->fP->Prop):Prop:=
 ∃(X:Type) (aK:ay) (res:X->aQ) (aP:X->ay),xo P l args aK res aP/\kI B aK/\(∀g,mv aK [] (aP g)=true)/\ ∀g,oz (res g) fun r=>k r ⟨cl aK,[],iy aK (aP g)⟩
theorem abx {ev:Operand->Value} {l:Nat} {c:Call} {x:Operand} {xs:List Operand} {w:World} (ai:o.op= .call c) (E:c.callee= .value x) (G:c.args.toList=xs) (ug:ev x= .func (.yield l) #[] #[]):(execOp ev o).run P w=(Instr.yield l (xs.map ev).toArray).run P w:=by
 have ft:c.args=xs.toArray:=by rw[<-G]
 obtain⟨r3,args,cq⟩:=c;simp only at E ft;subst E ft;simp[execOp,ai,resolve,invoke,ug,Deferred.ofValue]
theorem aby {l:Nat} {xs:List aQ} (h:E3 K o=some (l,xs)) {ρ:Nat->bo} {I:Nat->Prop} {a:Act} {w:World} (av:ee K ρ I a w): ∃bW:List Value,(execOp a.eval o).run P w=(Instr.yield l bW.toArray).run P w/\(∀c,o.op≠ .defer c)/\bW.length=xs.length/\ ∀(i:Nat) (v:aQ) (x:Value),xs[i]? =some v->bW[i]? =some x->ct ρ I w v x:=by
 unfold E3 at h
 split at h
 .rename_i c ai
  split at h
  .rename_i t H
   split at h
   .rename_i l' fs cs aq
    split at h
    .rename_i vB gj;injection h with h
     injection h with E G
     subst E G;have vB:fs= #[]:=by rw[<-Array.toList_inj];exact vB
     have gj:cs= #[]:=by rw[<-Array.toList_inj];exact gj
     subst vB gj;have az:a.eval (.tmp t)= .func (.yield l') #[] #[]:=av.ev (x:=.tmp t) (s:=.c (.one (.bI (.func (.yield l') #[] #[])))) aq;have d0: ∀d,o.op≠ .defer d:=fun d e=>by rw[ai] at e;cases e
     refine⟨c.args.toList.map a.eval,?_,d0,au7,fun i v x az hx=>?_⟩
     .exact abx ai H rfl az
     .rw[ar0] at az hx;obtain⟨aB,aR,rfl⟩:=as0.1 az;rw[aR] at hx;simp only[at2,ap4] at hx;subst hx;exact av.get aB
    .cases h
   .cases h
  .cases h
 .cases h
theorem abz {l:Nat} {args:List aQ} (ai:E3 K o=some (l,args)) {X:Type} {aK:ay} {res:X->aQ} {aP:X->ay} (aC:xo P l args aK res aP) (hP:kI B aK) (bu: ∀g,mv aK [] (aP g)=true)
  {C:e8} {a:Act} {w:World} (ax:eX N ids C K B a w) (bw: ∀d,o.dst=some d->d < N) {r:Option Nat} {fC:Act->World->Prop} {Q:Exit->Act->World->Prop} (di: ∀g a' w',eX N ids C (ms o.dst (res g) K) (g9 (iy aK (aP g)) B) a' w'->fC a' w'):o.wpIn (oB r) 0 P a w fC Q:=by
 obtain⟨hn,J,ρ,F,ar,av⟩:=ax;have eU: ∀{c ch},ah aK c=some ch->ah B c=some ch:=fun {c ch} H=>kk hP H
 obtain⟨bW,dO,d0,q2,ta⟩:=aby (P:=P) (w:=w) ai av
 obtain⟨f,tmps,assign,body,abA,abB⟩:=aC ρ F (bZ C B F w) w bW (fun b O=>O.1) (fun c ch H=>ar.holds c ch (eU H)) (fun c ch H b O=>⟨(ar.own c ch (eU H) b O).1,fun bb=>bb.2.2 c ch (eU H) O⟩)
  (fun c bX ch ch' b E G=>ar.e9 c bX ch ch' b (eU E) (eU G)) q2 ta
 refine⟨fun _ _=>trivial,?_⟩;rw[Oper.semAt_eq _ _ _ d0,dO,abA,Oper.uponIn_round];refine⟨fun ax=>absurd ax au7,RoundIn.mono (F:=oB r) (n:=0 - 1) abB ?_⟩;rintro e w' ⟨g,x,ρ',F',rfl,cz,dl,I',i6,gA,cV,aE,h2,dt⟩;exact di g _ _ (eX.back hP rfl (bu g) hn J ar av bw cz (fun c _=>dl c) gA cV aE h2 dt)
def abC (K:a1) (o:Oper):Bool:=match o.op with
 | .mapUpdate _ _ _ v=>match a7 K v with
  | .c (.one (.ptr _ 0))=>true
  |_=>false
 |_=>false
def Jz (P:Program) (aU:dd) (ids:List Nat) (o:Oper) (K:a1) (B:ay) (k:aQ->fP->Prop):Prop:=match Jy K o with
 |some (f,xs)=>abu P f xs ids K B k
 |none=>match E3 K o with
  |some (l,xs)=>abw P l xs B k
  |none=>match abv o||abC K o with
   |true=> ∃S:aQ->fP->Prop,xn P ids o K B S/\ ∀v e,S v e->oz v fun v=>k v e
   |false=>Ej P aU ids o K B k
noncomputable def JA (P:Program) (aU:dd) (ids:List Nat) (all:List Oper) (o:Oper) (l:List Oper) (br:a1->ay->Prop) (K:a1) (B:ay):Prop:=
 match tZ all K o.guard with
 |none=>False
 |some false=>match o.dst with
  |some d=>br ((d,.undef)::K) B
  |none=>br K B
 |some true=>Jz P aU ids o K B fun v e=>match o.dst with
  |none=>wV e.hy B fun B=>br K B
  |some d=>match Ek (all.length - l.length - 1) l,v with
   |true,.c (.one (.d (.bool b)))=>wV e.hy B fun B=>(b=true->br ((d,.c (.one (.d (.lit true))))::K) B)/\(b=false->br ((d,.c (.one (.d (.lit false))))::K) B)
   |_,v=>wV e.hy B fun B=>br ((d,v)::K) B
noncomputable def E4 (P:Program) (aU:dd) (ids:List Nat) (all l:List Oper) (K:a1) (B:ay) (k:a1->ay->Prop):Prop:=
 List.rec (motive:=fun _=>a1->ay->Prop) k (fun o l br K B=>JA P aU ids all o l br K B) l K B
theorem abD {all l:List Oper} {k:a1->ay->Prop}:E4 P aU ids all (o::l) K B k=JA P aU ids all o l (fun K B=>E4 P aU ids all l K B k) K B:=rfl
theorem abE {f:FuncId} {xs:List aQ} (h:Jy K o=some (f,xs)) (ρ:Nat->bo) (I:Nat->Prop) (a:Act) (w:World) (av:ee K ρ I a w): ∃bW:List Value,(jl P f=true->(execOp a.eval o).run P w= .ok (.enter f bW.toArray) w)/\bW.length=xs.length/\ ∀(i:Nat) (v:aQ) (x:Value),xs[i]? =some v->bW[i]? =some x->ct ρ I w v x:=by
 unfold Jy at h
 split at h
 .rename_i c ai
  split at h
  .rename_i tf H;injection h with h
   injection h with E G
   subst E G;refine⟨c.args.toList.map a.eval,fun fR=>Pc fR ai H rfl rfl,au7,fun i v x az hx=>?_⟩;rw[ar0] at az hx;obtain⟨aB,aR,rfl⟩:=as0.1 az;rw[aR] at hx;simp only[at2,ap4] at hx;subst hx;exact av.get aB
  .rename_i t H
   split at h
   .rename_i tf l aq;injection h with h
    injection h with E G
    subst E G;have az:=av t;rw[aq] at az;obtain⟨aD,e,xp⟩:=az;obtain⟨cx,cA⟩:=hM.bW l aD xp;refine⟨c.args.toList.map a.eval++aD,fun fR=>IZ fR ai H rfl e,by simp[cx],fun i v x az hx=>?_⟩
    by_cases aI:i < c.args.toList.length
    .rw[ar7 (by simpa using aI)] at az hx;rw[ar0] at az hx;obtain⟨aB,aR,rfl⟩:=as0.1 az;rw[aR] at hx;simp only[at2,ap4] at hx;subst hx;exact av.get aB
    .rw[ar9 (by simpa using aI)] at az hx;simp only[aq3] at az hx;exact cA _ v x az hx
   .rename_i tf bs cs aq
    split at h
    .rename_i b O d7;injection h with h
     injection h with E G
     subst E G
     have az:a.eval (.tmp t)= .func (.func tf) bs cs:=by
      have aw:=av t;rw[aq] at aw;exact aw
     have aj:bs= #[.pointer (some ⟨b,0,none⟩)]:=Array.toList_inj.1 O;have ap:cs= #[]:=Array.toList_inj.1 d7;subst aj ap;refine⟨.pointer (some ⟨b,0,none⟩)::c.args.toList.map a.eval,fun fR=>Qc fR ai H rfl az,au7,fun i v x az hx=>?_⟩
     cases i with
     |zero=>
      simp only[aq5,ap4] at az hx;subst az hx;rfl
     |succ i=>
      rw[au2,ar0] at az hx;obtain⟨aB,aR,rfl⟩:=as0.1 az;rw[aR] at hx;simp only[at2,ap4] at hx;subst hx;exact av.get aB
    .cases h
   .cases h
  .cases h
 .cases h
theorem abF (bn:d6 P aU) (d0: ∀c,o.op≠ .defer c) (r:Option Nat) {k:aQ->fP->Prop} (h:Jz P aU ids o K B k) {C:e8} {a:Act} {w:World} (ax:eX N ids C K B a w) (bw: ∀d,o.dst=some d->d < N) {fC:Act->World->Prop} {Q:Exit->Act->World->Prop} (di: ∀v e a' w',k v e->eX N ids C (ms o.dst v K) (g9 e.hy B) a' w'->fC a' w'):o.wpIn (oB r) 0 P a w fC Q:=by
 unfold Jz at h
 split at h
 .rename_i f xs H;obtain⟨X,aK,bf,res,aP,E,G,al,aZ,bK⟩:=h;refine Bp d0 (abs (abE H) E G al aZ ax bw fun g a' w' d1=>?_);have bK:=bK g;rw[rT] at bK;exact di _ _ _ _ bK d1
 .split at h
  .rename_i l xs H;obtain⟨X,aK,res,aP,E,G,al,aZ⟩:=h;refine abz H E G al ax bw fun g a' w' d1=>?_
   have aZ:=aZ g;rw[rT] at aZ;exact di _ _ _ _ aZ d1
  .split at h
   .obtain⟨S,av,h⟩:=h;refine Bp d0 (av N C a w ax bw fC Q fun v e a' w' az d1=>?_);have h:=h v e az;rw[rT] at h;exact di _ _ _ _ h d1
   .obtain⟨v,e,h,aE,hf⟩:=I1 bn h;exact Bp d0 (aE K B (fun _ _=>rfl) (fun _ _=>rfl) hf C a w ax bw fC Q fun a' w' f'=>di _ _ _ _ h f')
theorem xq (bn:d6 P aU) (all:List Oper): ∀(l:List Oper) (K:a1) (B:ay) (k:a1->ay->Prop),tb N l=true->E4 P aU ids all l K B k-> ∀(C:e8) (a:Act) (w:World),eX N ids C K B a w->
  ∀(r:Option Nat) (Q:Exit->Act->World->Prop),(∀K' B',k K' B'-> ∀a' w',eX N ids C K' B' a' w'->Q .normal a' w')->wpListIn (oB r) 0 P all.toArray Q l a w
 | [],K,B,k,_,h,C,a,w,ax,r,Q,ab=>wpListIn_nil (ab K B h a w ax)
 |o::l,K,B,k,J,h,C,a,w,ax,r,Q,ab=>by
  simp only[tb,vj] at J;obtain⟨⟨vC,d0⟩,dC⟩:=J;have d0:=I3 d0;have bw: ∀d,o.dst=some d->d < N:=fun d e=>by rw[e] at vC;simpa[Nat.blt_eq] using vC
  have d1:=ax;obtain⟨_,_,ρ,F,ar,av⟩:=d1;rw[abD] at h;unfold JA at h;simp only[H8] at h;refine wpListIn_step fun fC Bq=>?_
  split at h
  .exact h.elim
  .rename_i hw;rw[if_neg (by rw[y7 hw av];simp)];refine⟨fun _ _=>trivial,Bq _ _ ?_⟩;have a8:=ax.undef o.dst bw
   split at h
   .rename_i d e;rw[e] at a8⊢;exact xq bn all l _ _ k dC h C _ w a8 r Q ab
   .rename_i e;rw[e] at a8⊢;exact xq bn all l _ _ k dC h C _ w a8 r Q ab
  .rename_i hw;rw[if_pos (y7 hw av)];refine abF bn d0 r h ax bw fun v e a' w' h f'=>Bq _ _ ?_
   split at h
   .rename_i ap;rw[ap] at f';exact xq bn all l _ _ k dC h C _ w' f' r Q ab
   .rename_i d ap;rw[ap] at f'
    split at h
    .rename_i b a6
     cases b with
     |true=>exact xq bn all l _ _ k dC (h.1 rfl) C _ w' f'.lit r Q ab
     |false=>exact xq bn all l _ _ k dC (h.2 rfl) C _ w' f'.lit r Q ab
    .exact xq bn all l _ _ k dC h C _ w' f' r Q ab
theorem bt.h3 (bn:d6 P aU) {id:Nat} {c9:Array Oper} {Q:nG->a1->ay->Prop} (J:tb N c9.toList=true) (h:E4 P aU ids c9.toList c9.toList K B (fun K B=>Q .gX K B)):bt P N ids (.region id c9 false) K B Q:=by
 intro r aF C h0 aV a w ax;refine wpIn_region_list ?_;have:=xq bn c9.toList c9.toList K B _ J h C a w ax r h0 (fun K' B' ab a' w' d1=>aV .gX K' B' C.ds (fun _=>rfl) ab a' w' d1);simpa using this
def df (ids:List Nat) (K:a1) (B:ay) {X:Type} (K':X->a1) (B':X->ay):Prop:= ∀(N:Nat) (C:e8) (a:Act) (w:World),eX N ids C K B a w-> ∃x,eX N ids C (K' x) (B' x) a w
theorem bt.eY {c:Code} {X:Type} {K':X->a1} {B':X->ay} {Q:nG->a1->ay->Prop} (h:df ids K B K' B') (cr: ∀x,bt P N ids c (K' x) (B' x) Q):bt P N ids c K B Q:=fun r aF C h0 aV a w ax=>by
 obtain⟨x,hx⟩:=h N C a w ax;exact cr x r aF C h0 aV a w hx
end
end
end Go.Proofs.YthnboghbhgapcaaGreat
