/-
Part 7 of the proof that stands in YteoamepgonpdlaaGreatPcRow, with what it needs from the parts ahead; the parts of this text: Rd, Tbl, RowG, RowF, Lays, Gh.
-/
import Derived.Test.YteoamepgonpdlaaGreatRows
import Derived.Test.YteoamepgonpdlaaGreatProg
import Derived.Deep.Slices
import Derived.Deep.Fields
import Derived.OpenShut
import Derived.WalkKit
import Derived.ProofKit
import Derived.JoinedCond
import Derived.Below
import Derived.Carry
import Derived.ChangeSame
import Derived.Shelf.SlIter.Nil
import Derived.Shelf.SlIterI.Nil
import Derived.Shelf.SortM.Plain
import Derived.Shelf.SortM.SortNone
import Derived.Shelf.SlMaps.Clone
import Derived.Ground.GgzProg
import Derived.Ground.SlgmProg
import Derived.Ground.SlmcProg
import Derived.Test.YteoamepgonpdlaaGreatPc6
set_option linter.unusedVariables false
set_option linter.unusedSimpArgs false
set_option maxRecDepth 10000
namespace Go.Proofs.YteoamepgonpdlaaGreat
open Go.RowKit Go.ChangeShapes Go.WideShapes Go.Deep
noncomputable def fV:(u:U)→aI u→Nat
 | .int _,_=>1
 | .u8,_=>1
 | .bool,_=>1
 | .str,s=>1+List.length s
 | .aY,_=>1
 | .c9,_=>1
 | .fn,_=>1
 | .sl u,xs=>1+(List.map (fV u) xs).sum
 | .pr u v,p=>fV u p.1+fV v p.2
 | .arr _ u,xs=>(List.map (fV u) xs).sum
def tA:(u:U)→aI u→Prop
 | .int k,n=>(Lit.int k n).wf=true
 | .sl u,xs=> ∀x,CL (α:=aI u) x xs→tA u x
 | .pr u v,p=>tA u p.1∧tA v p.2
 | .arr _ u,xs=> ∀x,CL (α:=aI u) x xs→tA u x
 |_,_=>True
def qv (P:Program) (ty:U→TypeId→Bool):U→List Field→Nat→Bool
 |_,[],_=>false
 |u,[f],off=>Nat.beq f.offset off&&ty u f.type&&Nat.beq (P.cellsOf f.type) (aM u)
 | .pr u v,f::g::fs,off=>Nat.beq f.offset off&&ty u f.type&&Nat.beq (P.cellsOf f.type) (aM u)&&qv P ty v (g::fs) (off+aM u)
 |_,_::_::_,_=>false
def qw (P:Program):Nat→U→TypeId→Bool
 |0,_,_=>false
 |n+1,u,t=>match P.underlying t,u with
  |some (.int k),.int k'=>l9 k k'
  |some (.int k),.u8=>l9 k .u8
  |some .bool,.bool=>true
  |some .string,.str=>true
  |some (.slice e),.sl v=>qw P n v e&&Nat.beq (P.cellsOf e) (aM v)&&Nat.blt 0 (aM v)
  |some (.array m e),.arr m' v=>Nat.beq m m'&&qw P n v e&&Nat.beq (P.cellsOf e) (aM v)
  |some (.struct fs),u=>qv P (qw P n) u fs.toList 0
  |_,_=>false
section
variable {H:Type} {enc:TypeId×Value→H} {w:World} {base:Nat} {spare:Nat→Bool} {held:Bool} {P:Program}
theorem G2 (d:DataW H):1≤Rows.uptoBulk d:=by
 unfold Rows.uptoBulk
 split <;>omega
theorem Mx (l r:List (DataW H)):Rows.uptoBulkAll (l++r)=Rows.uptoBulkAll l+Rows.uptoBulkAll r:=by
 induction l with
 |nil=>simp[Rows.uptoBulkAll]
 |cons x l aZ=>simp only[List.cons_append,Rows.uptoBulkAll,aZ];omega
def My (w:World) (u:U) (cs:List Value) (b:Nat):Prop:= ∃a:aI u,b7 (fun b=>b < w.heap.size) w u a (fun j=>cs[j]?)∧fV u a≤b∧tA u a
theorem xJ {I:Nat→Prop} {u:U} {a:aI u} {c bS:Nat→Option Value} (h:b7 I w u a c) (hc: ∀j v,c j=some v→bS j=some v):b7 I w u a bS:=b7.mono (Ext.refl I w) u a c bS hc h
theorem G3 {cs:List Value} {o k j:Nat} {v:Value} (h:((cs.drop o).take k)[j]? =some v):cs[o+j]? =some v:=by
 rw[List.getElem?_take] at h
 split at h
 ·rwa[List.getElem?_drop] at h
 ·cases h
theorem Mz {ty:U→TypeId→Bool} {n:Nat} (aZ: ∀u t,ty u t=true→ ∀cs x,DataW.trod enc P w base spare held n t cs=some x→My w u cs (Rows.uptoBulk x.1)):
  ∀(fs:List Field) (u:U) (off:Nat) (xs:List (DataW H×List MemPlace)) (cs:List Value),qv P ty u fs off=true→xs.length=fs.length→
   (∀(i:Nat) (f:Field),fs[i]? =some f→DataW.trod enc P w base spare held n f.type ((cs.drop f.offset).take (P.cellsOf f.type))=xs[i]?)→
   ∃a:aI u,b7 (fun b=>b < w.heap.size) w u a (fun j=>cs[off+j]?)∧fV u a≤Rows.uptoBulkAll (xs.map (·.1))∧tA u a
 | [],u,off,xs,cs,h,_,_=>by simp[qv] at h
 | [f],u,off,xs,cs,h,aB,hf=>by
  simp only[qv,Bool.and_eq_true,Nat.beq_eq] at h
  obtain⟨⟨aa,af⟩,ay⟩:=h
  match xs,aB with
  | [x],_=>
   obtain⟨a,cC,cR,fo⟩:=aZ _ _ af _ _ (hf 0 f rfl)
   subst aa
   exact⟨a,xJ cC fun j v hv=>G3 hv,by simpa[Rows.uptoBulkAll] using cR,fo⟩
 |f::g::fs,.pr u v,off,xs,cs,h,aB,hf=>by
  simp only[qv,Bool.and_eq_true,Nat.beq_eq] at h
  obtain⟨⟨⟨aa,af⟩,ay⟩,bu⟩:=h
  match xs,aB with
  |x::xs,aB=>
   obtain⟨a,cC,cR,fo⟩:=aZ _ _ af _ _ (hf 0 f rfl)
   obtain⟨b,r1,r2,gv⟩:=Mz aZ (g::fs) v (off+aM u) xs cs bu (by simpa using aB) (fun i f aD=>hf (i+1) f aD)
   subst aa
   refine⟨(a,b),⟨xJ cC fun j v hv=>G3 hv,xJ r1 fun j v hv=>by simpa only[Nat.add_assoc] using hv⟩,?_,fo,gv⟩
   simp only[fV,List.map_cons,Rows.uptoBulkAll]
   omega
 |_::_::_,.int _,_,_,_,h,_,_=>by simp[qv] at h
 |_::_::_,.u8,_,_,_,h,_,_=>by simp[qv] at h
 |_::_::_,.bool,_,_,_,h,_,_=>by simp[qv] at h
 |_::_::_,.str,_,_,_,h,_,_=>by simp[qv] at h
 |_::_::_,.aY,_,_,_,h,_,_=>by simp[qv] at h
 |_::_::_,.sl _,_,_,_,h,_,_=>by simp[qv] at h
 |_::_::_,.arr _ _,_,_,_,h,_,_=>by simp[qv] at h
theorem MA {α:Type} {l:List α} {y x:α} {i:Nat} (h:eT (l++[y]) i=some x):(i < l.length∧eT l i=some x)∨(i=l.length∧x=y):=by
 unfold eT at*
 rcases Nat.lt_trichotomy i l.length with aa |aa |aa
 ·rw[List.getElem?_append_left aa] at h;exact .inl ⟨aa,h⟩
 ·subst aa
  simp only[List.getElem?_concat_length,Option.some.injEq] at h
  exact .inr ⟨rfl,h.symm⟩
 ·rw[List.getElem?_eq_none (by simp;omega)] at h
  cases h
theorem DM: ∀(n:Nat) (u:U) (t:TypeId),qw P n u t=true→ ∀(m:Nat) (cs:List Value) (x:DataW H×List MemPlace),DataW.trod enc P w base spare held m t cs=some x→My w u cs (Rows.uptoBulk x.1)
 |0,u,t,h,_,_,_,_=>by simp[qw] at h
 |n+1,u,t,h,m,cs,x,hx=>by
  unfold qw at h
  split at h
  case h_1 k k' hu=>
   obtain rfl:=nW h
   obtain⟨i,rfl,rfl,hw⟩:=DataW.trod_int hu hx
   exact⟨i,rfl,G2 _,hw⟩
  case h_2 k hu=>
   obtain rfl:=nW h
   obtain⟨i,rfl,rfl,hw⟩:=DataW.trod_int hu hx
   have aq:0≤i∧i < 256:=by
    simp[Lit.wf,IntKind.min,IntKind.max,IntKind.bits,IntKind.signed] at hw
    omega
   refine⟨(UInt8.ofNat i.toNat:UInt8),?_,G2 _,trivial⟩
   show some (Value.int .u8 i)=some (Value.int .u8 _)
   congr 2
   rw[UInt8.toNat_ofNat']
   omega
  case h_3 hu=>
   obtain⟨b,rfl,rfl⟩:=DataW.trod_bool hu hx
   exact⟨b,rfl,G2 _,trivial⟩
  case h_4 hu=>
   obtain⟨s,rfl,rfl,hs⟩:=DataW.trod_string hu hx
   refine⟨(s.data.toList:List UInt8),rfl,?_,trivial⟩
   simp only[fV,Rows.uptoBulk]
   omega
  case h_5 e v hu=>
   simp only[Bool.and_eq_true,Nat.beq_eq] at h
   obtain⟨⟨aa,af⟩,ay⟩:=h
   have ay:0 < aM v:=by simpa[Nat.blt_eq] using ay
   rcases open_slice hu hx with⟨rfl,rfl⟩ |⟨a,len,cap,m',xj,D,bq,rfl,e6,aB,hm,TI,rfl,Bi⟩
   ·refine⟨([]:List (aI v)),⟨none,0,rfl,Nat.le_refl _,Nat.zero_le _,fun h=>absurd h (Nat.lt_irrefl 0)⟩,by simp[fV,Rows.uptoBulk],fun x hx=>by cases hx⟩
   ·rw[af] at Bi
    have tB:len≤m':=by rw[TI];split <;>omega
    have key: ∀k,k≤len→ ∃l:List (aI v),l.length=k∧(l.map (fV v)).sum≤Rows.uptoBulkAll ((List.range k).map D)∧(∀x,x∈l→tA v x)∧
      (∀i x,eT l i=some x→b7 (fun b=>b < w.heap.size) w v x (fun j=>if j < aM v then w.cell? ((a.add (i*aM v)).add j) else none)):=by
     intro k
     induction k with
     |zero=>exact fun _=>⟨[],rfl,by simp,(fun x h=>by cases h),fun i x h=>by simp[eT] at h⟩
     |succ k TJ=>
      intro aq
      obtain⟨l,mh,kN,xK,xL⟩:=TJ (by omega)
      obtain⟨TK,hc,TL⟩:=Bi k (by omega)
      obtain⟨y,xM,sq,Bj⟩:=DM n v e aa _ _ _ TL
      obtain⟨-,cP,mo⟩:=World.cells?_some hc
      refine⟨l++[y],by simp[mh],?_,?_,?_⟩
      ·rw[List.range_succ,List.map_append,List.map_append,List.sum_append,Mx]
       have sq:fV v y≤Rows.uptoBulk (D k):=sq
       simp only[Rows.uptoBulkAll,List.map_cons,List.map_nil,List.sum_cons,List.sum_nil]
       omega
      ·intro x hx
       rcases List.mem_append.1 hx with hx |hx
       ·exact xK x hx
       ·simp at hx;subst hx;exact Bj
      ·intro i x aD
       rcases MA aD with⟨_,aD⟩ |⟨rfl,rfl⟩
       ·exact xL i x aD
       ·rw[mh]
        refine xJ xM fun j v' hv=>?_
        have au:=(List.getElem?_eq_some_iff.1 hv).1
        rw[if_pos (by omega),mo j (by omega)]
        exact hv
    obtain⟨l,mh,kN,xK,xL⟩:=key len (Nat.le_refl _)
    refine⟨l,⟨some a,cap,by rw[show List.length (α:=aI v) l=len from mh];rfl,by rw[show List.length (α:=aI v) l=len from mh];exact aB,hm,fun aE=>?_⟩,?_,xK⟩
    ·have aE:0 < len:=by rw[←mh];exact aE
     obtain⟨TK,hc,_⟩:=Bi 0 (by omega)
     obtain⟨-,cP,mo⟩:=World.cells?_some hc
     have Bk:=mo 0 (by omega)
     rw[List.getElem?_eq_getElem (by omega)] at Bk
     obtain⟨b,o,spot⟩:=a
     have TM:spot=none:=by simpa[Addr.add] using World.cell?_spot Bk
     subst TM
     have e6:=World.block_lt_of_cell? w _ Bk
     refine⟨b,o,rfl,by simpa[Addr.add] using e6,fun i x aD=>xJ (xL i x aD) fun j v' hv=>?_⟩
     split at hv
     ·rwa[add_plain,add_plain,Nat.add_assoc] at hv
     ·cases hv
    ·simp only[fV,Rows.uptoBulk]
     exact(show 1+(l.map (fV v)).sum≤_ by omega)
  case h_6 k e k' v hu=>
   simp only[Bool.and_eq_true,Nat.beq_eq] at h
   obtain⟨⟨aE,aa⟩,af⟩:=h
   subst aE
   obtain⟨xs,m',rfl,rfl,aB,uE,hf⟩:=DataW.trod_array hu hx
   rw[af] at hf
   have key: ∀q,q≤k→ ∃l:List (aI v),l.length=q∧(l.map (fV v)).sum≤Rows.uptoBulkAll ((xs.take q).map (·.1))∧(∀x,x∈l→tA v x)∧
     (∀i x,eT l i=some x→b7 (fun b=>b < w.heap.size) w v x (fun j=>cs[i*aM v+j]?)):=by
    intro q
    induction q with
    |zero=>exact fun _=>⟨[],rfl,by simp,(fun x h=>by cases h),fun i x h=>by simp[eT] at h⟩
    |succ q TN=>
     intro bp
     obtain⟨l,mh,kN,xK,xL⟩:=TN (by omega)
     have MB:=hf q (by omega)
     rw[List.getElem?_eq_getElem (by omega)] at MB
     obtain⟨y,xM,sq,Bj⟩:=DM n v e aa _ _ _ MB
     refine⟨l++[y],by simp[mh],?_,?_,?_⟩
     ·rw[List.take_add_one,List.getElem?_eq_getElem (by omega),List.map_append,List.map_append,List.sum_append,Mx]
      simp only[Rows.uptoBulkAll,List.map_cons,List.map_nil,List.sum_cons,List.sum_nil,Option.toList_some]
      omega
     ·intro x hx
      rcases List.mem_append.1 hx with hx |hx
      ·exact xK x hx
      ·simp at hx;subst hx;exact Bj
     ·intro i x aD
      rcases MA aD with⟨_,aD⟩ |⟨rfl,rfl⟩
      ·exact xL i x aD
      ·rw[mh]
       exact xJ xM fun j v' hv=>G3 hv
   obtain⟨l,mh,kN,xK,xL⟩:=key k (Nat.le_refl _)
   refine⟨l,⟨mh,xL⟩,?_,xK⟩
   rw[List.take_of_length_le (by omega)] at kN
   simp only[fV,Rows.uptoBulk]
   exact(show(l.map (fV v)).sum≤_ by omega)
  case h_7 sZ fs hu=>
   obtain⟨xs,m',rfl,rfl,aB,uE,hf⟩:=DataW.trod_struct hu hx
   obtain⟨a,cC,cR,fo⟩:=Mz (fun u t cc cs x h=>DM n u t cc _ cs x h) fs.toList _ 0 xs cs h (by simpa using uE) (fun i f aD=>hf i f (by simpa using aD))
   refine⟨a,xJ cC fun j v hv=>by rw[Nat.zero_add] at hv;exact hv,?_,fo⟩
   simp only[Rows.uptoBulk]
   omega
  case h_8=>cases h
end
end Go.Proofs.YteoamepgonpdlaaGreat
namespace Go.Proofs.YteoamepgonpdlaaGreat
open Go.RowKit
namespace oe
def t3:cB:=⟨.int .i64,1,false,[.d (.int .i64 0)],[],some (.int .i64),8⟩
def t4:cB:=⟨.bool,1,false,[.d (.lit false)],[],some .bool,1⟩
def t5:cB:=⟨.int .u8,1,false,[.d (.int .u8 0)],[],some .u8,1⟩
def t9:cB:=⟨.str,1,false,[.d (.str [])],[],some .str,16⟩
def t21:cB:=⟨.int .i32,1,false,[.d (.int .i32 0)],[],some (.int .i32),4⟩
def t22:cB:=⟨.sl 38,1,false,[.ec],[],some (.sl (.pr (.int .i64) (.pr (.int .i64) (.pr .str (.pr .str (.pr (.int .i64) (.pr (.int .i64) (.pr (.int .i64) (.pr (.sl .u8) .str))))))))),24⟩
def t23:cB:=⟨.ptr 99,1,false,[.raw (.pointer none)],[],some .aY,8⟩
def t24:cB:=⟨.int .i64,1,false,[.d (.int .i64 0)],[],some (.int .i64),8⟩
def t27:cB:=⟨.sl 124,1,false,[.ec],[],some (.sl (.pr .str (.pr .str (.pr (.int .i64) (.pr (.int .i64) (.pr (.sl (.pr (.int .i64) (.int .i64))) (.pr (.sl (.pr .str (.sl (.pr (.int .i64) (.int .i64))))) (.sl .str)))))))),24⟩
def t29:cB:=⟨.st,3,true,[.d (.int .i64 0),.d (.int .i64 0),.ec],[(0,1),(1,1),(2,1)],some (.pr (.int .i64) (.pr (.int .i64) (.sl (.pr .str (.pr .str (.pr (.int .i64) (.pr (.int .i64) (.pr (.sl (.pr (.int .i64) (.int .i64))) (.pr (.sl (.pr .str (.sl (.pr (.int .i64) (.int .i64))))) (.sl .str)))))))))),40⟩
def t34:cB:=⟨.sl 5,1,false,[.ec],[],some (.sl .u8),24⟩
def t36:cB:=⟨.st,5,true,[.d (.int .i64 0),.d (.int .i64 0),.d (.int .i64 0),.ec,.d (.str [])],[(0,1),(1,1),(2,1),(3,1),(4,1)],some (.pr (.int .i64) (.pr (.int .i64) (.pr (.int .i64) (.pr (.sl .u8) .str)))),64⟩
def t38:cB:=⟨.st,9,true,[.d (.int .i64 0),.d (.int .i64 0),.d (.str []),.d (.str []),.d (.int .i64 0),.d (.int .i64 0),.d (.int .i64 0),.ec,.d (.str [])],[(0,1),(1,1),(2,1),(3,1),(4,5)],some (.pr (.int .i64) (.pr (.int .i64) (.pr .str (.pr .str (.pr (.int .i64) (.pr (.int .i64) (.pr (.int .i64) (.pr (.sl .u8) .str)))))))),112⟩
def t46:cB:=⟨.sl 114,1,false,[.ec],[],some (.sl (.pr (.int .i64) (.pr (.int .i64) (.int .i64)))),24⟩
def t49:cB:=⟨.ptr 165,1,false,[.raw (.pointer none)],[],some .aY,8⟩
def t54:cB:=⟨.st,2,true,[.d (.str []),.d (.str [])],[(0,1),(1,1)],some (.pr .str .str),32⟩
def t55:cB:=⟨.sl 66,1,false,[.ec],[],some (.sl (.pr (.int .i64) (.pr (.int .i64) (.pr (.int .i64) (.pr (.int .i64) (.pr (.sl .u8) .str)))))),24⟩
def t58:cB:=⟨.ptr 137,1,false,[.raw (.pointer none)],[],some .aY,8⟩
def t62:cB:=⟨.st,3,true,[.d (.str []),.d (.str []),.d (.lit false)],[(0,1),(1,1),(2,1)],some (.pr .str (.pr .str .bool)),40⟩
def t66:cB:=⟨.st,6,true,[.d (.int .i64 0),.d (.int .i64 0),.d (.int .i64 0),.d (.int .i64 0),.ec,.d (.str [])],[(0,1),(1,5)],some (.pr (.int .i64) (.pr (.int .i64) (.pr (.int .i64) (.pr (.int .i64) (.pr (.sl .u8) .str))))),72⟩
def t79:cB:=⟨.ptr 146,1,false,[.raw (.pointer none)],[],some .aY,8⟩
def t82:cB:=⟨.sl 4,1,false,[.ec],[],some (.sl .bool),24⟩
def t84:cB:=⟨.st,4,true,[.d (.str []),.d (.str []),.ec,.d (.lit false)],[(0,1),(1,1),(2,1),(3,1)],some (.pr .str (.pr .str (.pr (.sl .bool) .bool))),64⟩
def t97:cB:=⟨.mp 9 127,1,false,[.raw (.map none)],[],none,8⟩
def t99:cB:=⟨.st,3,true,[.d (.int .i64 0),.d (.int .i64 0),.raw (.map none)],[(0,1),(1,1),(2,1)],none,24⟩
def t100:cB:=⟨.sl 148,1,false,[.ec],[],some (.sl (.pr (.int .i64) (.int .i64))),24⟩
def t101:cB:=⟨.sl 229,1,false,[.ec],[],some (.sl (.pr .str (.sl (.pr (.int .i64) (.int .i64))))),24⟩
def t102:cB:=⟨.sl 9,1,false,[.ec],[],some (.sl .str),24⟩
def t104:cB:=⟨.st,5,true,[.d (.int .i64 0),.d (.int .i64 0),.ec,.ec,.ec],[(0,1),(1,1),(2,1),(3,1),(4,1)],some (.pr (.int .i64) (.pr (.int .i64) (.pr (.sl (.pr (.int .i64) (.int .i64))) (.pr (.sl (.pr .str (.sl (.pr (.int .i64) (.int .i64))))) (.sl .str))))),88⟩
def t114:cB:=⟨.st,3,true,[.d (.int .i64 0),.d (.int .i64 0),.d (.int .i64 0)],[(0,1),(1,1),(2,1)],some (.pr (.int .i64) (.pr (.int .i64) (.int .i64))),24⟩
def t124:cB:=⟨.st,7,true,[.d (.str []),.d (.str []),.d (.int .i64 0),.d (.int .i64 0),.ec,.ec,.ec],[(0,1),(1,1),(2,5)],some (.pr .str (.pr .str (.pr (.int .i64) (.pr (.int .i64) (.pr (.sl (.pr (.int .i64) (.int .i64))) (.pr (.sl (.pr .str (.sl (.pr (.int .i64) (.int .i64))))) (.sl .str))))))),120⟩
def t127:cB:=⟨.ptr 130,1,false,[.raw (.pointer none)],[],some .aY,8⟩
def t128:cB:=⟨.sl 3,1,false,[.ec],[],some (.sl (.int .i64)),24⟩
def t130:cB:=⟨.st,2,true,[.raw (.pointer none),.d (.str [])],[(0,1),(1,1)],some (.pr .aY .str),24⟩
def t137:cB:=⟨.st,4,true,[.raw (.pointer none),.d (.str []),.d (.str []),.d (.lit false)],[(0,1),(1,1),(2,1),(3,1)],some (.pr .aY (.pr .str (.pr .str .bool))),48⟩
def t141:cB:=⟨.other,1,false,[.raw .nilFunc],[],some .fn,8⟩
def t144:cB:=⟨.mp 3 3,1,false,[.raw (.map none)],[],none,8⟩
def t146:cB:=⟨.st,5,true,[.raw (.pointer none),.d (.str []),.d (.str []),.raw (.map none),.d (.lit false)],[(0,1),(1,1),(2,1),(3,1),(4,1)],none,56⟩
def t148:cB:=⟨.st,2,true,[.d (.int .i64 0),.d (.int .i64 0)],[(0,1),(1,1)],some (.pr (.int .i64) (.int .i64)),16⟩
def t151:cB:=⟨.other,1,false,[.raw .nilFunc],[],some .fn,8⟩
def t152:cB:=⟨.other,1,false,[.raw .nilFunc],[],some .fn,8⟩
def t156:cB:=⟨.ptr 197,1,false,[.raw (.pointer none)],[],some .aY,8⟩
def t159:cB:=⟨.ptr 199,1,false,[.raw (.pointer none)],[],some .aY,8⟩
def t162:cB:=⟨.mp 3 34,1,false,[.raw (.map none)],[],none,8⟩
def t163:cB:=⟨.sl 276,1,false,[.ec],[],some (.sl (.pr .str .aY)),24⟩
def t165:cB:=⟨.st,5,true,[.d (.int .i64 0),.raw (.pointer none),.raw (.pointer none),.raw (.map none),.ec],[(0,1),(1,1),(2,1),(3,1),(4,1)],none,56⟩
def t166:cB:=⟨.other,1,false,[.raw .nilFunc],[],some .fn,8⟩
def t168:cB:=⟨.other,1,false,[.raw .nilFunc],[],some .fn,8⟩
def t170:cB:=⟨.other,1,false,[.raw .nilFunc],[],some .fn,8⟩
def t176:cB:=⟨.sl 9,1,false,[.ec],[],some (.sl .str),24⟩
def t182:cB:=⟨.other,1,false,[.raw .nilFunc],[],some .fn,8⟩
def t183:cB:=⟨.other,1,false,[.raw .nilFunc],[],some .fn,8⟩
def t188:cB:=⟨.st,3,true,[.d (.int .i64 0),.d (.int .i64 0),.d (.lit false)],[(0,1),(1,1),(2,1)],some (.pr (.int .i64) (.pr (.int .i64) .bool)),24⟩
def t191:cB:=⟨.other,1,false,[.raw .nilFunc],[],some .fn,8⟩
def t192:cB:=⟨.other,1,false,[.raw .nilFunc],[],some .fn,8⟩
def t193:cB:=⟨.mp 3 192,1,false,[.raw (.map none)],[],none,8⟩
def t195:cB:=⟨.mp 3 217,1,false,[.raw (.map none)],[],none,8⟩
def t197:cB:=⟨.st,2,true,[.d (.int .i64 0),.raw (.map none)],[(0,1),(1,1)],none,16⟩
def t199:cB:=⟨.st,1,true,[.ec],[(0,1)],some (.sl (.int .i64)),24⟩
def t200:cB:=⟨.other,1,false,[.raw .nilFunc],[],some .fn,8⟩
def t203:cB:=⟨.st,4,true,[.d (.int .i64 0),.d (.int .i64 0),.d (.int .i64 0),.d (.int .i64 0)],[(0,1),(1,1),(2,1),(3,1)],some (.pr (.int .i64) (.pr (.int .i64) (.pr (.int .i64) (.int .i64)))),32⟩
def t204:cB:=⟨.other,1,false,[.raw .nilFunc],[],some .fn,8⟩
def t217:cB:=⟨.arr 16 188,48,true,[.d (.int .i64 0),.d (.int .i64 0),.d (.lit false),.d (.int .i64 0),.d (.int .i64 0),.d (.lit false),.d (.int .i64 0),.d (.int .i64 0),.d (.lit false),.d (.int .i64 0),.d (.int .i64 0),.d (.lit false),.d (.int .i64 0),.d (.int .i64 0),.d (.lit false),.d (.int .i64 0),.d (.int .i64 0),.d (.lit false),.d (.int .i64 0),.d (.int .i64 0),.d (.lit false),.d (.int .i64 0),.d (.int .i64 0),.d (.lit false),.d (.int .i64 0),.d (.int .i64 0),.d (.lit false),.d (.int .i64 0),.d (.int .i64 0),.d (.lit false),.d (.int .i64 0),.d (.int .i64 0),.d (.lit false),.d (.int .i64 0),.d (.int .i64 0),.d (.lit false),.d (.int .i64 0),.d (.int .i64 0),.d (.lit false),.d (.int .i64 0),.d (.int .i64 0),.d (.lit false),.d (.int .i64 0),.d (.int .i64 0),.d (.lit false),.d (.int .i64 0),.d (.int .i64 0),.d (.lit false)],[],some (.arr 16 (.pr (.int .i64) (.pr (.int .i64) .bool))),384⟩
def t229:cB:=⟨.st,2,true,[.d (.str []),.ec],[(0,1),(1,1)],some (.pr .str (.sl (.pr (.int .i64) (.int .i64)))),40⟩
def t236:cB:=⟨.int .u64,1,false,[.d (.int .u64 0)],[],some (.int .u64),8⟩
def t240:cB:=⟨.int .i64,1,false,[.d (.int .i64 0)],[],some (.int .i64),8⟩
def t248:cB:=⟨.int .u32,1,false,[.d (.int .u32 0)],[],some (.int .u32),4⟩
def t250:cB:=⟨.int .u64,1,false,[.d (.int .u64 0)],[],some (.int .u64),8⟩
def t252:cB:=⟨.other,1,false,[.raw .nilFunc],[],some .fn,8⟩
def t253:cB:=⟨.int .u64,1,false,[.d (.int .u64 0)],[],some (.int .u64),8⟩
def t257:cB:=⟨.ptr 3,1,false,[.raw (.pointer none)],[],some .aY,8⟩
def t259:cB:=⟨.ptr 253,1,false,[.raw (.pointer none)],[],some .aY,8⟩
def t276:cB:=⟨.st,2,true,[.d (.str []),.raw (.pointer none)],[(0,1),(1,1)],some (.pr .str .aY),24⟩
def types:cY:=(.node (.node (.node (.node (.node (.node (.node .leaf 3 t3 .leaf) 4 t4 .leaf) 5 t5 (.node .leaf 9 t9 .leaf)) 21 t21 (.node (.node (.node .leaf 22 t22 .leaf) 23 t23 .leaf) 24 t24 (.node .leaf 27 t27 .leaf))) 29 t29 (.node (.node (.node (.node .leaf 34 t34 .leaf) 36 t36 .leaf) 38 t38 (.node .leaf 46 t46 .leaf)) 49 t49 (.node (.node .leaf 54 t54 .leaf) 55 t55 (.node .leaf 58 t58 .leaf)))) 62 t62 (.node (.node (.node (.node (.node .leaf 66 t66 .leaf) 79 t79 .leaf) 82 t82 (.node .leaf 84 t84 .leaf)) 97 t97 (.node (.node .leaf 99 t99 .leaf) 100 t100 (.node .leaf 101 t101 .leaf))) 102 t102 (.node (.node (.node (.node .leaf 104 t104 .leaf) 114 t114 .leaf) 124 t124 (.node .leaf 127 t127 .leaf)) 128 t128 (.node (.node .leaf 130 t130 .leaf) 137 t137 (.node .leaf 141 t141 .leaf))))) 144 t144 (.node (.node (.node (.node (.node (.node .leaf 146 t146 .leaf) 148 t148 .leaf) 151 t151 (.node .leaf 152 t152 .leaf)) 156 t156 (.node (.node (.node .leaf 159 t159 .leaf) 162 t162 .leaf) 163 t163 (.node .leaf 165 t165 .leaf))) 166 t166 (.node (.node (.node (.node .leaf 168 t168 .leaf) 170 t170 .leaf) 176 t176 (.node .leaf 182 t182 .leaf)) 183 t183 (.node (.node .leaf 188 t188 .leaf) 191 t191 (.node .leaf 192 t192 .leaf)))) 193 t193 (.node (.node (.node (.node (.node .leaf 195 t195 .leaf) 197 t197 .leaf) 199 t199 (.node .leaf 200 t200 .leaf)) 203 t203 (.node (.node .leaf 204 t204 .leaf) 217 t217 (.node .leaf 229 t229 .leaf))) 236 t236 (.node (.node (.node (.node .leaf 240 t240 .leaf) 248 t248 .leaf) 250 t250 (.node .leaf 252 t252 .leaf)) 253 t253 (.node (.node .leaf 257 t257 .leaf) 259 t259 (.node .leaf 276 t276 .leaf))))))
end oe
set_option maxRecDepth 100000 in
theorem ai:dQ Tryz.prog oe.types:=dQ.of (by kernel_rfl)
theorem mixed:Tryz.prog.follows .mixedOrders=true:=by kernel_rfl
end Go.Proofs.YteoamepgonpdlaaGreat
namespace Go.Proofs.YteoamepgonpdlaaGreat
open Go.ChangeShapes Go.WideShapes Go.ChangeAt Go.RowKit
section
variable {H:Type} {enc:TypeId×Value→H} {P:Program}
theorem TO {f:Func} {s:ChangeSpec} {apart fresh handsOn again:Bool} {W ny:World} {args:Array Value} {v:Value} {ds gs:List (DataW H)} {before pa pv:List MemPlace}
  (dY:DataW.Whole enc P f.params.toList s.vars apart W args.toList ds gs before)
  (lJ: ∀(b:Nat) (sp:Nat→Bool) (hd:Bool),DataW.TrodAll enc P ny b sp hd f.resultTypes.toList (v.resultList f.resultTypes.size) (s.fn H (ds++gs)).results [])
  (fT: ∀sp:Nat→Bool,(∀p∈before,sp p.block=true)→DataW.TrodAll enc P ny 0 sp true f.params.toList args.toList (s.fn H (ds++gs)).args pa)
  (Bl: ∀sp:Nat→Bool,(∀p∈before,sp p.block=true)→DataW.TrodVars enc P ny sp s.vars (s.fn H (ds++gs)).vars pv)
  (oa:before=pa++pv) (ag:Below W.heap.size W ny)
  (bB: ∀(j:Nat) (t:TypeId) (r:Value),f.resultTypes[j]? =some t→(v.resultList f.resultTypes.size)[j]? =some r→Value.okWide P ny .any 0 t r):
  s.post enc P f apart fresh handsOn again W args v ny:=by
 have bF: ∀p∈before,p.block < W.heap.size:=fun p hp=>dY.lt p hp
 have hold: ∀p∈before,(fun b=>decide (b < W.heap.size)) p.block=true:=fun p hp=>by simpa using bF p hp
 refine⟨ds,gs,before,[],pa,pv,dY,lJ _ _ _,fT _ hold,Bl _ hold,World.keptBut_mono (fun p hp=>⟨hp,?_⟩) (ag.frame (· ∈before)),fun _=>?_⟩
 ·rw[oa,List.mem_append] at hp
  exact Or.inr hp
 ·obtain⟨_,_,_,_,_,aS,hn⟩:=dY
  refine⟨bB,_,_,([]++pa)++pv,⟨[]++pa,pv,trodAll_append (fT _ (fun _ _=>rfl)) (lJ _ _ _),Bl _ (fun _ _=>rfl),rfl,?_,?_⟩,?_⟩
  ·intro b off hp
   have dz:MemPlace.cell b off∈before:=by rw[oa];simpa using hp
   rw[ag.frozen (bF _ dz)]
   exact aS b off dz
  ·intro ha
   have:=hn ha
   rw[oa] at this
   simpa using this
  ·intro p hp _
   rw[oa]
   simpa using hp
end
def MC:(u:U)→aI u→aO
 | .pr u v,x=>.c (.agg (fH (.pr u v) x 0 (aM (.pr u v))))
 | .arr n u,x=>.c (.agg (fH (.arr n u) x 0 (aM (.arr n u))))
 | .int k,x=>.c (.one (.d (e4 (.int k) x 0)))
 | .u8,x=>.c (.one (.d (e4 .u8 x 0)))
 | .bool,x=>.c (.one (.d (e4 .bool x 0)))
 | .str,x=>.c (.one (.d (e4 .str x 0)))
 | .aY,x=>.c (.one (.d (e4 .aY x 0)))
 | .c9,x=>.c (.one (.d (e4 .c9 x 0)))
 | .fn,x=>.c (.one (.d (e4 .fn x 0)))
 | .sl u,x=>.c (.one (.d (e4 (.sl u) x 0)))
def uO (P:Program) (t:TypeId):Bool:=match P.underlying t with
 |some (.struct _)=>false
 |some (.array _ _)=>false
 |some _=>true
 |none=>false
def DN (P:Program) (u:U) (t:TypeId):Bool:=qw P 20 u t&&(ni u == uO P t)&&Nat.beq (P.cellsOf t) (aM u)&&P.readableRec t&&Nat.blt t P.types.size
section
variable {H:Type} {enc:TypeId×Value→H} {W:World} {P:Program} {ρ:Nat→bq} {I:Nat→Prop}
theorem MD {u:U} {x:aI u} {cs:List Value} (hd:b7 I W u x (fun j=>cs[j]?)): ∀(n o:Nat),o+n≤aM u→o+n≤cs.length→bV ρ I W (fH u x o n) ((cs.drop o).take n)
 |0,o,_,_=>by simp[fH,bV]
 |n+1,o,h,aB=>by
  obtain⟨v,hv,uH⟩:=b7.cell u x _ o hd (by omega)
  refine⟨v,(cs.drop (o+1)).take n,?_,uH,MD hd n (o+1) (by omega) (by omega)⟩
  have:=(List.getElem?_eq_some_iff.1 hv).2
  rw[List.drop_eq_getElem_cons (by omega:o < cs.length),List.take_succ_cons,this]
theorem TP {t:TypeId} {v:Value} {base:Nat} (aa:uO P t=true) (h:Value.okWide P W .any base t v) {fuel:Nat} {sp:Nat→Bool} {u:U} {n:Nat} {x:DataW H×List MemPlace} (hu:qw P n u t=true) (af:ni u=true):v.cells.toList=[v]:=by
 cases n with
 |zero=>simp[qw] at hu
 |succ n=>
  unfold qw at hu
  split at hu
  case h_1 k k' cc=>obtain⟨n,rfl⟩:=okWide_int cc h;rfl
  case h_2 k cc=>obtain⟨n,rfl⟩:=okWide_int cc h;rfl
  case h_3 cc=>obtain⟨n,rfl⟩:=okWide_bool cc h;rfl
  case h_4 cc=>obtain⟨n,rfl⟩:=okWide_string cc h;rfl
  case h_5 e v cc=>obtain⟨a,b,c,rfl⟩:=okWide_slice cc h;rfl
  case h_6=>simp[ni] at af
  case h_7 fs u cc=>simp[uO,cc] at aa
  case h_8=>cases hu
theorem TQ {t:TypeId} {v:Value} {base:Nat} (aa:uO P t=false) (h:Value.okWide P W .any base t v) {n:Nat} {u:U} (hu:qw P n u t=true): ∃cs,v= .agg cs∧cs.size=P.cellsOf t:=by
 cases n with
 |zero=>simp[qw] at hu
 |succ n=>
  unfold qw at hu
  unfold Value.okWide at h
  split at hu
  case h_1 k k' cc=>simp[uO,cc] at aa
  case h_2 k cc=>simp[uO,cc] at aa
  case h_3 cc=>simp[uO,cc] at aa
  case h_4 cc=>simp[uO,cc] at aa
  case h_5 e v cc=>simp[uO,cc] at aa
  case h_6 k e k' v cc=>rw[cc] at h;obtain⟨cs,aa,af,_⟩:=h;exact⟨cs,aa,af⟩
  case h_7 fs u cc=>rw[cc] at h;obtain⟨cs,aa,af,_⟩:=h;exact⟨cs,aa,af⟩
  case h_8=>cases hu
theorem TR {u:U} {t:TypeId} {v:Value} {d:DataW H} {ps:List MemPlace} {base:Nat} {sp:Nat→Bool} (h:DN P u t=true) (bB:Value.okWide P W .any base t v) (cn:DataW.Trod enc P W 0 sp true t v d ps):
  ∃a:aI u,b8 ρ (fun b=>b < W.heap.size) W (MC u a) v∧fV u a≤Rows.uptoBulk d∧tA u a:=by
 simp only[DN,Bool.and_eq_true,Nat.beq_eq,beq_iff_eq] at h
 obtain⟨⟨⟨⟨aa,af⟩,ay⟩,_⟩,_⟩:=h
 obtain⟨n,hn⟩:=cn
 obtain⟨a,cC,cR,fo⟩:=DM _ _ _ aa _ _ _ hn
 refine⟨a,?_,cR,fo⟩
 cases az:ni u with
 |true=>
  rw[TP (x:=(d,ps)) (fuel:=n) (sp:=sp) (by rw[←af,az]) bB aa az] at cC
  obtain⟨v',aj,ak⟩:=b7.cell u a _ 0 cC (by rcases u with _ |_ |_ |_ |_ |_ |_ <;>simp[aM,ni] at*)
  simp only[List.getElem?_cons_zero,Option.some.injEq] at aj
  subst aj
  cases u <;>first |exact ak |(simp[ni] at az)
 |false=>
  obtain⟨cs,rfl,dH⟩:=TQ (by rw[←af,az]) bB aa
  have aB:cs.toList.length=aM u:=by rw[Array.length_toList];omega
  have:=MD (ρ:=ρ) cC (aM u) 0 (by omega) (by simpa[Value.cells] using(show 0+aM u≤cs.toList.length by omega))
  rw[List.drop_zero,List.take_of_length_le (by simp only[Value.cells];omega)] at this
  cases u <;>first |exact⟨_,rfl,this⟩ |(simp[ni] at az)
def zu:List U→Type
 | []=>Unit
 |u::us=>aI u×zu us
def vW:(us:List U)→zu us→List aO
 | [],_=>[]
 |u::us,x=>MC u x.1::vW us x.2
noncomputable def DO:(us:List U)→zu us→Nat
 | [],_=>0
 |u::us,x=>fV u x.1+DO us x.2
def G4:(us:List U)→zu us→Prop
 | [],_=>True
 |u::us,x=>tA u x.1∧G4 us x.2
def tC (P:Program):List U→List TypeId→Bool
 | [],[]=>true
 |u::us,t::ts=>DN P u t&&tC P us ts
 |_,_=>false
theorem ME {base:Nat} {sp:Nat→Bool}: ∀(us:List U) (ts:List TypeId) (vs:List Value) (ds:List (DataW H)) (ps:List MemPlace),tC P us ts=true→(∀(j:Nat) t v,ts[j]? =some t→vs[j]? =some v→Value.okWide P W .any base t v)→
  DataW.TrodAll enc P W 0 sp true ts vs ds ps→ ∃a:zu us,vs.length=(vW us a).length∧(∀(i:Nat) (s:aO) (x:Value),(vW us a)[i]? =some s→vs[i]? =some x→b8 ρ (fun b=>b < W.heap.size) W s x)∧DO us a≤Rows.uptoBulkAll ds∧G4 us a
 | [],[],vs,ds,ps,_,_,cn=>by
  obtain⟨rfl,rfl,rfl⟩:=trodAll_nil cn
  exact⟨(),rfl,fun i s x h=>by simp[vW] at h,Nat.zero_le _,trivial⟩
 | [],_::_,_,_,_,h,_,_=>by simp[tC] at h
 |_::_,[],_,_,_,h,_,_=>by simp[tC] at h
 |u::us,t::ts,vs,ds,ps,h,bB,cn=>by
  simp only[tC,Bool.and_eq_true] at h
  obtain⟨v,vs,d,ds,p,q,rfl,rfl,rfl,aE,hr⟩:=trodAll_cons cn
  obtain⟨a,cj,cu,a3⟩:=TR (ρ:=ρ) h.1 (bB 0 t v rfl rfl) aE
  obtain⟨b,b1,b2,b3,eC⟩:=ME us ts vs ds q h.2 (fun j t v aa af=>bB (j+1) t v aa af) hr
  refine⟨(a,b),by simp[vW,b1],fun i s x aa af=>?_,by simp only[DO,Rows.uptoBulkAll];omega,a3,eC⟩
  match i with
  |0=>simp only[vW,List.getElem?_cons_zero,Option.some.injEq] at aa af;subst aa af;exact cj
  |i+1=>exact b2 i s x (by simpa[vW] using aa) (by simpa using af)
theorem MF (laid:laidOutB P=true) {ny:World} {MG:Nat→Bool}: ∀(us:List U) (ts:List TypeId) (vs:List Value) (ds:List (DataW H)) (ps:List MemPlace),tC P us ts=true→
  DataW.TrodAll enc P W 0 (fun _=>true) true ts vs ds ps→Below W.heap.size W ny→(∀x∈ps,x.block < W.heap.size)→(∀x∈ps,MG x.block=true)→DataW.TrodAll enc P ny 0 MG true ts vs ds ps
 | [],[],vs,ds,ps,_,cn,_,_,_=>by
  obtain⟨rfl,rfl,rfl⟩:=trodAll_nil cn
  exact trodAll_mk0
 | [],_::_,_,_,_,h,_,_,_,_=>by simp[tC] at h
 |_::_,[],_,_,_,h,_,_,_,_=>by simp[tC] at h
 |u::us,t::ts,vs,ds,ps,h,cn,ag,bF,Bn=>by
  simp only[tC,Bool.and_eq_true] at h
  obtain⟨v,vs,d,ds,p,q,rfl,rfl,rfl,aE,hr⟩:=trodAll_cons cn
  have aa:=h.1
  simp only[DN,Bool.and_eq_true,Nat.blt_eq] at aa
  exact trodAll_cons_mk (WideElems.Trod_stays laid aa.1.2 aa.2 aE (fun x hx=>ag.same (bF x (by simp[hx]))) (fun x hx=>Bn x (by simp[hx]))) (MF laid us ts vs ds q h.2 hr ag (fun x hx=>bF x (by simp[hx])) (fun x hx=>Bn x (by simp[hx])))
theorem Fn.calls {f:FuncId} {args:List aO} (hF:Fn P f args [] [] (iw true) []) (bW:Array Value) (aB:bW.toList.length=args.length)
  (hd: ∀(i:Nat) (s:aO) (x:Value),args[i]? =some s→bW.toList[i]? =some x→b8 ρ (fun b=>b < W.heap.size) W s x):Calls P f bW W fun e ny=>e= .returned (.bool true)∧Below W.heap.size W ny:=by
 have h:=hF.2 ρ (fun _ _=>False) (fun b=>b < W.heap.size) W bW.toList (fun b h=>h) (fun c ch hc=>by simp[ax] at hc) (fun c ch hc=>by simp[ax] at hc) (fun c bS ch ch' b hc=>by simp[ax] at hc) aB hd
 rw[Array.toArray_toList] at h
 refine h.mono ?_
 rintro e ny ⟨x,ρ',F',rfl,cr,-,I',-,-,-,-,-,hx⟩
 rw[show x= .bool true from hx]
 exact⟨rfl,cr.below (Nat.le_refl _) (by rintro i _ ⟨c,ch,hc,_⟩;simp[ax] at hc)⟩
end
theorem TS:ownKnob Tryz.prog.godebug=none:=by kernel_rfl
theorem TT:laidOutB Tryz.prog=true:=by kernel_rfl
set_option maxRecDepth 100000 in
theorem TU {H:Type} {enc:TypeId×Value→H} {W:World} {args:Array Value} {ds gs:List (DataW H)} {before:List MemPlace} {base:Nat} (f:FuncId) (fn:Func) (s:ChangeSpec) (us:List U) (n:Nat)
  (lJ:fn.resultTypes= #[4]) (Bl:s.vars=[]) (MH:tC Tryz.prog us fn.params.toList=true)
  (kW: ∀ds:List (DataW H),ds.length=fn.params.toList.length→(s.fn H ds).results=[.lit (.bool true)]∧(s.fn H ds).vars=[]∧(s.fn H ds).args=ds)
  (hval: ∀(j:Nat) t v,fn.params[j]? =some t→args[j]? =some v→Value.okWide Tryz.prog W .any base t v)
  (dY:DataW.Whole enc Tryz.prog fn.params.toList s.vars false W args.toList ds gs before) (aq:Rows.uptoBulkAll (ds++gs)≤n)
  (hF: ∀a:zu us,DO us a≤n→G4 us a→Fn Tryz.prog f (vW us a) [] [] (iw true) []):
  Calls Tryz.prog f args W fun e ny=> ∃v,e= .returned v∧s.post enc Tryz.prog fn false true false false W args v ny:=by
 have MI:=dY
 have bF:=dY.lt
 obtain⟨p,q,hA,MJ,rfl,ac1,dJ⟩:=dY
 rw[Bl] at MJ
 obtain⟨rfl,rfl⟩:=trodVars_none MJ
 simp only[List.append_nil] at MI aq bF
 obtain⟨a,cj,cu,a3,a4⟩:=ME (ρ:=fun _=>⟨0,none,0,0⟩) us fn.params.toList args.toList ds p MH (fun j t v aa af=>hval j t v (by simpa using aa) (by simpa using af)) hA
 have hlen:ds.length=fn.params.toList.length:=by
  have: ∀(ts:List TypeId) (vs:List Value) (ds:List (DataW H)) (ps:List MemPlace),DataW.TrodAll enc Tryz.prog W 0 (fun _=>true) true ts vs ds ps→ds.length=ts.length:=fun ts=>by
   induction ts with
   |nil=>intro vs ds ps h;obtain⟨_,rfl,_⟩:=trodAll_nil h;rfl
   |cons t ts aZ=>intro vs ds ps h;obtain⟨v,vs,d,ds,p,q,rfl,rfl,rfl,aE,hr⟩:=trodAll_cons h;simp[aZ _ _ _ hr]
  exact this _ _ _ _ hA
 obtain⟨r1,r2,gv⟩:=kW ds hlen
 refine((hF a (by omega) a4).calls args cj cu).mono fun e ny ⟨he,ag⟩=>?_
 subst he
 refine⟨_,rfl,TO (pa:=p) (pv:=[]) MI ?_ ?_ ?_ (by simp) ag ?_⟩
 ·intro b sp hd
  rw[List.append_nil,r1,lJ]
  exact trodAll_cons_mk (shut_bool Tryz.underlying4 _) trodAll_mk0
 ·intro sp Bn
  rw[List.append_nil,gv]
  exact MF TT us _ _ _ _ MH hA ag (fun x hx=>bF x (by simpa using hx)) (fun x hx=>Bn x (by simpa using hx))
 ·intro sp Bn
  rw[List.append_nil,r2,Bl]
  rfl
 ·exact Go.RowKit.ok_one lJ rfl (okWide_bool_mk Tryz.underlying4 _)
end Go.Proofs.YteoamepgonpdlaaGreat
namespace Go.Proofs.YteoamepgonpdlaaGreat
set_option maxRecDepth 100000
open Go.ChangeShapes Go.WideShapes Go.ChangeAt Go.RowKit
theorem iy {a b:Bool} (h:a=true) (k:b=true):(a&&b)=true:=by rw[h,k];rfl
def G5:OpenClaim:={program:= "",sum:= "",func:= "",spec:= "" }
theorem TV:laidOutB Tryz.prog=true:=by kernel_rfl
theorem TW:mapsRowed Tryz.prog=true:=by kernel_rfl
theorem TX:(G5.plainKeys == Tryz.prog.plainKeys)=true:=by kernel_rfl
theorem TY:Tryz.prog.mayEnter=true:=by kernel_rfl
theorem TZ:(G5.lifted == Tryz.prog.liftsFinal)=true:=by kernel_rfl
theorem T1:(Tryz.prog.make == some G5.make)=true:=by kernel_rfl
end Go.Proofs.YteoamepgonpdlaaGreat
namespace Go.Proofs
open Go.Shelf
def Tryz.MK:Go.Shelf.Ren:=⟨fun |7=>104 |10=>130 |n=>n,fun |23=>97 |26=>9 |3=>127 |28=>183 |0=>0 |27=>182 |33=>166 |4=>4 |n=>n,fun |n=>n⟩
theorem Tryz.T2:Go.Proofs.SlLaysZ.n7 Tryz.prog Tryz.MK:={
 mixed:=by kernel_rfl
 f7:=⟨Tryz.f104.name,by decide,Tryz.func104.trans (congrArg some (by kernel_rfl))⟩
 f10:=⟨Tryz.f130.name,by decide,Tryz.func130.trans (congrArg some (by kernel_rfl))⟩
 t0:=Tryz.underlying0
 a0:=Tryz.isAgg0
 z0:=Tryz.sizeOf0
 v0:=Tryz.zeroValue0
 t4:=Tryz.underlying4
 a4:=Tryz.isAgg4
 z4:=Tryz.sizeOf4
 v4:=Tryz.zeroValue4
 t23:=Tryz.underlying97
 a23:=Tryz.isAgg97
 z23:=Tryz.sizeOf97
 v23:=Tryz.zeroValue97
 t26:=Tryz.underlying9
 a26:=Tryz.isAgg9
 z26:=Tryz.sizeOf9
 v26:=Tryz.zeroValue9
 t27:=Tryz.underlying182
 a27:=Tryz.isAgg182
 z27:=Tryz.sizeOf182
 v27:=Tryz.zeroValue182
 t28:=Tryz.underlying183
 a28:=Tryz.isAgg183
 z28:=Tryz.sizeOf183
 v28:=Tryz.zeroValue183
 t33:=Tryz.underlying166
 a33:=Tryz.isAgg166
 z33:=Tryz.sizeOf166
 v33:=Tryz.zeroValue166}
def Tryz.ML:Go.Shelf.Ren:=⟨fun |6=>103 |8=>128 |9=>129 |11=>147 |13=>149 |12=>148 |23=>163 |24=>164 |14=>154 |15=>155 |16=>156 |17=>157 |18=>158 |19=>159 |20=>160 |21=>161 |22=>162 |25=>167 |26=>168 |27=>169 |28=>170 |29=>171 |30=>172 |31=>174 |n=>n,fun |26=>9 |28=>183 |24=>102 |0=>0 |3=>3 |37=>236 |48=>248 |50=>250 |4=>4 |40=>241 |39=>240 |45=>71 |5=>5 |9=>9 |51=>253 |55=>257 |57=>259 |58=>142 |33=>166 |n=>n,fun |n=>n⟩
theorem Tryz.T3:Go.Proofs.SlLaysZ.n6 Tryz.prog Tryz.ML:={
 mixed:=by kernel_rfl
 f6:=⟨Tryz.f103.name,by decide,Tryz.func103.trans (congrArg some (by kernel_rfl))⟩
 f8:=⟨Tryz.f128.name,by decide,Tryz.func128.trans (congrArg some (by kernel_rfl))⟩
 f11:=⟨Tryz.f147.name,by decide,Tryz.func147.trans (congrArg some (by kernel_rfl))⟩
 t0:=Tryz.underlying0
 a0:=Tryz.isAgg0
 z0:=Tryz.sizeOf0
 v0:=Tryz.zeroValue0
 t24:=Tryz.underlying102
 a24:=Tryz.isAgg102
 z24:=Tryz.sizeOf102
 v24:=Tryz.zeroValue102
 t26:=Tryz.underlying9
 a26:=Tryz.isAgg9
 z26:=Tryz.sizeOf9
 v26:=Tryz.zeroValue9
 t28:=Tryz.underlying183
 a28:=Tryz.isAgg183
 z28:=Tryz.sizeOf183
 v28:=Tryz.zeroValue183
 i26:=by kernel_rfl}
def Tryz.T4:Go.Shelf.Ren:=⟨fun |6=>129 |8=>149 |9=>148 |19=>163 |20=>164 |21=>154 |22=>155 |23=>156 |24=>157 |25=>158 |26=>159 |27=>160 |28=>161 |29=>162 |36=>167 |31=>168 |32=>169 |37=>170 |38=>171 |39=>172 |41=>174 |n=>n,fun |27=>102 |29=>9 |3=>3 |32=>236 |26=>102 |0=>0 |44=>248 |46=>250 |4=>4 |36=>241 |35=>240 |41=>71 |5=>5 |9=>9 |53=>253 |57=>257 |63=>259 |64=>142 |n=>n,fun |n=>n⟩
theorem Tryz.MM:Go.Proofs.SlLaysM.n6 Tryz.prog Tryz.T4:={
 mixed:=by kernel_rfl
 f6:=⟨Tryz.f129.name,by decide,Tryz.func129.trans (congrArg some (by kernel_rfl))⟩
 f8:=Tryz.func149.trans (congrArg some (by kernel_rfl))
 f9:=⟨Tryz.f148.name,by decide,Tryz.func148.trans (congrArg some (by kernel_rfl))⟩
 f19:=Tryz.func163.trans (congrArg some (by kernel_rfl))
 f20:=Tryz.func164.trans (congrArg some (by kernel_rfl))
 f21:=⟨Tryz.f154.name,by decide,Tryz.func154.trans (congrArg some (by kernel_rfl))⟩
 f22:=⟨Tryz.f155.name,by decide,Tryz.func155.trans (congrArg some (by kernel_rfl))⟩
 f23:=⟨Tryz.f156.name,by decide,Tryz.func156.trans (congrArg some (by kernel_rfl))⟩
 f24:=⟨Tryz.f157.name,by decide,Tryz.func157.trans (congrArg some (by kernel_rfl))⟩
 f25:=⟨Tryz.f158.name,by decide,Tryz.func158.trans (congrArg some (by kernel_rfl))⟩
 f26:=⟨Tryz.f159.name,by decide,Tryz.func159.trans (congrArg some (by kernel_rfl))⟩
 f27:=⟨Tryz.f160.name,by decide,Tryz.func160.trans (congrArg some (by kernel_rfl))⟩
 f28:=⟨Tryz.f161.name,by decide,Tryz.func161.trans (congrArg some (by kernel_rfl))⟩
 f29:=⟨Tryz.f162.name,by decide,Tryz.func162.trans (congrArg some (by kernel_rfl))⟩
 f31:=Tryz.func168.trans (congrArg some (by kernel_rfl))
 f32:=Tryz.func169.trans (congrArg some (by kernel_rfl))
 f36:=⟨Tryz.f167.name,by decide,Tryz.func167.trans (congrArg some (by kernel_rfl))⟩
 f37:=⟨Tryz.f170.name,by decide,Tryz.func170.trans (congrArg some (by kernel_rfl))⟩
 f38:=⟨Tryz.f171.name,by decide,Tryz.func171.trans (congrArg some (by kernel_rfl))⟩
 f39:=⟨Tryz.f172.name,by decide,Tryz.func172.trans (congrArg some (by kernel_rfl))⟩
 f41:=⟨Tryz.f174.name,by decide,Tryz.func174.trans (congrArg some (by kernel_rfl))⟩
 t0:=Tryz.underlying0
 a0:=Tryz.isAgg0
 z0:=Tryz.sizeOf0
 v0:=Tryz.zeroValue0
 t3:=Tryz.underlying3
 a3:=Tryz.isAgg3
 z3:=Tryz.sizeOf3
 v3:=Tryz.zeroValue3
 t4:=Tryz.underlying4
 a4:=Tryz.isAgg4
 z4:=Tryz.sizeOf4
 v4:=Tryz.zeroValue4
 t5:=Tryz.underlying5
 a5:=Tryz.isAgg5
 z5:=Tryz.sizeOf5
 v5:=Tryz.zeroValue5
 t9:=Tryz.underlying9
 a9:=Tryz.isAgg9
 z9:=Tryz.sizeOf9
 v9:=Tryz.zeroValue9
 t26:=Tryz.underlying102
 a26:=Tryz.isAgg102
 z26:=Tryz.sizeOf102
 v26:=Tryz.zeroValue102
 t27:=Tryz.underlying102
 a27:=Tryz.isAgg102
 z27:=Tryz.sizeOf102
 v27:=Tryz.zeroValue102
 t29:=Tryz.underlying9
 a29:=Tryz.isAgg9
 z29:=Tryz.sizeOf9
 v29:=Tryz.zeroValue9
 t32:=Tryz.underlying236
 a32:=Tryz.isAgg236
 z32:=Tryz.sizeOf236
 v32:=Tryz.zeroValue236
 t35:=Tryz.underlying240
 a35:=Tryz.isAgg240
 z35:=Tryz.sizeOf240
 v35:=Tryz.zeroValue240
 t36:=Tryz.underlying241
 a36:=Tryz.isAgg241
 z36:=Tryz.sizeOf241
 v36:=Tryz.zeroValue241
 t41:=Tryz.underlying71
 a41:=Tryz.isAgg71
 z41:=Tryz.sizeOf71
 v41:=Tryz.zeroValue71
 t44:=Tryz.underlying248
 a44:=Tryz.isAgg248
 z44:=Tryz.sizeOf248
 v44:=Tryz.zeroValue248
 t46:=Tryz.underlying250
 a46:=Tryz.isAgg250
 z46:=Tryz.sizeOf250
 v46:=Tryz.zeroValue250
 t53:=Tryz.underlying253
 a53:=Tryz.isAgg253
 z53:=Tryz.sizeOf253
 v53:=Tryz.zeroValue253
 t57:=Tryz.underlying257
 a57:=Tryz.isAgg257
 z57:=Tryz.sizeOf257
 v57:=Tryz.zeroValue257
 t63:=Tryz.underlying259
 a63:=Tryz.isAgg259
 z63:=Tryz.sizeOf259
 v63:=Tryz.zeroValue259
 t64:=Tryz.underlying142
 a64:=Tryz.isAgg142
 z64:=Tryz.sizeOf142
 v64:=Tryz.zeroValue142}
def Tryz.MN:Go.Shelf.Ren:=⟨fun |7=>82 |10=>110 |n=>n,fun |23=>144 |26=>3 |3=>3 |28=>152 |0=>0 |27=>151 |33=>191 |4=>4 |n=>n,fun |n=>n⟩
theorem Tryz.T5:Go.Proofs.SlLaysZI.n7 Tryz.prog Tryz.MN:={
 mixed:=by kernel_rfl
 f7:=⟨Tryz.f82.name,by decide,Tryz.func82.trans (congrArg some (by kernel_rfl))⟩
 f10:=⟨Tryz.f110.name,by decide,Tryz.func110.trans (congrArg some (by kernel_rfl))⟩
 t0:=Tryz.underlying0
 a0:=Tryz.isAgg0
 z0:=Tryz.sizeOf0
 v0:=Tryz.zeroValue0
 t4:=Tryz.underlying4
 a4:=Tryz.isAgg4
 z4:=Tryz.sizeOf4
 v4:=Tryz.zeroValue4
 t23:=Tryz.underlying144
 a23:=Tryz.isAgg144
 z23:=Tryz.sizeOf144
 v23:=Tryz.zeroValue144
 t26:=Tryz.underlying3
 a26:=Tryz.isAgg3
 z26:=Tryz.sizeOf3
 v26:=Tryz.zeroValue3
 t27:=Tryz.underlying151
 a27:=Tryz.isAgg151
 z27:=Tryz.sizeOf151
 v27:=Tryz.zeroValue151
 t28:=Tryz.underlying152
 a28:=Tryz.isAgg152
 z28:=Tryz.sizeOf152
 v28:=Tryz.zeroValue152
 t33:=Tryz.underlying191
 a33:=Tryz.isAgg191
 z33:=Tryz.sizeOf191
 v33:=Tryz.zeroValue191}
def Tryz.T6:Go.Shelf.Ren:=⟨fun |8=>81 |11=>109 |n=>n,fun |26=>3 |28=>152 |24=>128 |0=>0 |33=>191 |4=>4 |n=>n,fun |n=>n⟩
theorem Tryz.T7:Go.Proofs.SlLaysZI.n8 Tryz.prog Tryz.T6:={
 mixed:=by kernel_rfl
 f8:=⟨Tryz.f81.name,by decide,Tryz.func81.trans (congrArg some (by kernel_rfl))⟩
 f11:=⟨Tryz.f109.name,by decide,Tryz.func109.trans (congrArg some (by kernel_rfl))⟩
 t0:=Tryz.underlying0
 a0:=Tryz.isAgg0
 z0:=Tryz.sizeOf0
 v0:=Tryz.zeroValue0
 t24:=Tryz.underlying128
 a24:=Tryz.isAgg128
 z24:=Tryz.sizeOf128
 v24:=Tryz.zeroValue128
 t26:=Tryz.underlying3
 a26:=Tryz.isAgg3
 z26:=Tryz.sizeOf3
 v26:=Tryz.zeroValue3
 t28:=Tryz.underlying152
 a28:=Tryz.isAgg152
 z28:=Tryz.sizeOf152
 v28:=Tryz.zeroValue152
 i26:=by kernel_rfl}
end Go.Proofs
namespace Go.Proofs.YteoamepgonpdlaaGreat
open Go.RowKit
def gV (P:Program) (f:FuncId) (args:List aO) (aR:aG) (bA:List Nat) {X:Type} (res:X→aO) (bl:X→aG):Prop:=
 mN P f=true∧ ∀(ρ:Nat→bq) (F:Nat→Nat→Prop) (I:Nat→Prop) (w:World) (bW:List Value),
  (∀b,I b→b < w.heap.size)→(∀c ch,ax aR c=some ch→Holds ρ I (F c) w (ρ c) ch)→(∀c ch,ax aR c=some ch→ ∀b,F c b→b < w.heap.size∧ ¬I b)→
  (∀c bS ch ch' b,ax aR c=some ch→ax aR bS=some ch'→c≠bS→F c b→ ¬F bS b)→
  bW.length=args.length→(∀(i:Nat) (v:aO) (x:Value),args[i]? =some v→bW[i]? =some x→b8 ρ I w v x)→
  Calls P f bW.toArray w fun e w'=> ∃(g:X) (x:Value) (ρ':Nat→bq) (F':Nat→Nat→Prop),e= .returned x∧Fr (fun b=> ∃c ch,ax aR c=some ch∧F c b) w w'∧(∀c,c∉bA→ρ' c=ρ c)∧
   ∃I':Nat→Prop,Ext I w I' w'∧(∀b,I' b→b < w'.heap.size∧(I b∨(∃c ch,ax aR c=some ch∧F c b)∨w.heap.size≤b))∧
   (∀c ch,ax (bl g) c=some ch→Holds ρ' I' (F' c) w' (ρ' c) ch)∧
   (∀c ch,ax (bl g) c=some ch→ ∀b,F' c b→b < w'.heap.size∧ ¬I' b∧((∃cx cm,ax aR cx=some cm∧F cx b)∨w.heap.size≤b))∧
   (∀c bS ch ch' b,ax (bl g) c=some ch→ax (bl g) bS=some ch'→c≠bS→F' c b→ ¬F' bS b)∧b8 ρ' I' w' (res g) x
theorem Fn.x {P:Program} {f:FuncId} {args:List aO} {aR:aG} {bA:List Nat} {res:aO} {bl:aG} (h:Fn P f args aR bA res bl):gV P f args aR bA (fun _:Unit=>res) (fun _=>bl):=
 ⟨h.1,fun ρ F I w bW cj cu a3 a4 a5 g5=>(h.2 ρ F I w bW cj cu a3 a4 a5 g5).mono fun e w' q=>⟨(),q⟩⟩
section
variable {P:Program} {tt:cY} {N:Nat} {ids:List Nat} {o:Oper} {K:aQ} {B:aG}
theorem Sat.back {aR:aG} {bA:List Nat} {r:aO} {bl:aG} (ja:nT B aR) (G6:rW ids K B bA=true) (oc:pH aR bA bl=true) {C:Ctx} {a:Act} {w w':World} {ρ ρ':Nat→bq} {F F':Nat→Nat→Prop} {I':Nat→Prop} {x:Value} {dst:Option Nat}
  (hn:a.tmps.size=N) (hd:a.defers=C.ds.map wZ) (aA:Mem ids C B ρ F w) (hS:ek K ρ (bO C B F w) a w) (bF: ∀d,dst=some d→d < N)
  (cr:Fr (fun b=> ∃c ch,ax aR c=some ch∧F c b) w w') (dn: ∀c,c∉bA→ρ' c=ρ c) (iI: ∀b,I' b→b < w'.heap.size∧(bO C B F w b∨(∃c ch,ax aR c=some ch∧F c b)∨w.heap.size≤b))
  (dW: ∀c ch,ax bl c=some ch→Holds ρ' I' (F' c) w' (ρ' c) ch) (aV: ∀c ch,ax bl c=some ch→ ∀b,F' c b→b < w'.heap.size∧ ¬I' b∧((∃cx cm,ax aR cx=some cm∧F cx b)∨w.heap.size≤b))
  (jQ: ∀c bS ch ch' b,ax bl c=some ch→ax bl bS=some ch'→c≠bS→F' c b→ ¬F' bS b) (eu:b8 ρ' I' w' r x):Sat N ids C (mL dst r K) (fe (jO aR bl) B) (a.put dst x) w':=by
 have eU: ∀{c ch},ax aR c=some ch→ax B c=some ch:=fun {c ch} hc=>kO ja hc
 have oU: ∀c∈bA,(∀s,(look K s).has c=false)∧ax B c=none∧(∀d ch,ax B d=some ch→ch.has c=false)∧c∉ids:=fun c hc=>lG (Dq G6 c hc)
 have A0: ∀c,ax (fe (jO aR bl) B) c=(match ax bl c with |some ch=>some ch |none=>if c∈cQ aR then none else ax B c):=Dp aR aR bA bl B oc
 have pQ: ∀c ch,ax (fe (jO aR bl) B) c=some ch→ax bl c=some ch∨(ax bl c=none∧c∉cQ aR∧ax B c=some ch):=fun c ch hc=>by
  rw[A0] at hc
  cases ag:ax bl c with
  |some ch'=>rw[ag] at hc;exact .inl hc
  |none=>
   rw[ag] at hc
   simp only at hc
   split at hc
   ·cases hc
   ·rename_i aq;exact .inr ⟨rfl,aq,hc⟩
 let cU:Nat→Nat→Prop:=fun c=>if c∈cQ bl then F' c else F c
 have lI: ∀c ch,ax bl c=some ch→cU c=F' c:=fun c ch hc=>if_pos (gu.2 ⟨ch,hc⟩)
 have A1: ∀c,ax bl c=none→cU c=F c:=fun c hc=>if_neg (fun aq=>by
  obtain⟨ch,h⟩:=gu.1 aq
  rw[hc] at h;cases h)
 have kA: ∀c ch,ax bl c=some ch→c∈cQ aR∨c∈bA:=fun c ch hc=>GD oc (gu.2 ⟨ch,hc⟩)
 have uG: ∀c ch,ax (fe (jO aR bl) B) c=some ch→(c∈cQ aR∨c∈bA)→ax bl c=some ch:=fun c ch hc bR=>by
  rcases pQ c ch hc with h |⟨aa,af,ay⟩
  ·exact h
  ·rcases bR with h |h
   ·exact absurd h af
   ·rw[(oU c h).2.1] at ay;cases ay
 have oV:Ext I' w' (bO C (fe (jO aR bl) B) cU w') w':=fun b ag=>by
  obtain⟨aj,ak⟩:=iI b ag
  refine⟨⟨aj,?_,fun c ch hc hF=>?_⟩,rfl⟩
  ·rcases ak with ak |⟨c,ch,ak,bf⟩ |ak
   ·exact ak.2.1
   ·exact .inr ((aA.own c ch (eU ak) b bf).2)
   ·exact .inr (.inr (aA.fresh ak))
  ·rcases pQ c ch hc with h |⟨aa,af,ay⟩
   ·rw[lI c ch h] at hF
    exact(aV c ch h b hF).2.1 ag
   ·rw[A1 c aa] at hF
    rcases ak with ak |⟨d,ch',ak,bf⟩ |ak
    ·exact ak.2.2 c ch ay hF
    ·exact aA.e8 d c ch' ch b (eU ak) ay (fun e=>af (e▸gu.2 ⟨ch',ak⟩)) bf hF
    ·have:=(aA.own c ch ay b hF).1;omega
 obtain⟨bR,bz⟩:=aA.step (B':=fe (jO aR bl) B) (ρ':=ρ') (F':=cU) (w':=w') (fun c=>c∈cQ aR∨c∈bA) (fun c=>c∈bA)
  (cr.mono fun b _ ⟨c,ch,aa,af⟩=>⟨c,ch,eU aa,.inl (gu.2 ⟨ch,aa⟩),af⟩)
  (fun c ch hc hn=>by
   rcases pQ c ch hc with h |⟨_,_,ay⟩
   ·exact absurd (kA c ch h) hn
   ·exact ay)
  dn
  (fun c hn=>by
   cases ag:ax bl c with
   |none=>exact A1 c ag
   |some ch=>exact absurd (kA c ch ag) hn)
  (fun c hc hn=>(oU c hn).2.2.2 hc) (fun c h=>.inr h)
  (fun c ch hc _ d hd hn=>by rw[(oU d hn).2.2.1 c ch hc] at hd;cases hd)
  (fun c ch hc bR _=>by
   have ag:=uG c ch hc bR
   rw[lI c ch ag]
   exact Holds.cy oV (fun _ _=>rfl) (Nat.le_refl _) ch (fun _ _=>rfl) (dW c ch ag))
  (fun c ch hc bR b ag=>by
   have xx:=uG c ch hc bR
   rw[lI c ch xx] at ag
   obtain⟨aj,_,bf⟩:=aV c ch xx b ag
   refine⟨aj,bf.imp (fun⟨cx,cm,aa,af⟩=>⟨cx,cm,eU aa,.inl (gu.2 ⟨cm,aa⟩),af⟩) id⟩)
  (fun c bS ch ch' b hc dm kA jR bg ag dw=>by
   have aa:=uG c ch hc kA
   have af:=uG bS ch' dm jR
   rw[lI c ch aa] at ag
   rw[lI bS ch' af] at dw
   exact jQ c bS ch ch' b aa af bg ag dw)
 refine⟨lC.trans hn,put_defers.trans hd,ρ',cU,bR,(hS.mono bz fun s d hd=>dn d fun hn=>by rw[(oU d hn).1 s] at hd;cases hd).lD (fun e he=>by rw[hn];exact bF e he) (b8.mono oV _ _ (fun _ _=>rfl) eu)⟩
theorem T8 {f:FuncId} {args:List aO}
  (hex: ∀(ρ:Nat→bq) (I:Nat→Prop) (a:Act) (w:World),ek K ρ I a w→ ∃bW:List Value,(mN P f=true→(execOp a.eval o).run P w= .ok (.enter f bW.toArray) w)∧bW.length=args.length∧ ∀(i:Nat) (v:aO) (x:Value),args[i]? =some v→bW[i]? =some x→b8 ρ I w v x)
  {X:Type} {aR:aG} {bA:List Nat} {res:X→aO} {bl:X→aG} (T9:gV P f args aR bA res bl) (ja:nT B aR) (G6:rW ids K B bA=true) (bB: ∀g,(rW ids K B bA&&pH aR bA (bl g))=true)
  {C:Ctx} {a:Act} {w:World} (hs:Sat N ids C K B a w) (bF: ∀d,o.dst=some d→d < N) {fl:Act→World→Prop} {Q:Exit→Act→World→Prop} (hK: ∀g a' w',Sat N ids C (mL o.dst (res g) K) (fe (jO aR (bl g)) B) a' w'→fl a' w'):o.wp P a w fl Q:=by
 obtain⟨iQ,kW⟩:=T9
 obtain⟨hn,hd,ρ,F,aA,hS⟩:=hs
 have eU: ∀{c ch},ax aR c=some ch→ax B c=some ch:=fun {c ch} hc=>kO ja hc
 obtain⟨bW,ep,ri,tr⟩:=hex ρ _ a w hS
 have hc:=kW ρ F (bO C B F w) w bW (fun b ag=>ag.1) (fun c ch hc=>aA.holds c ch (eU hc)) (fun c ch hc b ag=>⟨(aA.own c ch (eU hc) b ag).1,fun bC=>bC.2.2 c ch (eU hc) ag⟩)
  (fun c bS ch ch' b aa af=>aA.e8 c bS ch ch' b (eU aa) (eU af)) ri tr
 unfold Oper.wp
 rw[ep iQ,Oper.upon_enter]
 refine hc.mono ?_
 rintro e w' ⟨g,x,ρ',F',rfl,cr,dn,I',kX,iI,dW,aV,jQ,eu⟩
 exact hK g _ _ (Sat.back ja G6 (Bool.and_eq_true _ _▸bB g).2 hn hd aA hS bF cr dn iI dW aV jQ eu)
theorem gV.of (bh:dQ P tt) {f:FuncId} {fn:Func} {c:Code} (stops:List Nat) (args:List aO) (aR:aG) (bA:List Nat) {X:Type} (res:X→aO) (bl:X→aG) (hf:P.funcs[f]? =some fn) (ag:fn.body=some c) (hn:fn.ntmps=N) (iQ:mN P f=true) (hc:kP P N c=true) (fT:Nat.ble args.length N=true) (cq:zf P tt N (cQ aR)) {rs:List ResultVar} (GN:fn.results.toList=rs)
  (h:vc P tt N (cQ aR) stops c (sj 0 args) aR (fun e K B=> ∃g,L5 tt (cQ aR) bA rs (res g) (bl g) e K B)):gV P f args aR bA res bl:=by
 refine⟨iQ,?_⟩
 intro ρ F I w bW bC dW hF fU hlen eu
 have fT:=Nat.le_of_ble_eq_true fT
 refine LU (r:=none) (n:=0) (callsIn_of_wp_marks hf ag trivial ?_)
 let C:Ctx:=⟨w,I,fun b=> ∃c ch,ax aR c=some ch∧F c b,ρ,[]⟩
 have sk:Ext I w (bO C aR F w) w:=fun b ag=>⟨⟨bC b ag,.inl ag,fun c ch hc qt=>(hF c ch hc b qt).2 ag⟩,rfl⟩
 have aA:Mem (cQ aR) C aR ρ F w:=⟨Fr.refl _ _,fun c ch hc=>Holds.cy sk (fun _ _=>rfl) (Nat.le_refl _) ch (fun _ _=>rfl) (dW c ch hc),fun c ch hc b ag=>⟨(hF c ch hc b ag).1,.inl ⟨c,ch,hc,ag⟩⟩,fU,fun c _=>rfl,List.nodup_nil,fun b ag=>ag.elim (bC b) fun⟨c,ch,hc,A8⟩=>(hF c ch hc b A8).1,fun D cq=>by cases cq⟩
 refine zg bh cq stops c _ _ _ hc h none (fun _=>rfl) C _ ?_ _ w ⟨by simp[hlen,hn];omega,rfl,ρ,F,aA,fun s=>?_⟩
 ·intro e K' B' ds _ he a' w' dM
  obtain⟨g,he⟩:=he
  cases e with
  |ex i=>exact he.elim
  |_=>
   obtain⟨L6,jx,r,hle,hr,hp,ja,pR⟩:=he
   refine L4 dM fun w' dM=>?_
   obtain⟨iR,ku,ρ',F',bR,A9⟩:=hle N C _ w' dM
   obtain⟨vs,ep,nx⟩: ∃vs:List Value,(rs.mapM (tu a'.tmps)).run P w'= .ok vs w'∧iN ρ' (bO C jx F' w') w' r vs:=Du bh bR A9 rs r hr
   have lJ: ∃x,(results fn a'.tmps).run P w'= .ok x w'∧b8 ρ' (bO C jx F' w') w' (GJ r) x:=by
    have aa:fn.results=rs.toArray:=by rw[←GN]
    have af:(fn.results.mapM (tu a'.tmps)).run P w'= .ok (List.toArray vs) w':=by
     rw[aa,List.mapM_toArray]
     simp[ep]
    have ay:results fn a'.tmps=(do let vs←fn.results.mapM (tu a'.tmps);pure (if h:vs.size=1 then vs[0] else .tuple vs)):=rfl
    rw[ay]
    match r,vs,nx,af with
    | [],_,e,af=>rw[show _=[] from e] at af;exact⟨.tuple #[],by simp[af],[],rfl,rfl⟩
    | [x],_,⟨v,s,e,hv,hs⟩,af=>
     have hs:s=[]:=hs
     subst hs e
     exact⟨v,by simp[af],hv⟩
    |x::y::r,_,⟨v,s,e,hv,v2,s2,ak,uH,eR⟩,af=>
     subst ak e
     exact⟨.tuple (List.toArray (v::v2::s2)),by simp[af],_,rfl,v,_,rfl,hv,v2,s2,rfl,uH,eR⟩
   obtain⟨x,hx,sg⟩:=lJ
   have sg:=xC hp sg
   simp only[Bool.and_eq_true] at pR
   let uI:Nat→bq:=fun c=>if c∈bA then ρ' c else ρ c
   have rj: ∀c,c∈cQ aR++bA→uI c=ρ' c:=fun c hc=>by
    show(if c∈bA then ρ' c else ρ c)=ρ' c
    split
    ·rfl
    ·rename_i hn
     rcases List.mem_append.1 hc with h |h
     ·exact(bR.keep c h).symm
     ·exact absurd h hn
   refine⟨x,hx,g,x,uI,F',rfl,bR.jo,fun c hc=>if_neg hc,bO C jx F' w',?_,fun b ag=>⟨ag.1,?_⟩,?_,?_,?_,?_⟩
   ·intro b ag
    have vU: ¬C.qj b:=fun⟨c,ch,aa,af⟩=>(hF c ch aa b af).2 ag
    refine⟨⟨Nat.lt_of_lt_of_le (bC b ag) bR.jo.size,.inl ag,fun c ch hc qt=>?_⟩,bR.jo.block b (bC b ag) vU⟩
    rcases(bR.own c ch hc b qt).2 with h |h
    ·exact vU h
    ·have:=bC b ag;exact absurd h.1 (Nat.not_le.2 this)
   ·rcases ag.2.1 with h |h |h
    ·exact .inl h
    ·exact .inr (.inl h)
    ·exact .inr (.inr h.1)
   ·intro c ch hc
    have aq:c∈cQ aR++bA:=by
     have:=List.all_eq_true.1 pR.2 c (gu.2 ⟨ch,hc⟩)
     simpa only[List.contains_iff_mem] using this
    rw[rj c aq]
    exact Holds.cy (Ext.refl _ _) (fun _ _=>rfl) (Nat.le_refl _) ch (fun d hd=>rj d (bw.kQ (zi pR.1.2 hc) hd)) (bR.holds c ch (kO ja hc))
   ·intro c ch hc b ag
    have dm:=kO ja hc
    exact⟨(bR.own c ch dm b ag).1,fun aD=>aD.2.2 c ch dm ag,(bR.own c ch dm b ag).2.imp id fun x=>x.1⟩
   ·exact fun c bS ch ch' b aa af=>bR.e8 c bS ch ch' b (kO ja aa) (kO ja af)
   ·exact b8.mono (Ext.refl _ _) (res g) x (fun c hc=>rj c (aO.kQ pR.1.1 hc)) sg
 ·rw[A6]
  simp only[Nat.zero_le,if_true,Nat.sub_zero]
  cases hs:args[s]? with
  |none=>trivial
  |some v=>
   have bF:s < bW.length:=by rw[hlen];exact(List.getElem?_eq_some_iff.1 hs).1
   simp only[Option.getD_some]
   have hx:bW[s]? =some bW[s]:=List.getElem?_eq_getElem bF
   have:=b8.mono sk v _ (fun _ _=>rfl) (eu s v _ hs hx)
   simpa[Array.getElem?_append,bF,hx] using this
def G7 (K:aQ) (o:Oper):Option (FuncId×List aO):=match o.op with
 | .call c=>match c.callee with
  | .value (.func f)=>some (f,c.args.toList.map (aU K))
  | .value (.tmp t)=>match look K t with
   | .c (.one (.eM f l))=>some (f,c.args.toList.map (aU K)++oP l)
   |_=>none
  |_=>none
 |_=>none
def T' (P:Program) (f:FuncId) (args:List aO) (ids:List Nat) (K:aQ) (B:aG) (k:aO→fA→Prop):Prop:=
 ∃(X:Type) (aR:aG) (bA:List Nat) (res:X→aO) (bl:X→aG),gV P f args aR bA res bl∧nT B aR∧rW ids K B bA=true∧(∀g,(rW ids K B bA&&pH aR bA (bl g))=true)∧ ∀g,oO (res g) fun r=>k r ⟨cQ aR,bA,jO aR (bl g)⟩
def DP (P:Program) (ids:List Nat) (o:Oper) (K:aQ) (B:aG) (S:aO→fA→Prop):Prop:=
 ∀(N:Nat) (C:Ctx) (a:Act) (w:World),Sat N ids C K B a w→(∀d,o.dst=some d→d < N)→ ∀(fl:Act→World→Prop) (Q:Exit→Act→World→Prop),(∀v e a' w',S v e→Sat N ids C (mL o.dst v K) (fe e.wc B) a' w'→fl a' w')→o.wp P a w fl Q
def Ua (o:Oper):Bool:=match o.op with
 | .next _ _=>true
 | .binOp .eql _ _ (.const (.slice none 0 0)) _=>true
 | .call c=>match c.callee with
  | .builtin .delete=>true
  |_=>false
 |_=>false
def zv (P:Program) (l:Nat) (args:List aO) (aR:aG) {X:Type} (res:X→aO) (bl:X→aG):Prop:=
 ∀(ρ:Nat→bq) (F:Nat→Nat→Prop) (I:Nat→Prop) (w:World) (bW:List Value),
  (∀b,I b→b < w.heap.size)→(∀c ch,ax aR c=some ch→Holds ρ I (F c) w (ρ c) ch)→(∀c ch,ax aR c=some ch→ ∀b,F c b→b < w.heap.size∧ ¬I b)→
  (∀c bS ch ch' b,ax aR c=some ch→ax aR bS=some ch'→c≠bS→F c b→ ¬F bS b)→
  bW.length=args.length→(∀(i:Nat) (v:aO) (x:Value),args[i]? =some v→bW[i]? =some x→b8 ρ I w v x)→
  ∃f tmps assign body,(Instr.yield l bW.toArray).run P w= .ok (.round l f tmps assign body) w∧RoundIn (nV none) 0 P l f tmps assign body w fun e w'=> ∃(g:X) (x:Value) (ρ':Nat→bq) (F':Nat→Nat→Prop),e= .returned x∧Fr (fun b=> ∃c ch,ax aR c=some ch∧F c b) w w'∧(∀c,ρ' c=ρ c)∧
   ∃I':Nat→Prop,Ext I w I' w'∧(∀b,I' b→b < w'.heap.size∧(I b∨(∃c ch,ax aR c=some ch∧F c b)∨w.heap.size≤b))∧
   (∀c ch,ax (bl g) c=some ch→Holds ρ' I' (F' c) w' (ρ' c) ch)∧
   (∀c ch,ax (bl g) c=some ch→ ∀b,F' c b→b < w'.heap.size∧ ¬I' b∧((∃cx cm,ax aR cx=some cm∧F cx b)∨w.heap.size≤b))∧
   (∀c bS ch ch' b,ax (bl g) c=some ch→ax (bl g) bS=some ch'→c≠bS→F' c b→ ¬F' bS b)∧b8 ρ' I' w' (res g) x
def yieldOf (K:aQ) (o:Oper):Option (Nat×List aO):=match o.op with
 | .call c=>match c.callee with
  | .value (.tmp t)=>match look K t with
   | .c (.one (.raw (.func (.yield l) fs cs)))=>match fs.toList,cs.toList with
    | [],[]=>some (l,c.args.toList.map (aU K))
    |_,_=>none
   |_=>none
  |_=>none
 |_=>none
def Ub (P:Program) (l:Nat) (args:List aO) (B:aG) (k:aO→fA→Prop):Prop:=
 ∃(X:Type) (aR:aG) (res:X→aO) (bl:X→aG),zv P l args aR res bl∧nT B aR∧(∀g,pH aR [] (bl g)=true)∧ ∀g,oO (res g) fun r=>k r ⟨cQ aR,[],jO aR (bl g)⟩
theorem Uc {ev:Operand→Value} {l:Nat} {c:Call} {x:Operand} {xs:List Operand} {w:World} (az:o.op= .call c) (aa:c.callee= .value x) (af:c.args.toList=xs) (AZ:ev x= .func (.yield l) #[] #[]):(execOp ev o).run P w=(Instr.yield l (xs.map ev).toArray).run P w:=by
 have fT:c.args=xs.toArray:=by rw[←af]
 obtain⟨tj,args,ts⟩:=c
 simp only at aa fT
 subst aa fT
 simp[execOp,az,resolve,invoke,AZ,Deferred.ofValue]
theorem Ud {l:Nat} {xs:List aO} (h:yieldOf K o=some (l,xs)) {ρ:Nat→bq} {I:Nat→Prop} {a:Act} {w:World} (hS:ek K ρ I a w): ∃bW:List Value,(execOp a.eval o).run P w=(Instr.yield l bW.toArray).run P w∧(∀c,o.op≠ .defer c)∧bW.length=xs.length∧ ∀(i:Nat) (v:aO) (x:Value),xs[i]? =some v→bW[i]? =some x→b8 ρ I w v x:=by
 unfold yieldOf at h
 split at h
 ·rename_i c az
  split at h
  ·rename_i t hc
   split at h
   ·rename_i l' fs cs aB
    split at h
    ·rename_i vR nZ
     injection h with h
     injection h with aa af
     subst aa af
     have vR:fs= #[]:=by rw[←Array.toList_inj];exact vR
     have nZ:cs= #[]:=by rw[←Array.toList_inj];exact nZ
     subst vR nZ
     have hv:a.eval (.tmp t)= .func (.yield l') #[] #[]:=hS.ev (x:=.tmp t) (s:=.c (.one (.raw (.func (.yield l') #[] #[])))) aB
     have dJ: ∀d,o.op≠ .defer d:=fun d e=>by rw[az] at e;cases e
     refine⟨c.args.toList.map a.eval,?_,dJ,by simp,fun i v x hv hx=>?_⟩
     ·exact Uc az hc rfl hv
     ·rw[List.getElem?_map] at hv hx
      obtain⟨z,aS,rfl⟩:=Option.map_eq_some_iff.1 hv
      rw[aS] at hx
      simp only[Option.map_some,Option.some.injEq] at hx
      subst hx
      exact hS.get z
    ·cases h
   ·cases h
  ·cases h
 ·cases h
theorem Ue {l:Nat} {args:List aO} (az:yieldOf K o=some (l,args)) {X:Type} {aR:aG} {res:X→aO} {bl:X→aG} (aF:zv P l args aR res bl) (ja:nT B aR) (bB: ∀g,pH aR [] (bl g)=true)
  {C:Ctx} {a:Act} {w:World} (hs:Sat N ids C K B a w) (bF: ∀d,o.dst=some d→d < N) {r:Option Nat} {fl:Act→World→Prop} {Q:Exit→Act→World→Prop} (hK: ∀g a' w',Sat N ids C (mL o.dst (res g) K) (fe (jO aR (bl g)) B) a' w'→fl a' w'):o.wpIn (nV r) 0 P a w fl Q:=by
 obtain⟨hn,hd,ρ,F,aA,hS⟩:=hs
 have eU: ∀{c ch},ax aR c=some ch→ax B c=some ch:=fun {c ch} hc=>kO ja hc
 obtain⟨bW,ep,dJ,ri,tr⟩:=Ud (P:=P) (w:=w) az hS
 obtain⟨f,tmps,assign,body,Uf,Ug⟩:=aF ρ F (bO C B F w) w bW (fun b ag=>ag.1) (fun c ch hc=>aA.holds c ch (eU hc)) (fun c ch hc b ag=>⟨(aA.own c ch (eU hc) b ag).1,fun bC=>bC.2.2 c ch (eU hc) ag⟩)
  (fun c bS ch ch' b aa af=>aA.e8 c bS ch ch' b (eU aa) (eU af)) ri tr
 refine⟨fun _ _=>trivial,?_⟩
 rw[Oper.semAt_eq _ _ _ dJ,ep,Uf,Oper.uponIn_round]
 refine⟨fun hs=>absurd hs (by simp),RoundIn.mono (F:=nV r) (n:=0 - 1) Ug ?_⟩
 rintro e w' ⟨g,x,ρ',F',rfl,cr,dn,I',kX,iI,dW,aV,jQ,eu⟩
 exact hK g _ _ (Sat.back ja rfl (bB g) hn hd aA hS bF cr (fun c _=>dn c) iI dW aV jQ eu)
def Uh (K:aQ) (o:Oper):Bool:=match o.op with
 | .mapUpdate _ _ _ v=>match aU K v with
  | .c (.one (.ptr _ 0))=>true
  |_=>false
 |_=>false
def G8 (P:Program) (tt:cY) (ids:List Nat) (o:Oper) (K:aQ) (B:aG) (k:aO→fA→Prop):Prop:=match G7 K o with
 |some (f,xs)=>T' P f xs ids K B k
 |none=>match yieldOf K o with
  |some (l,xs)=>Ub P l xs B k
  |none=>match Ua o||Uh K o with
   |true=> ∃S:aO→fA→Prop,DP P ids o K B S∧ ∀v e,S v e→oO v fun v=>k v e
   |false=>yT P tt ids o K B k
def G9 (P:Program) (tt:cY) (ids:List Nat) (all:List Oper) (o:Oper) (l:List Oper) (aZ:aQ→aG→Prop) (K:aQ) (B:aG):Prop:=
 match wants all K o.guard with
 |none=>False
 |some false=>match o.dst with
  |some d=>aZ ((d,.undef)::K) B
  |none=>aZ K B
 |some true=>G8 P tt ids o K B fun v e=>match o.dst with
  |none=>aZ K (fe e.wc B)
  |some d=>match AN (all.length - l.length - 1) l,v with
   |true,.c (.one (.d (.bool b)))=>(b=true→aZ ((d,.c (.one (.d (.lit true))))::K) (fe e.wc B))∧(b=false→aZ ((d,.c (.one (.d (.lit false))))::K) (fe e.wc B))
   |_,v=>aZ ((d,v)::K) (fe e.wc B)
noncomputable def DQ (P:Program) (tt:cY) (ids:List Nat) (all l:List Oper) (K:aQ) (B:aG) (k:aQ→aG→Prop):Prop:=
 List.rec (motive:=fun _=>aQ→aG→Prop) k (fun o l aZ K B=>G9 P tt ids all o l aZ K B) l K B
theorem Ui {all l:List Oper} {k:aQ→aG→Prop}:DQ P tt ids all (o::l) K B k=G9 P tt ids all o l (fun K B=>DQ P tt ids all l K B k) K B:=rfl
theorem Uj {f:FuncId} {xs:List aO} (h:G7 K o=some (f,xs)) (ρ:Nat→bq) (I:Nat→Prop) (a:Act) (w:World) (hS:ek K ρ I a w): ∃bW:List Value,(mN P f=true→(execOp a.eval o).run P w= .ok (.enter f bW.toArray) w)∧bW.length=xs.length∧ ∀(i:Nat) (v:aO) (x:Value),xs[i]? =some v→bW[i]? =some x→b8 ρ I w v x:=by
 unfold G7 at h
 split at h
 ·rename_i c az
  split at h
  ·rename_i f' hc
   injection h with h
   injection h with aa af
   subst aa af
   refine⟨c.args.toList.map a.eval,fun iQ=>LJ iQ az hc rfl rfl,by simp,fun i v x hv hx=>?_⟩
   rw[List.getElem?_map] at hv hx
   obtain⟨z,aS,rfl⟩:=Option.map_eq_some_iff.1 hv
   rw[aS] at hx
   simp only[Option.map_some,Option.some.injEq] at hx
   subst hx
   exact hS.get z
  ·rename_i t hc
   split at h
   ·rename_i f' l aB
    injection h with h
    injection h with aa af
    subst aa af
    have hv:=hS t
    rw[aB] at hv
    obtain⟨vs,e,He⟩:=hv
    obtain⟨cC,cR⟩:=gZ.bW l vs He
    refine⟨c.args.toList.map a.eval++vs,fun iQ=>GG iQ az hc rfl e,by simp[cC],fun i v x hv hx=>?_⟩
    by_cases aD:i < c.args.toList.length
    ·rw[List.getElem?_append_left (by simpa using aD)] at hv hx
     rw[List.getElem?_map] at hv hx
     obtain⟨z,aS,rfl⟩:=Option.map_eq_some_iff.1 hv
     rw[aS] at hx
     simp only[Option.map_some,Option.some.injEq] at hx
     subst hx
     exact hS.get z
    ·rw[List.getElem?_append_right (by simpa using aD)] at hv hx
     simp only[List.length_map] at hv hx
     exact cR _ v x hv hx
   ·cases h
  ·cases h
 ·cases h
theorem Uk (bh:dQ P tt) (dJ: ∀c,o.op≠ .defer c) (r:Option Nat) {k:aO→fA→Prop} (h:G8 P tt ids o K B k) {C:Ctx} {a:Act} {w:World} (hs:Sat N ids C K B a w) (bF: ∀d,o.dst=some d→d < N) {fl:Act→World→Prop} {Q:Exit→Act→World→Prop} (hK: ∀v e a' w',k v e→Sat N ids C (mL o.dst v K) (fe e.wc B) a' w'→fl a' w'):o.wpIn (nV r) 0 P a w fl Q:=by
 unfold G8 at h
 split at h
 ·rename_i f xs hc
  obtain⟨X,aR,bA,res,bl,aa,af,ay,bu,dI⟩:=h
  refine ze dJ (T8 (Uj hc) aa af ay bu hs bF fun g a' w' dM=>?_)
  have dI:=dI g
  rw[uu] at dI
  exact hK _ _ _ _ dI dM
 ·split at h
  ·rename_i l xs hc
   obtain⟨X,aR,res,bl,aa,af,ay,bu⟩:=h
   refine Ue hc aa af ay hs bF fun g a' w' dM=>?_
   have bu:=bu g
   rw[uu] at bu
   exact hK _ _ _ _ bu dM
  ·split at h
   ·obtain⟨S,hS,h⟩:=h
    refine ze dJ (hS N C a w hs bF fl Q fun v e a' w' hv dM=>?_)
    have h:=h v e hv
    rw[uu] at h
    exact hK _ _ _ _ h dM
   ·obtain⟨v,e,h,aV,hf⟩:=A2 bh h
    exact ze dJ (aV K B (fun _ _=>rfl) (fun _ _=>rfl) hf C a w hs bF fl Q fun a' w' eR=>hK _ _ _ _ h eR)
theorem xN (bh:dQ P tt) (all:List Oper): ∀(l:List Oper) (K:aQ) (B:aG) (k:aQ→aG→Prop),qs N l=true→DQ P tt ids all l K B k→ ∀(C:Ctx) (a:Act) (w:World),Sat N ids C K B a w→
  ∀(r:Option Nat) (Q:Exit→Act→World→Prop),(∀K' B',k K' B'→ ∀a' w',Sat N ids C K' B' a' w'→Q .normal a' w')→wpListIn (nV r) 0 P all.toArray Q l a w
 | [],K,B,k,_,h,C,a,w,hs,r,Q,aq=>wpListIn_nil (aq K B h a w hs)
 |o::l,K,B,k,hd,h,C,a,w,hs,r,Q,aq=>by
  simp only[qs,Bool.and_eq_true] at hd
  obtain⟨⟨si,dJ⟩,c9⟩:=hd
  have dJ:=Dt dJ
  have bF: ∀d,o.dst=some d→d < N:=fun d e=>by rw[e] at si;simpa[Nat.blt_eq] using si
  have dM:=hs
  obtain⟨_,_,ρ,F,aA,hS⟩:=dM
  rw[Ui] at h
  unfold G9 at h
  refine wpListIn_step fun fl vT=>?_
  split at h
  ·exact h.elim
  ·rename_i hw
   rw[if_neg (by rw[vS hw hS];simp)]
   refine⟨fun _ _=>trivial,vT _ _ ?_⟩
   have hu:=hs.undef o.dst bF
   split at h
   ·rename_i d e
    rw[e] at hu⊢
    exact xN bh all l _ _ k c9 h C _ w hu r Q aq
   ·rename_i e
    rw[e] at hu⊢
    exact xN bh all l _ _ k c9 h C _ w hu r Q aq
  ·rename_i hw
   rw[if_pos (vS hw hS)]
   refine Uk bh dJ r h hs bF fun v e a' w' h eR=>vT _ _ ?_
   split at h
   ·rename_i ak
    rw[ak] at eR
    exact xN bh all l _ _ k c9 h C _ w' eR r Q aq
   ·rename_i d ak
    rw[ak] at eR
    split at h
    ·rename_i b bk
     cases b with
     |true=>exact xN bh all l _ _ k c9 (h.1 rfl) C _ w' eR.lit r Q aq
     |false=>exact xN bh all l _ _ k c9 (h.2 rfl) C _ w' eR.lit r Q aq
    ·exact xN bh all l _ _ k c9 h C _ w' eR r Q aq
theorem av.uP (bh:dQ P tt) {id:Nat} {ops:Array Oper} {Q:oQ→aQ→aG→Prop} (hd:qs N ops.toList=true) (h:DQ P tt ids ops.toList ops.toList K B (fun K B=>Q .gp K B)):av P N ids (.region id ops false) K B Q:=by
 intro r hr C gP bp a w hs
 refine wpIn_region_list ?_
 have:=xN bh ops.toList ops.toList K B _ hd h C a w hs r gP (fun K' B' aq a' w' dM=>bp .gp K' B' C.ds (fun _=>rfl) aq a' w' dM)
 simpa using this
def gI (ids:List Nat) (K:aQ) (B:aG) {X:Type} (K':X→aQ) (B':X→aG):Prop:= ∀(N:Nat) (C:Ctx) (a:Act) (w:World),Sat N ids C K B a w→ ∃x,Sat N ids C (K' x) (B' x) a w
theorem av.og {c:Code} {X:Type} {K':X→aQ} {B':X→aG} {Q:oQ→aQ→aG→Prop} (h:gI ids K B K' B') (cc: ∀x,av P N ids c (K' x) (B' x) Q):av P N ids c K B Q:=fun r hr C gP bp a w hs=>by
 obtain⟨x,hx⟩:=h N C a w hs
 exact cc x r hr C gP bp a w hx
end
end Go.Proofs.YteoamepgonpdlaaGreat
